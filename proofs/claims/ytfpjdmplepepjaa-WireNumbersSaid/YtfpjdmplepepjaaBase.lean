/- Small facts on worlds, texts and lists that all walks of this claim use. -/
import Derived.Test.YtfpjdmplepepjaaChecked
import Derived.WalkKit
import Derived.WalkSpells
import Derived.WalkLawsBesides
import Derived.Lib.Hide
namespace Go.Proofs.Ytfpjdmplepepjaa
open Go.RowKit

/-- A name for a value, its equation kept from the walk. -/
theorem nm {α : Type} (v : α) : ∃ d : α, Hid (d = v) := ⟨v, rfl⟩

/-- A text's bytes; the text of some bytes. -/
def bl (s : ByteArray) : List UInt8 := s.data.toList
def ofL (l : List UInt8) : ByteArray := ⟨l.toArray⟩
theorem bl_ofL (l : List UInt8) : bl (ofL l) = l := rfl
theorem ofL_bl (s : ByteArray) : ofL (bl s) = s := rfl
theorem bl_append (a b : ByteArray) : bl (a ++ b) = bl a ++ bl b := by simp [bl, ByteArray.data_append]
theorem bl_length (s : ByteArray) : (bl s).length = s.size := by show s.data.toList.length = s.data.size; simp
theorem ofL_size (l : List UInt8) : (ofL l).size = l.length := by simp [ofL, ByteArray.size]
theorem ofL_append (a b : List UInt8) : ofL a ++ ofL b = ofL (a ++ b) := ByteArray.mk_append_mk a b
theorem bl_extract (s : ByteArray) (a b : Nat) : bl (s.extract a b) = ((bl s).drop a).take (b - a) := by
  unfold bl
  have : (s.extract a b).data = s.data.extract a b := ByteArray.data_extract
  rw [this, Array.toList_extract]
theorem bl_inj {a b : ByteArray} (h : bl a = bl b) : a = b := by
  rw [← ofL_bl a, ← ofL_bl b, h]

/-- Some bytes as the cells of a row. -/
def byteCells (l : List UInt8) : Array Value := (l.map fun b => Value.int .u8 (b.toNat : Int)).toArray
theorem byteCells_size (l : List UInt8) : (byteCells l).size = l.length := by simp [byteCells]
theorem byteCells_get (l : List UInt8) (i : Nat) : (byteCells l)[i]? = (l[i]?).map fun b => Value.int .u8 (b.toNat : Int) := by simp [byteCells]

theorem strOfNums_bytes (l : List UInt8) : strOfNums (l.map fun b => (b.toNat : Int)) = ofL l := by
  have h : ((l.map fun b => (b.toNat : Int)).map fun n => UInt8.ofNat n.toNat) = l := by
    rw [List.map_map]
    conv => rhs; rw [← List.map_id l]
    apply List.map_congr_left
    intro b _
    simp
  unfold strOfNums ofL
  rw [h]

/-- 'string(b)' of a row whose cells are known. -/
theorem conv_str {P : Program} (w : World) (src e dst : TypeId) (hs : P.underlying src = some (.slice e)) (he : P.underlying e = some (.int .u8)) (hd : P.underlying dst = some .string)
    (b off len cap : Nat) (l : List UInt8) (hlen : l.length = len) (hcell : ∀ i, i < len → w.cell? ⟨b, off + i, none⟩ = (l[i]?).map fun b => Value.int .u8 (b.toNat : Int)) :
    (convert src dst (.slice (some ⟨b, off, none⟩) len cap)).run P w = .ok (.string (ofL l)) w := by
  rw [← strOfNums_bytes l]
  refine run_convert_bytes_arg w src e hs he b off len cap _ (by simpa using hlen) (fun i hi => ?_) dst hd
  rw [hcell i hi]
  have : i < l.length := by omega
  simp [this]

/-- 'string(b)' of a row that was just made. -/
theorem conv_new {P : Program} (w : World) (src e dst t : TypeId) (hs : P.underlying src = some (.slice e)) (he : P.underlying e = some (.int .u8)) (hd : P.underlying dst = some .string)
    (len cap : Nat) (l : List UInt8) (c : Array Value) (hlen : l.length = len) (hc : c = byteCells l) :
    (convert src dst (.slice (some ⟨w.heap.size, 0, none⟩) len cap)).run P (w.alloc (.cells c t)) = .ok (.string (ofL l)) (w.alloc (.cells c t)) := by
  subst hc
  refine conv_str _ src e dst hs he hd _ 0 len cap l hlen fun i _ => ?_
  rw [Nat.zero_add, World.cell?_alloc_at _ _ _ _ rfl, byteCells_get]

theorem toList_ofL (l : List UInt8) : (ofL l).toList = l := ByteArray.toList_mk l
theorem toList_bl (s : ByteArray) : s.toList = bl s := ByteArray.toList_eq s

/-- What a call has made of a later world; a block more. -/
theorem bNext {w a b : World} (h : Below w.heap.size w a) (k : Below a.heap.size a b) : Below w.heap.size w b := h.trans (k.mono h.size)
theorem bNew {w a : World} (h : Below w.heap.size w a) (o : Obj) : Below w.heap.size w (a.alloc o) := h.alloc h.size o

theorem below_cell {W w1 : World} {B : Nat} (hb : Below B W w1) : (∀ b o, b < B → w1.cell? ⟨b, o, none⟩ = W.cell? ⟨b, o, none⟩) ∧ (∀ b o, b < B → w1.frozen? ⟨b, o, none⟩ = W.frozen? ⟨b, o, none⟩) :=
  ⟨fun b o h => hb.cell (p := ⟨b, o, none⟩) h, fun b o h => hb.frozen (p := ⟨b, o, none⟩) h⟩

end Go.Proofs.Ytfpjdmplepepjaa
