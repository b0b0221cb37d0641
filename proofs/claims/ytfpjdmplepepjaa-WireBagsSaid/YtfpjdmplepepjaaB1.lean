/- Small facts on worlds, texts and lists that all walks of this claim use. (and what stands on it: 33 texts in one) -/
import Derived.Test.YtfpjdmplepepjaaChecked
import Derived.WalkKit
import Derived.WalkSpells
import Derived.WalkLawsBesides
import Derived.Lib.Hide
import Derived.Test.YtfpjdmplepepjaaRows
import Derived.ProofKit
import Derived.OpenShut
import Derived.Deep.DeepHandedRow
import Derived.Lib.LaidTab
import Derived.SliceStrings
import Derived.Deep.Grids
import Derived.Lib.SmallJoins
import Derived.Deep.AppendLies
import Derived.OwnWalk
import Derived.Deep.Slices
import Derived.Deep.Strs
import Derived.Deep.Draws
import Derived.Lib.Small
import Derived.Test.YtfpjdmplepepjaaProg
import Derived.Laws.StructEq
import Derived.Lib.BitFns
import Derived.Deep.RegionHeld3
import Derived.Shelf.SlicesG.Cmp
import Derived.BigQuiet
import Derived.Deep.QuietTactic
import Derived.StillTailTactics
import Derived.Outline
import Derived.Shelf.RegionOpenPlain
import Derived.Sort.Grow
import Derived.WalkMore
import Derived.IntWalk
import Derived.Shelf.Strconv.Itoa0
import Derived.Shelf.Bits.Mul64
import Derived.Deep.DeepCutAuto
import Derived.Shelf.Strings.Builder1
/-! Base: Small facts on worlds, texts and lists that all walks of this claim use. -/
namespace Go.Proofs.Ytfpjdmplepepjaa
open Go.RowKit

/-- A name for a value, its equation kept from the walk. -/
theorem nm {α : Type} (v : α) : ∃ d : α, Hid (d = v) := ⟨v, rfl⟩

/-- A text's bytes; the text of some bytes. -/
def bl (s : ByteArray) : List UInt8 := s.data.toList
def ofL (l : List UInt8) : ByteArray := ⟨l.toArray⟩
theorem bl_ofL (l : List UInt8) : bl (ofL l) = l := rfl
theorem ofL_bl (s : ByteArray) : ofL (bl s) = s := rfl
theorem bl_append (a b : ByteArray) : bl (a ++ b) = bl a ++ bl b := by simp [bl, ByteArray.data_append]
theorem bl_length (s : ByteArray) : (bl s).length = s.size := by show s.data.toList.length = s.data.size; simp
theorem ofL_size (l : List UInt8) : (ofL l).size = l.length := by simp [ofL, ByteArray.size]
theorem ofL_append (a b : List UInt8) : ofL a ++ ofL b = ofL (a ++ b) := ByteArray.mk_append_mk a b
theorem bl_extract (s : ByteArray) (a b : Nat) : bl (s.extract a b) = ((bl s).drop a).take (b - a) := by
  unfold bl
  have : (s.extract a b).data = s.data.extract a b := ByteArray.data_extract
  rw [this, Array.toList_extract]
theorem bl_inj {a b : ByteArray} (h : bl a = bl b) : a = b := by
  rw [← ofL_bl a, ← ofL_bl b, h]

/-- Some bytes as the cells of a row. -/
def byteCells (l : List UInt8) : Array Value := (l.map fun b => Value.int .u8 (b.toNat : Int)).toArray
theorem byteCells_get (l : List UInt8) (i : Nat) : (byteCells l)[i]? = (l[i]?).map fun b => Value.int .u8 (b.toNat : Int) := by simp [byteCells]

theorem strOfNums_bytes (l : List UInt8) : strOfNums (l.map fun b => (b.toNat : Int)) = ofL l := by
  have h : ((l.map fun b => (b.toNat : Int)).map fun n => UInt8.ofNat n.toNat) = l := by
    rw [List.map_map]
    conv => rhs; rw [← List.map_id l]
    apply List.map_congr_left
    intro b _
    simp
  unfold strOfNums ofL
  rw [h]

/-- 'string(b)' of a row whose cells are known. -/
theorem conv_str {P : Program} (w : World) (src e dst : TypeId) (hs : P.underlying src = some (.slice e)) (he : P.underlying e = some (.int .u8)) (hd : P.underlying dst = some .string)
    (b off len cap : Nat) (l : List UInt8) (hlen : l.length = len) (hcell : ∀ i, i < len → w.cell? ⟨b, off + i, none⟩ = (l[i]?).map fun b => Value.int .u8 (b.toNat : Int)) :
    (convert src dst (.slice (some ⟨b, off, none⟩) len cap)).run P w = .ok (.string (ofL l)) w := by
  rw [← strOfNums_bytes l]
  refine run_convert_bytes_arg w src e hs he b off len cap _ (by simpa using hlen) (fun i hi => ?_) dst hd
  rw [hcell i hi]
  have : i < l.length := by omega
  simp [this]

/-- 'string(b)' of a row that was just made. -/
theorem conv_new {P : Program} (w : World) (src e dst t : TypeId) (hs : P.underlying src = some (.slice e)) (he : P.underlying e = some (.int .u8)) (hd : P.underlying dst = some .string)
    (len cap : Nat) (l : List UInt8) (c : Array Value) (hlen : l.length = len) (hc : c = byteCells l) :
    (convert src dst (.slice (some ⟨w.heap.size, 0, none⟩) len cap)).run P (w.alloc (.cells c t)) = .ok (.string (ofL l)) (w.alloc (.cells c t)) := by
  subst hc
  refine conv_str _ src e dst hs he hd _ 0 len cap l hlen fun i _ => ?_
  rw [Nat.zero_add, World.cell?_alloc_at _ _ _ _ rfl, byteCells_get]

theorem toList_bl (s : ByteArray) : s.toList = bl s := ByteArray.toList_eq s

/-- What a call has made of a later world; a block more. -/
theorem bNext {w a b : World} (h : Below w.heap.size w a) (k : Below a.heap.size a b) : Below w.heap.size w b := h.trans (k.mono h.size)
theorem bNew {w a : World} (h : Below w.heap.size w a) (o : Obj) : Below w.heap.size w (a.alloc o) := h.alloc h.size o
end Go.Proofs.Ytfpjdmplepepjaa

/-! Law: What every law of this claim needs at its end: its arguments read as they did, since nothing that was there has turned. -/
namespace Go.Proofs.Ytfpjdmplepepjaa
open Go.ChangeShapes Go.WideShapes Go.ChangeAt Go.RowKit

section
variable {H : Type} {enc : TypeId × Value → H} {P : Program}

theorem trodAll_below (hl : laidOutB P = true) {W W' : World} (hb : Below W.heap.size W W') :
    ∀ {ts : List TypeId} {vs : List Value} {ds : List (DataW H)} {ps : List MemPlace}, (∀ t ∈ ts, P.readableRec t = true ∧ t < P.types.size) →
      DataW.TrodAll enc P W 0 (fun _ => true) true ts vs ds ps → (∀ x ∈ ps, x.block < W.heap.size) →
      DataW.TrodAll enc P W' 0 (fun b => decide (b < W.heap.size)) true ts vs ds ps
  | [], _, _, _, _, h, _ => by
    obtain ⟨rfl, rfl, rfl⟩ := trodAll_nil h
    exact rfl
  | t :: ts, _, _, _, hr, h, hlt => by
    obtain ⟨v, vs', d, ds', p, q, rfl, rfl, rfl, h0, h1⟩ := trodAll_cons h
    refine trodAll_cons_mk (Below.trod hl (hr t (by simp)).1 (hr t (by simp)).2 h0 hb fun x hx => hlt x (by simp [hx])) ?_
    exact trodAll_below hl hb (fun u hu => hr u (by simp [hu])) h1 fun x hx => hlt x (by simp [hx])

/-- The end of a law: true, and every argument as before. -/
theorem law_post (hl : laidOutB P = true) {f : Func} {s : ChangeSpec} {tb : TypeId} (htb : P.underlying tb = some .bool) {W W' : World} {args : Array Value} {ds gs : List (DataW H)} {before : List MemPlace}
    (hr : f.resultTypes = #[tb]) (hp : (f.params.toList.all fun t => P.readableRec t && decide (t < P.types.size)) = true) (hv : s.vars = [])
    (hs1 : (s.fn H ds).results = [.lit (.bool true)]) (hs2 : (s.fn H ds).args = ds) (hs3 : (s.fn H ds).vars = [])
    (hW : DataW.Whole enc P f.params.toList s.vars false W args.toList ds gs before) (hb : Below W.heap.size W W') :
    s.post enc P f false true false false W args (.bool true) W' := by
  have hlt := hW.lt
  have hW' := hW
  obtain ⟨p, q, hA, hV, rfl, _, _⟩ := hW
  rw [hv] at hV
  obtain ⟨rfl, rfl⟩ := trodVars_none hV
  refine ⟨ds, [], _, [], p, [], hW', ?_, ?_, ?_, hb.frame _, fun h => by cases h⟩
  · rw [List.append_nil, hs1, hr]
    exact trodAll_cons_mk (shut_bool htb true) trodAll_mk0
  · rw [List.append_nil, hs2]
    refine trodAll_below hl hb (fun t ht => ?_) hA (fun x hx => hlt x (by simp [hx]))
    have := List.all_eq_true.1 hp t ht
    simpa using this
  · rw [List.append_nil, hs3, hv]
    exact rfl
end

theorem own : ownKnob Try.prog.godebug = none := by kernel_rfl
theorem laidOut : laidOutB Try.prog = true := by kernel_rfl
end Go.Proofs.Ytfpjdmplepepjaa

/-! Slices: Slices that came in, as a walk wants them: each element's cell, if there is one. -/
namespace Go.Proofs.Ytfpjdmplepepjaa
open Go.ChangeShapes Go.WideShapes Go.ChangeAt Go.RowKit

/-- A slice that came in: its elements are xs. -/
def SlAt (w : World) (ao : Option Addr) (xs : List Value) : Prop := ∀ k, k < xs.length → ∃ b off, ao = some ⟨b, off, none⟩ ∧ b < w.heap.size ∧ ∀ j, j < xs.length → w.cell? ⟨b, off + j, none⟩ = xs[j]?

section
variable {H : Type} {enc : TypeId × Value → H} {P : Program} {w : World} {base : Nat} {spare : Nat → Bool} {held : Bool}

theorem SlAt.take {ao : Option Addr} {xs : List Value} (n : Nat) (h : SlAt w ao xs) : SlAt w ao (xs.take n) := by
  intro k hk
  rw [List.length_take] at hk
  obtain ⟨b, off, h1, h2, h3⟩ := h k (by omega)
  refine ⟨b, off, h1, h2, fun j hj => ?_⟩
  rw [List.length_take] at hj
  rw [h3 j (by omega), List.getElem?_take, if_pos (by omega)]

theorem SlAt.below {w' : World} {ao : Option Addr} {xs : List Value} (h : SlAt w ao xs) (hb : Below w.heap.size w w') : SlAt w' ao xs := by
  intro k hk
  obtain ⟨b, off, h1, h2, h3⟩ := h k hk
  exact ⟨b, off, h1, Nat.lt_of_lt_of_le h2 hb.size, fun j hj => (hb.cell (p := ⟨b, off + j, none⟩) h2).trans (h3 j hj)⟩

end
end Go.Proofs.Ytfpjdmplepepjaa

/-! OwnV: A row of strings that a call owns, as a slice; are two lists of texts the same? -/
namespace Go.Proofs.Ytfpjdmplepepjaa
open Go.RowKit

/-- A row that lies above what may turn is as it was. -/
theorem SlAt.above {w w' : World} {ao : Option Addr} {xs : List Value} {B : Nat} (h : SlAt w ao xs) (hn : ∀ a, ao = some a → B ≤ a.block) (hs : w.heap.size ≤ w'.heap.size) (hk : ∀ k, k < w.heap.size → B ≤ k → w'.heap[k]? = w.heap[k]?) : SlAt w' ao xs := by
  intro k hk'
  obtain ⟨b, off, h1, h2, h3⟩ := h k hk'
  refine ⟨b, off, h1, Nat.lt_of_lt_of_le h2 hs, fun j hj => ?_⟩
  rw [← h3 j hj]
  simp only [World.cell?, hk b h2 (hn _ h1)]

theorem own_below {w w' : World} {base : Nat} {e : TypeId} {sz : Nat} {v : Value} {n : Nat} {xs : List Value} (h : w.ownsRow base e sz v n xs) (hb : Below w.heap.size w w') : w'.ownsRow base e sz v n xs :=
  h.kept (row := none) ⟨hb.os, hb.tape, hb.output, hb.size, fun k hk _ => hb.block k hk⟩ (by cases v.ownBlock <;> simp)
end Go.Proofs.Ytfpjdmplepepjaa

/-! OpenRows: Slices of structs that came in: each row's cells. -/
namespace Go.Proofs.Ytfpjdmplepepjaa
open Go.ChangeShapes Go.WideShapes Go.ChangeAt Go.RowKit
section
variable {H : Type} {enc : TypeId × Value → H} {P : Program} {w : World} {base : Nat} {spare : Nat → Bool} {held : Bool}

/-- A slice of rows of c cells, opened: each row's cells. -/
theorem open_rows {t e : TypeId} {c : Nat} {v : Value} {d : DataW H} {ps : List MemPlace} (ht : P.underlying t = some (.slice e)) (hc : P.cellsOf e = c) (hc0 : 0 < c)
    (h : DataW.Trod enc P w base spare held t v d ps) (hv : ∃ a len cap, v = .slice a len cap) :
    ∃ (ao : Option Addr) (len cap : Nat) (Cs : Nat → List Value), v = .slice ao len cap ∧ len ≤ cap ∧ cap ≤ maxLen ∧ ∀ k, k < len → ∃ b off, ao = some ⟨b, off, none⟩ ∧ b < w.heap.size ∧ (Cs k).length = c ∧
      (∀ j, j < c → w.cell? ⟨b, off + (k * c + j), none⟩ = (Cs k)[j]?) ∧ ∃ n x, DataW.trod enc P w base spare held n e (Cs k) = some x := by
  obtain ⟨ao, len, cap, rfl⟩ := hv
  obtain ⟨fuel, hf⟩ := h
  rcases Deep.open_slice ht hf with ⟨hcs, _⟩ | ⟨a, len', cap', m, n, D, Pl, hcs, _, hl, hm, hmm, _, hx⟩
  · simp [Value.cells] at hcs
    obtain ⟨rfl, rfl, rfl⟩ := hcs
    exact ⟨none, 0, 0, fun _ => [], rfl, Nat.le_refl _, Nat.zero_le _, fun k hk => absurd hk (Nat.not_lt_zero _)⟩
  · simp [Value.cells] at hcs
    obtain ⟨rfl, rfl, rfl⟩ := hcs
    have hlm : len ≤ m := by rw [hmm]; split <;> omega
    obtain ⟨Cs, hCs⟩ := Deep.choose_lt (fun i (hi : i < m) => hx i hi)
    refine ⟨some a, len, cap, Cs, rfl, hl, hm, fun k hk => ?_⟩
    obtain ⟨h1, h2⟩ := hCs k (by omega)
    rw [hc] at h1
    obtain ⟨_, hlen, hcell⟩ := World.cells?_some h1
    obtain ⟨b, off, spot⟩ := a
    have e0 := hcell 0 hc0
    rw [Deep.add_add] at e0
    have hg : (Cs k)[0]? = some ((Cs k)[0]'(by omega)) := by simp
    have hspot : spot = none := by
      obtain ⟨g1, _⟩ := hCs 0 (by omega)
      rw [hc] at g1
      obtain ⟨_, gl, gc⟩ := World.cells?_some g1
      have g0 := gc 0 hc0
      rw [Deep.add_add, show (Cs 0)[0]? = some ((Cs 0)[0]'(by omega)) from by simp] at g0
      simpa [Addr.add] using World.cell?_spot g0
    subst hspot
    refine ⟨b, off, rfl, ?_, hlen, fun j hj => ?_, _, _, h2⟩
    · rw [hg] at e0
      exact World.block_lt_of_cell? _ _ (by rw [add_plain] at e0; exact e0)
    · have := hcell j hj
      rw [Deep.add_add, add_plain] at this
      exact this
end
end Go.Proofs.Ytfpjdmplepepjaa

/-! Blk: A block whose cells are known whole; what stays of old memory where one block is written. No program in sight. -/
namespace Go.Proofs.Ytfpjdmplepepjaa
open Go.RowKit

/-- Block b has these cells, none of them frozen. -/
def Blk (w : World) (b : Nat) (c : Array Value) (t : TypeId) : Prop := w.heap[b]? = some (.cells c t (0, 0))

theorem Blk.cell {w : World} {b : Nat} {c : Array Value} {t : TypeId} (h : Blk w b c t) (i : Nat) : w.cell? ⟨b, i, none⟩ = c[i]? := by
  unfold Blk at h; simp [World.cell?, h]
theorem Blk.free {w : World} {b : Nat} {c : Array Value} {t : TypeId} (h : Blk w b c t) (i : Nat) : w.frozen? ⟨b, i, none⟩ = false := by
  unfold Blk at h; simp [World.frozen?, h]
theorem Blk.lt {w : World} {b : Nat} {c : Array Value} {t : TypeId} (h : Blk w b c t) : b < w.heap.size := lt_of_block h
theorem Blk.set {w : World} {b : Nat} {c : Array Value} {t : TypeId} (h : Blk w b c t) (i : Nat) (v : Value) : Blk (w.setCell ⟨b, i, none⟩ v) b (c.setIfInBounds i v) t := by
  have hlt := h.lt
  have h' : w.heap[b] = .cells c t (0, 0) := by unfold Blk at h; simpa [Array.getElem?_eq_getElem hlt] using h
  show (w.heap.modify b _)[b]? = _
  rw [Array.getElem?_eq_getElem (by simpa using hlt), Array.getElem_modify_self, h']
  rfl
theorem Blk.setOther {w : World} {b : Nat} {c : Array Value} {t : TypeId} (h : Blk w b c t) {a : Addr} (ha : b ≠ a.block) (v : Value) : Blk (w.setCell a v) b c t :=
  (Below.heap_setCell w a v b ha).trans h
theorem Blk.alloc {w : World} {b : Nat} {c : Array Value} {t : TypeId} (h : Blk w b c t) (o : Obj) : Blk (w.alloc o) b c t :=
  (Below.heap_alloc w o b h.lt).trans h
theorem Blk.drew {w : World} {b : Nat} {c : Array Value} {t : TypeId} (h : Blk w b c t) : Blk w.drew b c t := h
theorem Blk.drewN {w : World} {b : Nat} {c : Array Value} {t : TypeId} (h : Blk w b c t) (n : Nat) : Blk (w.drewN n) b c t := h
theorem Blk.new (w : World) (c : Array Value) (t : TypeId) : Blk (w.alloc (.cells c t)) w.heap.size c t := by
  show (w.heap.push _)[w.heap.size]? = _
  simp
theorem Blk.below {w w' : World} {b : Nat} {c : Array Value} {t : TypeId} (h : Blk w b c t) {B : Nat} (hb : Below B w w') (hB : b < B) : Blk w' b c t := (hb.block b hB).trans h

/-- Of what was there only block b may have turned. -/
structure Kept (b : Nat) (w w' : World) : Prop where
  os : w'.os = w.os
  tape : w'.tape = w.tape
  output : w'.output = w.output
  size : w.heap.size ≤ w'.heap.size
  block : ∀ k, k < w.heap.size → k ≠ b → w'.heap[k]? = w.heap[k]?

theorem Kept.refl (b : Nat) (w : World) : Kept b w w := ⟨rfl, rfl, rfl, Nat.le_refl _, fun _ _ _ => rfl⟩
theorem Kept.trans {b : Nat} {w v u : World} (h : Kept b w v) (k : Kept b v u) : Kept b w u :=
  ⟨k.os.trans h.os, k.tape.trans h.tape, k.output.trans h.output, Nat.le_trans h.size k.size, fun i hi hb => (k.block i (Nat.lt_of_lt_of_le hi h.size) hb).trans (h.block i hi hb)⟩
theorem Kept.drew {b : Nat} {w v : World} (h : Kept b w v) : Kept b w v.drew := ⟨h.os, h.tape, h.output, h.size, h.block⟩
theorem Kept.drewN {b : Nat} {w v : World} (h : Kept b w v) (n : Nat) : Kept b w (v.drewN n) := ⟨h.os, h.tape, h.output, h.size, h.block⟩
theorem Kept.alloc {b : Nat} {w v : World} (h : Kept b w v) (o : Obj) : Kept b w (v.alloc o) :=
  h.trans ⟨rfl, rfl, rfl, by simp, fun k hk _ => Below.heap_alloc _ _ _ hk⟩
theorem Kept.set {b : Nat} {w v : World} (h : Kept b w v) (i : Nat) (u : Value) : Kept b w (v.setCell ⟨b, i, none⟩ u) :=
  h.trans ⟨rfl, rfl, rfl, by simp [World.setCell], fun k _ hb => Below.heap_setCell _ _ _ _ hb⟩
theorem Kept.setNew {b : Nat} {w v : World} (h : Kept b w v) {a : Addr} (ha : w.heap.size ≤ a.block) (u : Value) : Kept b w (v.setCell a u) :=
  ⟨h.os, h.tape, h.output, by simpa [World.setCell] using h.size, fun k hk hb => (Below.heap_setCell _ _ _ _ (by omega)).trans (h.block k hk hb)⟩
theorem Kept.ofBelow {b : Nat} {w v : World} (h : Below w.heap.size w v) : Kept b w v := ⟨h.os, h.tape, h.output, h.size, fun k hk _ => h.block k hk⟩
theorem Kept.below {b : Nat} {w v : World} (h : Kept b w v) {B : Nat} (hB : B ≤ b) (hs : B ≤ w.heap.size) : Below B w v :=
  ⟨h.os, h.tape, h.output, h.size, fun k hk => h.block k (by omega) (by omega)⟩
theorem Kept.blk {b b' : Nat} {w v : World} {c : Array Value} {t : TypeId} (h : Kept b w v) (hk : Blk w b' c t) (hne : b' ≠ b) : Blk v b' c t := (h.block b' hk.lt hne).trans hk
end Go.Proofs.Ytfpjdmplepepjaa

/-! WOrd: Names in order: by their node, then by their number; the row that rises. No program in sight. -/
namespace Go.Proofs.Ytfpjdmplepepjaa
open Go.RowKit Go.Lib

/-- Two pairs, compared: by the first, then by the second. -/
def cmpD (x y : Int × Int) : Int := if Lib.compareInt x.1 y.1 = 0 then Lib.compareInt x.2 y.2 else Lib.compareInt x.1 y.1
theorem cmpInt_neg (a b : Int) : Lib.compareInt a b < 0 ↔ a < b := by
  unfold Lib.compareInt
  by_cases h1 : a < b
  · simp [h1]
  · by_cases h2 : b < a <;> simp [h1, h2]
theorem cmpInt_zero (a b : Int) : Lib.compareInt a b = 0 ↔ a = b := by
  unfold Lib.compareInt
  by_cases h1 : a < b
  · simp [h1]; omega
  · by_cases h2 : b < a
    · simp [h1, h2]; omega
    · simp [h1, h2]; omega
def ltP (x y : Int × Int) : Prop := x.1 < y.1 ∨ x.1 = y.1 ∧ x.2 < y.2
instance (x y : Int × Int) : Decidable (ltP x y) := by unfold ltP; exact inferInstance
theorem cmpD_neg (x y : Int × Int) : cmpD x y < 0 ↔ ltP x y := by
  unfold cmpD ltP
  split
  · rename_i h
    have := (cmpInt_zero _ _).1 h
    rw [cmpInt_neg]
    omega
  · rename_i h
    have h2 : x.1 ≠ y.1 := fun e => h ((cmpInt_zero _ _).2 e)
    rw [cmpInt_neg]
    omega
theorem ltP_irrefl (x : Int × Int) : ¬ ltP x x := by unfold ltP; omega
theorem ltP_trans {x y z : Int × Int} (h1 : ltP x y) (h2 : ltP y z) : ltP x z := by unfold ltP at *; omega
theorem ltP_asymm {x y : Int × Int} (h1 : ltP x y) : ¬ ltP y x := fun h => ltP_irrefl x (ltP_trans h1 h)
theorem ltP_total (x y : Int × Int) : ltP x y ∨ x = y ∨ ltP y x := by
  by_cases h : x = y
  · exact .inr (.inl h)
  · obtain ⟨a, b⟩ := x
    obtain ⟨c, d⟩ := y
    have : ¬ (a = c ∧ b = d) := fun ⟨h1, h2⟩ => h (by rw [h1, h2])
    unfold ltP
    simp only
    omega
/-- A row that rises. -/
def Asc (l : List (Int × Int)) : Prop := l.Pairwise ltP
instance (l : List (Int × Int)) : Decidable (Asc l) := by unfold Asc; exact inferInstance
/-- A pair at its place in a row that rises. -/
def insD (l : List (Int × Int)) (x : Int × Int) : List (Int × Int) := if x ∈ l then l else l.filter (fun y => decide (ltP y x)) ++ x :: l.filter (fun y => !decide (ltP y x))
theorem mem_insD (l : List (Int × Int)) (x z : Int × Int) : z ∈ insD l x ↔ z = x ∨ z ∈ l := by
  unfold insD
  split
  · rename_i h
    exact ⟨fun hz => .inr hz, fun hz => by rcases hz with rfl | hz <;> assumption⟩
  · simp only [List.mem_append, List.mem_filter, List.mem_cons]
    by_cases hl : ltP z x <;> simp [hl]
    · constructor
      · rintro (h | h)
        · exact .inr h
        · exact .inl h
      · rintro (h | h)
        · exact .inr h
        · exact .inl h
theorem asc_insD {l : List (Int × Int)} (h : Asc l) (x : Int × Int) : Asc (insD l x) := by
  unfold insD
  split
  · exact h
  · rename_i hx
    refine List.pairwise_append.2 ⟨h.filter _, List.pairwise_cons.2 ⟨fun y hy => ?_, h.filter _⟩, fun a ha b hb => ?_⟩
    · rw [List.mem_filter] at hy
      rcases ltP_total y x with e | e | e
      · simp [e] at hy
      · subst e; exact absurd hy.1 hx
      · exact e
    · rw [List.mem_filter] at ha
      have ha2 : ltP a x := by simpa using ha.2
      rcases List.mem_cons.1 hb with rfl | hb
      · exact ha2
      · rw [List.mem_filter] at hb
        have hb2 : ¬ ltP b x := by simpa using hb.2
        rcases ltP_total b x with e | e | e
        · exact absurd e hb2
        · subst e; exact ha2
        · exact ltP_trans ha2 e

/-- Of any pairs the row that rises. -/
def sortD (l : List (Int × Int)) : List (Int × Int) := l.foldl insD []
theorem foldl_insD : ∀ (l acc : List (Int × Int)), Asc acc → Asc (l.foldl insD acc) ∧ ∀ z, z ∈ l.foldl insD acc ↔ z ∈ acc ∨ z ∈ l
  | [], acc, h => ⟨h, fun z => by simp⟩
  | x :: l, acc, h => by
    obtain ⟨h1, h2⟩ := foldl_insD l (insD acc x) (asc_insD h x)
    refine ⟨h1, fun z => ?_⟩
    rw [List.foldl_cons, h2, mem_insD, List.mem_cons]
    constructor
    · rintro ((h | h) | h)
      · exact .inr (.inl h)
      · exact .inl h
      · exact .inr (.inr h)
    · rintro (h | h | h)
      · exact .inl (.inr h)
      · exact .inl (.inl h)
      · exact .inr h
theorem asc_sortD (l : List (Int × Int)) : Asc (sortD l) := (foldl_insD l [] List.Pairwise.nil).1
theorem mem_sortD (l : List (Int × Int)) (z : Int × Int) : z ∈ sortD l ↔ z ∈ l := by
  have := (foldl_insD l [] List.Pairwise.nil).2 z
  simpa [sortD] using this
theorem asc_nodup {l : List (Int × Int)} (h : Asc l) : l.Nodup := List.Pairwise.imp (S := fun a b => a ≠ b) (fun {a b} (hab : ltP a b) (e : a = b) => ltP_irrefl b (by rw [e] at hab; exact hab)) h
theorem insD_length (l : List (Int × Int)) (x : Int × Int) : (insD l x).length ≤ l.length + 1 := by
  unfold insD
  split
  · omega
  · have key : ∀ l : List (Int × Int), (l.filter (fun y => decide (ltP y x))).length + (l.filter (fun y => !decide (ltP y x))).length = l.length := by
      intro l
      induction l with
      | nil => rfl
      | cons a l ih =>
        by_cases h : ltP a x
        · simp only [List.filter_cons, h, decide_true, if_true, Bool.not_true, List.length_cons]
          simp only [Bool.false_eq_true, if_false]
          omega
        · simp only [List.filter_cons, h, decide_false, Bool.not_false, if_true, List.length_cons]
          simp only [Bool.false_eq_true, if_false]
          omega
    have := key l
    simp only [List.length_append, List.length_cons]
    omega
theorem foldl_insD_length : ∀ (l acc : List (Int × Int)), (l.foldl insD acc).length ≤ acc.length + l.length
  | [], _ => by simp
  | x :: l, acc => by
    have h1 := foldl_insD_length l (insD acc x)
    have h2 := insD_length acc x
    simp only [List.foldl_cons, List.length_cons]
    omega
theorem sortD_length (l : List (Int × Int)) : (sortD l).length ≤ l.length := by
  have := foldl_insD_length l []
  simpa [sortD] using this

/-- How many of a row are less than a pair. -/
def lowD (l : List (Int × Int)) (x : Int × Int) : Nat := (l.filter fun y => decide (ltP y x)).length
theorem lowD_le (l : List (Int × Int)) (x : Int × Int) : lowD l x ≤ l.length := List.length_filter_le _ _
/-- Of a row that rises: the place at which all before are less and none behind is. -/
theorem lowD_of (l : List (Int × Int)) (x : Int × Int) : ∀ k, k ≤ l.length → (∀ i, i < k → ltP l[i]! x) → (∀ i, k ≤ i → i < l.length → ¬ ltP l[i]! x) → k = lowD l x := by
  intro k hk h1 h2
  have e : l = l.take k ++ l.drop k := (List.take_append_drop k l).symm
  unfold lowD
  conv => rhs; rw [e]
  rw [List.filter_append, List.length_append]
  have e1 : (l.take k).filter (fun y => decide (ltP y x)) = l.take k := by
    refine List.filter_eq_self.2 fun y hy => ?_
    obtain ⟨i, hi, rfl⟩ := List.mem_iff_getElem.1 hy
    have hi' : i < k ∧ i < l.length := by rw [List.length_take] at hi; omega
    have := h1 i hi'.1
    rw [getElem!_pos l i hi'.2] at this
    simpa using this
  have e2 : (l.drop k).filter (fun y => decide (ltP y x)) = [] := by
    refine List.filter_eq_nil_iff.2 fun y hy => ?_
    obtain ⟨i, hi, rfl⟩ := List.mem_iff_getElem.1 hy
    have hi' : i < l.length - k := by simpa using hi
    have := h2 (k + i) (by omega) (by omega)
    rw [getElem!_pos l (k + i) (by omega)] at this
    simpa using this
  rw [e1, e2]
  simp; omega
end Go.Proofs.Ytfpjdmplepepjaa

/-! WPair: Slices of pairs of numbers: as they came in, as a call owns them. -/
namespace Go.Proofs.Ytfpjdmplepepjaa
open Go.ChangeShapes Go.WideShapes Go.ChangeAt Go.RowKit Go.Lib

/-- A pair's two cells. -/
def encD (x : Int × Int) : List Value := [.int .i64 x.1, .int .i64 x.2]
def flatD (ps : List (Int × Int)) : List Value := ps.flatMap encD
theorem flatD_length (ps : List (Int × Int)) : (flatD ps).length = ps.length * 2 := by
  induction ps with
  | nil => rfl
  | cons p ps ih => show (encD p ++ flatD ps).length = _; rw [List.length_append, ih]; simp [encD]; omega
theorem flatD_append (a b : List (Int × Int)) : flatD (a ++ b) = flatD a ++ flatD b := by simp [flatD]
theorem flatD_get : ∀ (ps : List (Int × Int)) (j : Nat) (p : Int × Int), ps[j]? = some p → (flatD ps)[j * 2]? = some (.int .i64 p.1) ∧ (flatD ps)[j * 2 + 1]? = some (.int .i64 p.2)
  | [], j, p, h => by simp at h
  | q :: ps, 0, p, h => by
    obtain rfl : q = p := by simpa using h
    exact ⟨rfl, rfl⟩
  | q :: ps, j + 1, p, h => by
    have := flatD_get ps j p (by simpa using h)
    show (encD q ++ flatD ps)[(j + 1) * 2]? = _ ∧ (encD q ++ flatD ps)[(j + 1) * 2 + 1]? = _
    rw [List.getElem?_append_right (by simp [encD]; omega), List.getElem?_append_right (by simp [encD]; omega)]
    simp only [encD, List.length_cons, List.length_nil]
    rw [show (j + 1) * 2 - (0 + 1 + 1) = j * 2 from by omega, show (j + 1) * 2 + 1 - (0 + 1 + 1) = j * 2 + 1 from by omega]
    exact this
theorem flatD_cell (ps : List (Int × Int)) : ∀ u ∈ flatD ps, u.oneCell' = true := by
  intro u hu
  obtain ⟨p, _, hp⟩ := List.mem_flatMap.1 hu
  simp [encD] at hp
  rcases hp with rfl | rfl <;> rfl

/-- A slice of pairs: its elements are ps. -/
def SlP (w : World) (ao : Option Addr) (ps : List (Int × Int)) : Prop :=
  ∀ k, k < ps.length → ∃ b off, ao = some ⟨b, off, none⟩ ∧ b < w.heap.size ∧ ∀ j p, ps[j]? = some p → w.cell? ⟨b, off + j * 2, none⟩ = some (.int .i64 p.1) ∧ w.cell? ⟨b, off + j * 2 + 1, none⟩ = some (.int .i64 p.2)

theorem SlP.nil (w : World) (ao : Option Addr) : SlP w ao [] := fun _ hk => absurd hk (Nat.not_lt_zero _)
/-- One element. -/
theorem SlP.get {w : World} {ao : Option Addr} {ps : List (Int × Int)} (h : SlP w ao ps) (k : Nat) (hk : k < ps.length) :
    ∃ b off x y, ao = some ⟨b, off, none⟩ ∧ b < w.heap.size ∧ w.cell? ⟨b, off + k * 2, none⟩ = some (.int .i64 x) ∧ w.cell? ⟨b, off + k * 2 + 1, none⟩ = some (.int .i64 y) ∧ Hid (ps[k]? = some (x, y)) := by
  obtain ⟨b, off, h1, h2, h3⟩ := h k hk
  have e : ps[k]? = some ps[k] := by simp [hk]
  obtain ⟨c0, c1⟩ := h3 k _ e
  exact ⟨b, off, ps[k].1, ps[k].2, h1, h2, c0, c1, e⟩
theorem SlP.at {w : World} {b off : Nat} {ps : List (Int × Int)} (h : SlP w (some ⟨b, off, none⟩) ps) (k : Nat) (hk : k < ps.length) :
    b < w.heap.size ∧ ∃ x y, w.cell? ⟨b, off + k * 2, none⟩ = some (.int .i64 x) ∧ w.cell? ⟨b, off + k * 2 + 1, none⟩ = some (.int .i64 y) ∧ Hid (ps[k]? = some (x, y)) := by
  obtain ⟨b', off', x, y, h1, h2, h3⟩ := h.get k hk
  cases h1
  exact ⟨h2, x, y, h3⟩
theorem SlP.base {w : World} {ao : Option Addr} {ps : List (Int × Int)} (h : SlP w ao ps) (hk : 0 < ps.length) : ∃ b off, ao = some ⟨b, off, none⟩ ∧ b < w.heap.size := by
  obtain ⟨b, off, h1, h2, _⟩ := h 0 hk
  exact ⟨b, off, h1, h2⟩
theorem SlP.take {w : World} {ao : Option Addr} {ps : List (Int × Int)} (n : Nat) (h : SlP w ao ps) : SlP w ao (ps.take n) := by
  intro k hk
  rw [List.length_take] at hk
  obtain ⟨b, off, h1, h2, h3⟩ := h k (by omega)
  refine ⟨b, off, h1, h2, fun j p hj => h3 j p ?_⟩
  rw [List.getElem?_take] at hj
  split at hj
  · exact hj
  · cases hj
theorem SlP.below {w w' : World} {ao : Option Addr} {ps : List (Int × Int)} (h : SlP w ao ps) (hb : Below w.heap.size w w') : SlP w' ao ps := by
  intro k hk
  obtain ⟨b, off, h1, h2, h3⟩ := h k hk
  refine ⟨b, off, h1, Nat.lt_of_lt_of_le h2 hb.size, fun j p hj => ?_⟩
  rw [hb.cell (p := ⟨b, off + j * 2, none⟩) h2, hb.cell (p := ⟨b, off + j * 2 + 1, none⟩) h2]
  exact h3 j p hj
/-- A row that lies above what may turn is as it was. -/
theorem SlP.above {w w' : World} {ao : Option Addr} {ps : List (Int × Int)} {B : Nat} (h : SlP w ao ps) (hn : ∀ a, ao = some a → B ≤ a.block) (hs : w.heap.size ≤ w'.heap.size) (hk : ∀ k, k < w.heap.size → B ≤ k → w'.heap[k]? = w.heap[k]?) : SlP w' ao ps := by
  intro k hk'
  obtain ⟨b, off, h1, h2, h3⟩ := h k hk'
  refine ⟨b, off, h1, Nat.lt_of_lt_of_le h2 hs, fun j p hj => ?_⟩
  have e : ∀ o, w'.cell? ⟨b, o, none⟩ = w.cell? ⟨b, o, none⟩ := fun o => by simp only [World.cell?, hk b h2 (hn _ h1)]
  rw [e, e]
  exact h3 j p hj
theorem SlP.drop {w : World} {b off : Nat} {ps : List (Int × Int)} (n : Nat) (h : SlP w (some ⟨b, off, none⟩) ps) : SlP w (some ⟨b, off + n * 2, none⟩) (ps.drop n) := by
  intro k hk
  rw [List.length_drop] at hk
  obtain ⟨b', off', h1, h2, h3⟩ := h (n + k) (by omega)
  cases h1
  refine ⟨b, off + n * 2, rfl, h2, fun j p hj => ?_⟩
  have := h3 (n + j) p (by rw [List.getElem?_drop] at hj; exact hj)
  rw [show off + (n + j) * 2 = off + n * 2 + j * 2 from by omega] at this
  exact this
theorem SlP.drewN {w : World} {ao : Option Addr} {ps : List (Int × Int)} (h : SlP w ao ps) (n : Nat) : SlP (w.drewN n) ao ps := h
theorem SlP.drew {w : World} {ao : Option Addr} {ps : List (Int × Int)} (h : SlP w ao ps) : SlP w.drew ao ps := h

/-- A row of pairs that a call owns. -/
def OwnP (w : World) (base : Nat) (t : TypeId) (v : Value) (ps : List (Int × Int)) : Prop := w.ownsRow base t 2 v ps.length (flatD ps)
theorem OwnP.nil (w : World) (base : Nat) (t : TypeId) : OwnP w base t (.slice none 0 0) [] := ⟨rfl, .inl ⟨rfl, rfl⟩⟩
theorem OwnP.sl {w : World} {base : Nat} {t : TypeId} {v : Value} {ps : List (Int × Int)} (h : OwnP w base t v ps) :
    ∃ ao cap, v = .slice ao ps.length cap ∧ ps.length ≤ cap ∧ cap ≤ maxLen ∧ SlP w ao ps ∧ ∀ a, ao = some a → base ≤ a.block := by
  rcases h.2 with ⟨rfl, h0⟩ | ⟨g, cap, cur, rfl, hb, hg, hc, hm, _, ht⟩
  · exact ⟨none, 0, by rw [h0], by omega, Nat.zero_le _, (fun k hk => by omega), fun a ha => by cases ha⟩
  · refine ⟨some ⟨g, 0, none⟩, cap, rfl, hc, hm, (fun k _ => ⟨g, 0, rfl, lt_of_block hg, fun j p hj => ?_⟩), fun a ha => by cases ha; exact hb⟩
    obtain ⟨e1, e2⟩ := flatD_get ps j p hj
    have hlt : j < ps.length := by
      rcases Nat.lt_or_ge j ps.length with h | h
      · exact h
      · rw [List.getElem?_eq_none h] at hj; cases hj
    rw [← ht, List.getElem?_take, if_pos (by omega)] at e1 e2
    rw [Nat.zero_add]
    simp only [Array.getElem?_toList] at e1 e2
    simp [World.cell?, hg, e1, e2]
theorem OwnP.alloc {w : World} {base : Nat} {t : TypeId} {v : Value} {ps : List (Int × Int)} (h : OwnP w base t v ps) (o : Obj) : OwnP (w.alloc o) base t v ps := World.ownsRow.alloc h o
theorem OwnP.below {w w' : World} {base : Nat} {t : TypeId} {v : Value} {ps : List (Int × Int)} (h : OwnP w base t v ps) (hb : Below w.heap.size w w') : OwnP w' base t v ps := own_below h hb
theorem OwnP.base {w : World} {base base' : Nat} {t : TypeId} {v : Value} {ps : List (Int × Int)} (h : OwnP w base t v ps) (hb : base' ≤ base) : OwnP w base' t v ps := by
  refine ⟨h.1, ?_⟩
  rcases h.2 with h2 | ⟨g, cap, cur, h1, h2, h3⟩
  · exact .inl h2
  · exact .inr ⟨g, cap, cur, h1, Nat.le_trans hb h2, h3⟩
theorem OwnP.kept {w w' : World} {base : Nat} {t : TypeId} {v : Value} {ps : List (Int × Int)} {row : Option Nat} (h : OwnP w base t v ps) (hg : w.grownBy w' row) (hr : v.ownBlock = none ∨ v.ownBlock ≠ row) : OwnP w' base t v ps := World.ownsRow.kept h hg hr
/-- The cells of a piece of a row, as an append wants them. -/
theorem SlP.news {w : World} {b off : Nat} {ps : List (Int × Int)} (h : SlP w (some ⟨b, off, none⟩) ps) : ∀ j u, (flatD ps)[j]? = some u → w.cell? ((⟨b, off, none⟩ : Addr).add j) = some u := by
  intro j u hj
  have hlt : j < ps.length * 2 := by
    rcases Nat.lt_or_ge j (ps.length * 2) with h | h
    · exact h
    · rw [List.getElem?_eq_none (by rw [flatD_length]; exact h)] at hj; cases hj
  obtain ⟨b', off', h1, _, h3⟩ := h (j / 2) (by omega)
  cases h1
  have e : ps[j / 2]? = some (ps[j / 2]'(by omega)) := List.getElem?_eq_getElem _
  obtain ⟨g0, g1⟩ := flatD_get ps (j / 2) _ e
  obtain ⟨c0, c1⟩ := h3 (j / 2) _ e
  rw [add_plain]
  rcases Nat.mod_two_eq_zero_or_one j with hm | hm
  · rw [show j / 2 * 2 = j from by omega] at g0 c0
    rw [c0, ← hj, g0]
  · rw [show j / 2 * 2 + 1 = j from by omega] at g1
    rw [show off + j / 2 * 2 + 1 = off + j from by omega] at c1
    rw [c1, ← hj, g1]

section
variable {H : Type} {enc : TypeId × Value → H} {P : Program} {w : World} {base : Nat} {spare : Nat → Bool} {held : Bool}
end
end Go.Proofs.Ytfpjdmplepepjaa

/-! PairEq: '==' and '!=' between two pairs. -/
namespace Go.Proofs.Ytfpjdmplepepjaa
open Go.RowKit

theorem guardD (op : BinOp) (a b : Operand) (xs ys : Array Value) (w : World) : Sem.run Try.prog (eqGuard op 31 a b (.agg xs) (.agg ys)) w = .ok () w := run_eqGuard_agg w op _ a b xs ys (by kernel_rfl)
theorem equalD (x1 x2 y1 y2 : Int) (w : World) : (Op.equalIn 10000 31 (.agg #[.int .i64 x1, .int .i64 x2]) (.agg #[.int .i64 y1, .int .i64 y2])).run Try.prog w = .ok (decide ((x1, x2) = (y1, y2))) w := by
  rw [run_equalIn_agg w 9999 _ _ _ (by kernel_rfl) (by kernel_rfl)]
  by_cases h1 : x1 = y1
  · by_cases h2 : x2 = y2
    · simp [go_sem, Try.underlying31, Try.underlying3, h1, h2]
      done
    · simp [go_sem, Try.underlying31, Try.underlying3, h1, h2]
      done
  · simp [go_sem, Try.underlying31, Try.underlying3, h1]
    done
theorem eqlD (x1 x2 y1 y2 : Int) (b : Bool) (hb : decide ((x1, x2) = (y1, y2)) = b) (w : World) : Sem.run Try.prog (binOp .eql 31 (.agg #[.int .i64 x1, .int .i64 x2]) (.agg #[.int .i64 y1, .int .i64 y2])) w = .ok (.bool b) w := by
  rw [run_eql_struct, equalD, hb]; rfl
theorem neqD (x1 x2 y1 y2 : Int) (b : Bool) (hb : decide ((x1, x2) = (y1, y2)) = b) (w : World) : Sem.run Try.prog (binOp .neq 31 (.agg #[.int .i64 x1, .int .i64 x2]) (.agg #[.int .i64 y1, .int .i64 y2])) w = .ok (.bool (!b)) w := by
  rw [run_neq_struct, equalD, hb]; rfl
end Go.Proofs.Ytfpjdmplepepjaa

/-! PlainA: Plain arithmetic of the layer mint: the digits of a number in base 128. No program in sight. -/
namespace Go.Proofs.Ytfpjdmplepepjaa.Pl

/-- The k lowest digits of m, the greatest first, each with the mark 128. -/
def dg : Nat → Nat → List UInt8
  | 0, _ => []
  | k + 1, m => UInt8.ofNat (128 + m / 128 ^ k % 128) :: dg k m

theorem dg_length : ∀ k m, (dg k m).length = k
  | 0, _ => rfl
  | k + 1, m => by simp [dg, dg_length k m]

/-- How many digits a number has, at least one (up to ten are told). -/
def ndF : Nat → Nat → Nat
  | 0, _ => 1
  | f + 1, n => if n < 128 then 1 else ndF f (n / 128) + 1
def nd (n : Nat) : Nat := ndF 10 n

theorem ndF_pos : ∀ f n, 1 ≤ ndF f n
  | 0, _ => Nat.le_refl _
  | f + 1, n => by unfold ndF; split <;> omega
theorem nd_pos (n : Nat) : 1 ≤ nd n := ndF_pos 10 n

theorem ndF_spec : ∀ f n, n < 128 ^ (f + 1) → n < 128 ^ ndF f n ∧ (ndF f n = 1 ∨ 128 ^ (ndF f n - 1) ≤ n)
  | 0, n, h => by simpa [ndF] using h
  | f + 1, n, h => by
    unfold ndF
    split
    · next h1 => exact ⟨by simpa using h1, Or.inl rfl⟩
    · next h1 =>
      have h2 : n / 128 < 128 ^ (f + 1) := by
        rw [Nat.div_lt_iff_lt_mul (by decide)]; simpa [Nat.pow_succ] using h
      obtain ⟨a, b⟩ := ndF_spec f (n / 128) h2
      have hp := ndF_pos f (n / 128)
      refine ⟨?_, Or.inr ?_⟩
      · rw [Nat.pow_succ]
        exact (Nat.div_lt_iff_lt_mul (by decide)).1 a
      · rw [Nat.add_sub_cancel]
        rcases b with b | b
        · rw [b]; omega
        · obtain ⟨q, hq⟩ : ∃ q, ndF f (n / 128) = q + 1 := ⟨ndF f (n / 128) - 1, by omega⟩
          rw [hq] at b ⊢
          rw [Nat.add_sub_cancel] at b
          rw [Nat.pow_succ]
          exact (Nat.le_div_iff_mul_le (by decide)).1 b

theorem nd_spec (n : Nat) (h : n < 18446744073709551616) : n < 128 ^ nd n ∧ (nd n = 1 ∨ 128 ^ (nd n - 1) ≤ n) :=
  ndF_spec 10 n (Nat.lt_of_lt_of_le h (by decide))

theorem nd_unique (n k : Nat) (h : n < 18446744073709551616) (hk : 1 ≤ k) (h1 : n < 128 ^ k) (h2 : k = 1 ∨ 128 ^ (k - 1) ≤ n) : k = nd n := by
  obtain ⟨a, b⟩ := nd_spec n h
  have hp := nd_pos n
  rcases Nat.lt_trichotomy k (nd n) with hlt | heq | hgt
  · rcases b with b | b
    · omega
    · have : 128 ^ k ≤ 128 ^ (nd n - 1) := Nat.pow_le_pow_right (by decide) (by omega)
      omega
  · exact heq
  · rcases h2 with h2 | h2
    · omega
    · have : 128 ^ nd n ≤ 128 ^ (k - 1) := Nat.pow_le_pow_right (by decide) (by omega)
      omega

theorem nd_le (n : Nat) (h : n < 18446744073709551616) : nd n ≤ 10 := by
  have hp := nd_pos n
  rcases (nd_spec n h).2 with b | b
  · omega
  · rcases Nat.lt_or_ge 10 (nd n) with hgt | hle
    · have : 128 ^ 10 ≤ 128 ^ (nd n - 1) := Nat.pow_le_pow_right (by decide) (by omega)
      have h10 : (128 : Nat) ^ 10 = 1180591620717411303424 := by decide
      omega
    · exact hle

/-- A number's bytes (P1.1). -/
def num (n : Nat) : List UInt8 := dg (nd n - 1) (n / 128) ++ [UInt8.ofNat (n % 128)]

theorem num_length (n : Nat) : (num n).length = nd n := by
  have := nd_pos n
  simp [num, dg_length]; omega
theorem num_length_le (n : Nat) (h : n < 18446744073709551616) : (num n).length ≤ 10 := by rw [num_length]; exact nd_le n h

theorem num_small (n : Nat) (h : n < 128) : num n = [UInt8.ofNat n] := by
  have h1 : nd n = 1 := by simp [nd, ndF, h]
  simp [num, h1, dg, Nat.mod_eq_of_lt h]

/-- How many bytes the program makes room for. -/
theorem bitLen_lt (n : Nat) (h : n < 18446744073709551616) : n < 2 ^ Lib.bitLen n ∧ (n = 0 ∨ 2 ^ (Lib.bitLen n - 1) ≤ n) := by
  have key : ∀ f x, x < 2 ^ f → x < 2 ^ Lib.bitLenAux f x ∧ (x = 0 ∨ 2 ^ (Lib.bitLenAux f x - 1) ≤ x) := by
    intro f
    induction f with
    | zero =>
      intro x hx
      have h0 : x = 0 := by simpa using hx
      subst h0; simp [Lib.bitLenAux]
    | succ f ih =>
      intro x hx
      unfold Lib.bitLenAux
      split
      · next h0 => subst h0; simp
      · next h0 =>
        have hx2 : x / 2 < 2 ^ f := by rw [Nat.pow_succ] at hx; omega
        obtain ⟨a, b⟩ := ih (x / 2) hx2
        refine ⟨by rw [Nat.pow_add]; omega, Or.inr ?_⟩
        rw [Nat.add_sub_cancel_left]
        by_cases h3 : Lib.bitLenAux f (x / 2) = 0
        · rw [h3]; simp; omega
        · obtain ⟨q, hq⟩ : ∃ q, Lib.bitLenAux f (x / 2) = q + 1 := ⟨Lib.bitLenAux f (x / 2) - 1, by omega⟩
          rw [hq] at a b ⊢
          rw [Nat.add_sub_cancel] at b
          rcases b with b | b
          · rw [b] at hq
            exfalso
            cases f <;> simp [Lib.bitLenAux] at hq
          · rw [Nat.pow_succ]; omega
  exact key 64 n h

theorem many_eq (n : Nat) (h : n < 18446744073709551616) : max ((Lib.bitLen n + 6) / 7) 1 = nd n := by
  obtain ⟨a, b⟩ := bitLen_lt n h
  have e : ∀ k, (128 : Nat) ^ k = 2 ^ (7 * k) := fun k => by rw [Nat.pow_mul]
  refine nd_unique n _ h (by omega) ?_ ?_
  · rw [e]
    refine Nat.lt_of_lt_of_le a (Nat.pow_le_pow_right (by decide) ?_)
    omega
  · rcases b with b | b
    · subst b; left; decide
    · by_cases h1 : (Lib.bitLen n + 6) / 7 ≤ 1
      · left; omega
      · right
        rw [e]
        refine Nat.le_trans (Nat.pow_le_pow_right (by decide) ?_) b
        omega

theorem bitLen_le (n : Nat) : Lib.bitLen n ≤ 64 := by
  have key : ∀ f x, Lib.bitLenAux f x ≤ f := by
    intro f
    induction f with
    | zero => intro x; simp [Lib.bitLenAux]
    | succ f ih => intro x; have := ih (x / 2); unfold Lib.bitLenAux; split <;> omega
  exact key 64 n

/-- The cells behind i rounds: the i last bytes hold a digit with its mark. -/
def cellN (many n i j : Nat) : Nat := if many - 1 - j < i then 128 + n / 128 ^ (many - 1 - j) % 128 else 0

theorem dg_get : ∀ k m j, j < k → (dg k m)[j]? = some (UInt8.ofNat (128 + m / 128 ^ (k - 1 - j) % 128))
  | 0, _, _, h => by omega
  | k + 1, m, 0, _ => by simp [dg]
  | k + 1, m, j + 1, h => by
    simp only [dg, List.getElem?_cons_succ]
    rw [dg_get k m j (by omega), show k + 1 - 1 - (j + 1) = k - 1 - j from by omega]

/-- A number is read: so many digits at most; whether this is the first; what was read; the bytes. -/
def rdG : Nat → Bool → Nat → List UInt8 → Option (Nat × List UInt8)
  | 0, _, _, _ => none
  | _ + 1, _, _, [] => none
  | f + 1, first, n, c :: l =>
    if 144115188075855872 ≤ n ∨ (first = true ∧ c = 128) then none
    else if c < 128 then some (n * 128 + c.toNat % 128, l) else rdG f false (n * 128 + c.toNat % 128) l
def rdNum (l : List UInt8) : Option (Nat × List UInt8) := rdG 10 true 0 l

theorem mark_toNat (x : Nat) (h : x < 128) : (UInt8.ofNat (128 + x)).toNat = 128 + x := by
  rw [UInt8.toNat_ofNat']; omega
theorem plain_toNat (x : Nat) (h : x < 128) : (UInt8.ofNat x).toNat = x := by
  rw [UInt8.toNat_ofNat']; omega

theorem rdG_num (n : Nat) (hn : n < 18446744073709551616) (r : List UInt8) : ∀ (k f : Nat) (first : Bool), k + 1 ≤ f → (first = true → k = 0 ∨ n / 128 ^ k % 128 ≠ 0) →
    rdG f first (n / 128 ^ (k + 1)) (dg k (n / 128) ++ UInt8.ofNat (n % 128) :: r) = some (n, r)
  | 0, f, first, hf, _ => by
    obtain ⟨g, rfl⟩ : ∃ g, f = g + 1 := ⟨f - 1, by omega⟩
    have h1 : (UInt8.ofNat (n % 128)).toNat = n % 128 := plain_toNat _ (by omega)
    have h2 : UInt8.ofNat (n % 128) < 128 := by rw [UInt8.lt_iff_toNat_lt, h1]; exact Nat.mod_lt _ (by decide)
    simp only [dg, List.nil_append, rdG, Nat.zero_add, Nat.pow_one]
    rw [if_neg, if_pos h2, h1]
    · congr 2; omega
    · rintro (h3 | ⟨_, h3⟩)
      · omega
      · rw [h3] at h2; exact absurd h2 (by decide)
  | k + 1, f, first, hf, hz => by
    obtain ⟨g, rfl⟩ : ∃ g, f = g + 1 := ⟨f - 1, by omega⟩
    have e0 : n / 128 / 128 ^ k = n / 128 ^ (k + 1) := by rw [Nat.div_div_eq_div_mul, Nat.pow_succ, Nat.mul_comm]
    have e1 : n / 128 ^ (k + 1 + 1) = n / 128 ^ (k + 1) / 128 := by rw [Nat.div_div_eq_div_mul, Nat.pow_succ]
    have h1 : (UInt8.ofNat (128 + n / 128 ^ (k + 1) % 128)).toNat = 128 + n / 128 ^ (k + 1) % 128 := mark_toNat _ (by omega)
    have h2 : ¬ UInt8.ofNat (128 + n / 128 ^ (k + 1) % 128) < 128 := by
      rw [UInt8.lt_iff_toNat_lt, h1]
      show ¬ _ < 128
      omega
    have h4 : n / 128 ^ (k + 1) ≤ n / 128 := Nat.div_le_div_left (by rw [Nat.pow_succ]; exact Nat.le_mul_of_pos_left _ (Nat.pow_pos (by decide))) (by decide)
    simp only [dg, List.cons_append, rdG, e0]
    rw [if_neg, if_neg h2, h1, e1]
    · rw [show n / 128 ^ (k + 1) / 128 * 128 + (128 + n / 128 ^ (k + 1) % 128) % 128 = n / 128 ^ (k + 1) from by omega]
      exact rdG_num n hn r k g false (by omega) (fun h => by cases h)
    · rintro (h3 | ⟨hfi, h3⟩)
      · omega
      · rcases hz hfi with h5 | h5
        · omega
        · have := congrArg UInt8.toNat h3
          rw [h1] at this
          have e : (128 : UInt8).toNat = 128 := rfl
          omega

/-- What was written is read again, and what stands behind it is left. -/
theorem rd_num (n : Nat) (hn : n < 18446744073709551616) (r : List UInt8) : rdNum (num n ++ r) = some (n, r) := by
  obtain ⟨a, b⟩ := nd_spec n hn
  have hp := nd_pos n
  have hle := nd_le n hn
  have h := rdG_num n hn r (nd n - 1) 10 true (by omega) (fun _ => by
    rcases b with b | b
    · left; omega
    · right
      have hq : 0 < 128 ^ (nd n - 1) := Nat.pow_pos (by decide)
      have h1 : n / 128 ^ (nd n - 1) < 128 := by
        rw [Nat.div_lt_iff_lt_mul hq, Nat.mul_comm, ← Nat.pow_succ, show Nat.succ (nd n - 1) = nd n from by omega]; exact a
      have h2 : 1 ≤ n / 128 ^ (nd n - 1) := (Nat.le_div_iff_mul_le hq).2 (by omega)
      omega)
  rw [show nd n - 1 + 1 = nd n from by omega, Nat.div_eq_of_lt a] at h
  rw [rdNum, num, List.append_assoc]
  exact h

/-- No number's bytes begin another one's. -/
theorem num_inj {a b : Nat} {r t : List UInt8} (ha : a < 18446744073709551616) (hb : b < 18446744073709551616) (h : num a ++ r = num b ++ t) : a = b ∧ r = t := by
  have h1 := rd_num a ha r
  rw [h, rd_num b hb t] at h1
  cases h1
  exact ⟨rfl, rfl⟩
end Go.Proofs.Ytfpjdmplepepjaa.Pl

/-! WireSmall: Small facts on worlds for the texts of wire. -/
namespace Go.Proofs.Ytfpjdmplepepjaa
open Go.RowKit

theorem bOld {w : World} (o : Obj) : Below w.heap.size w (w.alloc o) := (Below.refl _ _).alloc (Nat.le_refl _) _
theorem cell_al {w : World} {a : Addr} {v : Value} {o : Obj} (h : w.cell? a = some v) : (w.alloc o).cell? a = some v := by
  rw [World.cell?_alloc_some _ _ _ (by rw [h]; rfl)]; exact h
theorem blk_at {w : World} {c : Array Value} {t : TypeId} {k : Nat} (h : w.heap.size = k) : Blk (w.alloc (.cells c t)) k c t := h ▸ Blk.new w c t
theorem bDrewN {B : Nat} {w a : World} (h : Below B w a) (n : Nat) : Below B w (a.drewN n) := ⟨h.os, h.tape, h.output, h.size, h.block⟩
theorem bDrew {B : Nat} {w a : World} (h : Below B w a) : Below B w a.drew := ⟨h.os, h.tape, h.output, h.size, h.block⟩
theorem cell_dr {w : World} {a : Addr} {v : Value} (h : w.cell? a = some v) : w.drew.cell? a = some v := h
theorem num0 : Pl.num 0 = [0] := Pl.num_small 0 (by decide)
end Go.Proofs.Ytfpjdmplepepjaa

/-! CmpShelf: The laying of cmp.Compare at ints at this dump, in plain words (written by the shelf's tool, turned into a template). -/
namespace Go.Proofs.Ytfpjdmplepepjaa
open Go.Shelf
def Try.cmpInt_ren : Go.Shelf.Ren := ⟨fun | 5 => 113 | 7 => 116 | n => n, fun | 22 => 3 | 3 => 3 | 4 => 4 | n => n, fun | n => n⟩
theorem Try.cmpInt : Go.Proofs.SlLaysC2.n5 Try.prog Try.cmpInt_ren := {
  mixed := by kernel_rfl
  f5 := ⟨Try.f113.name, by decide, Try.func113.trans (congrArg some (by kernel_rfl))⟩
  f7 := ⟨Try.f116.name, by decide, Try.func116.trans (congrArg some (by kernel_rfl))⟩
  t3 := Try.underlying3
  a3 := Try.isAgg3
  z3 := Try.sizeOf3
  v3 := Try.zeroValue3
  t4 := Try.underlying4
  a4 := Try.isAgg4
  z4 := Try.sizeOf4
  v4 := Try.zeroValue4
  t22 := Try.underlying3
  a22 := Try.isAgg3
  z22 := Try.sizeOf3
  v22 := Try.zeroValue3 }
end Go.Proofs.Ytfpjdmplepepjaa

/-! WCmp: Two names, compared; less. -/
namespace Go.Proofs.Ytfpjdmplepepjaa
open Go.RowKit Go.Sort

theorem cmpint_any (x y : Int) (w : World) :
    Calls Try.prog 113 #[.int .i64 x, .int .i64 y] w fun e w' => e = .returned (.int .i64 (Lib.compareInt x y)) ∧ w' = w := AnyG.cmp_Compare_int Try.cmpInt x y w

set_option maxRecDepth 100000 in
set_option maxHeartbeats 400000 in
/-- cmp.Or of two numbers that lie in a row. -/
theorem or2_any (b : Nat) (x y z : Int) (hz : z = if x = 0 then y else x) (w : World) (h0 : w.cell? ⟨b, 0, none⟩ = some (.int .i64 x)) (h1 : w.cell? ⟨b, 1, none⟩ = some (.int .i64 y)) :
    Calls Try.prog 112 #[.slice (some ⟨b, 0, none⟩) 2 2] w fun e w' => e = .returned (.int .i64 z) ∧ w = w' := by
  by_cases hx : x = 0
  · rw [if_pos hx] at hz
    subst hx hz
    by_cases hy : z = 0
    · subst hy
      go_enter Try.func112, Try.ntmps112
      go_wp2_with fail
      refine wp_loop_rounds 3 ?_
      rw [rounds_succ]
      go_wp2_with fail
      rw [rounds_succ]
      go_wp2_with fail
      rw [rounds_succ]
      go_wp2_with fail
      go_ret
      exact ⟨rfl, rfl⟩
    · have hne : (z != 0) = true := by simpa using hy
      go_enter Try.func112, Try.ntmps112
      go_wp2_with fail
      refine wp_loop_rounds 3 ?_
      rw [rounds_succ]
      go_wp2_with fail
      rw [rounds_succ]
      go_wp2_with fail
      go_ret
      exact ⟨rfl, rfl⟩
  · rw [if_neg hx] at hz
    subst hz
    have hne : (z != 0) = true := by simpa using hx
    go_enter Try.func112, Try.ntmps112
    go_wp2_with fail
    refine wp_loop_rounds 3 ?_
    rw [rounds_succ]
    go_wp2_with fail
    go_ret
    exact ⟨rfl, rfl⟩

theorem cmpint_is (x y A : Int) (hA : Hid (A = Lib.compareInt x y)) (w : World) :
    Calls Try.prog 113 #[.int .i64 x, .int .i64 y] w fun e w' => e = .returned (.int .i64 A) ∧ w' = w := by rw [hA.out]; exact cmpint_any x y w
theorem or2_is (A B C : Int) (hC : Hid (C = if A = 0 then B else A)) (T : TypeId) (w w0 : World) (h : w = w0.alloc (.cells #[.int .i64 A, .int .i64 B] T)) :
    Calls Try.prog 112 #[.slice (some ⟨w0.heap.size, 0, none⟩) 2 2] w fun e w' => e = .returned (.int .i64 C) ∧ w = w' := by
  subst h
  exact or2_any _ A B C hC.out _ ((Blk.new w0 _ T).cell 0) ((Blk.new w0 _ T).cell 1)

set_option maxRecDepth 100000 in
set_option maxHeartbeats 400000 in
theorem compare_any (x y : Int × Int) (w : World) :
    Calls Try.prog 101 #[.agg #[.int .i64 x.1, .int .i64 x.2], .agg #[.int .i64 y.1, .int .i64 y.2]] w fun e w' => e = .returned (.int .i64 (if Lib.compareInt x.1 y.1 = 0 then Lib.compareInt x.2 y.2 else Lib.compareInt x.1 y.1)) ∧ ∃ q os', w' = grow (w.drewN q) os' := by
  obtain ⟨x1, x2⟩ := x
  obtain ⟨y1, y2⟩ := y
  simp only
  obtain ⟨A, hA⟩ := nm (Lib.compareInt x1 y1)
  obtain ⟨B, hB⟩ := nm (Lib.compareInt x2 y2)
  obtain ⟨C, hC⟩ := nm (if A = 0 then B else A)
  rw [← hA.out, ← hB.out, ← hC.out]
  go_enter Try.func101, Try.ntmps101
  go_wp2_with fail
  refine wp_region_still_tail 10 (by kernel_rfl) (by kernel_rfl) ?_
  simp only [List.take_succ_cons, List.take_zero, List.drop_succ_cons, List.drop_zero]
  change wpStill _ _ (World.drew _) (fun a' => wpList _ _ _ _ a' (World.drew _)) _ _
  still_step
  still_step
  still_step
  still_step
  still_call (cmpint_is x1 y1 A hA _)
  still_step
  still_step
  still_step
  still_step
  still_call (cmpint_is x2 y2 B hB _)
  refine wpStill_nil ?_
  generalize hw1 : ((w.alloc (Obj.cells #[Value.int IntKind.i64 x1, Value.int IntKind.i64 x2] 31)).alloc (Obj.cells #[Value.int IntKind.i64 y1, Value.int IntKind.i64 y2] 31)).drew = w1
  have HW := Lib.hid hw1
  clear hw1
  go_wp2_with fail
  refine (or2_is A B C hC 3 _ _ rfl).mono ?_; rintro e w2 ⟨rfl, rfl⟩
  go_wp2_with fail
  go_ret
  refine ⟨rfl, 1, #[.cells #[.int .i64 x1, .int .i64 x2] 31, .cells #[.int .i64 y1, .int .i64 y2] 31, .cells #[.int .i64 A, .int .i64 B] 3], ?_⟩
  rw [← HW.out]
  simp only [alloc_eq_grow, drew_grow, grow_grow]
  rfl

theorem below_grow {w : World} (q : Nat) (os : Array Obj) : Below w.heap.size w (grow (w.drewN q) os) :=
  ⟨rfl, rfl, rfl, by rw [size_grow]; exact Nat.le_add_right _ _, fun k hk => heap_grow_old _ _ hk⟩

set_option maxRecDepth 100000 in
set_option maxHeartbeats 400000 in
theorem less_any (x1 x2 y1 y2 : Int) (w : World) :
    Calls Try.prog 69 #[.agg #[.int .i64 x1, .int .i64 x2], .agg #[.int .i64 y1, .int .i64 y2]] w fun e w' => e = .returned (.bool (decide (ltP (x1, x2) (y1, y2)))) ∧ Below w.heap.size w w' := by
  have hc := fun W => compare_any (x1, x2) (y1, y2) W
  have hneg := cmpD_neg (x1, x2) (y1, y2)
  unfold cmpD at hneg
  simp only at hc hneg
  generalize (if Lib.compareInt x1 y1 = 0 then Lib.compareInt x2 y2 else Lib.compareInt x1 y1) = C at hc hneg
  obtain ⟨B, hB⟩ := nm (decide (ltP (x1, x2) (y1, y2)))
  have hb : decide (C < 0) = B := by rw [hB.out]; exact decide_eq_decide.2 hneg
  rw [← hB.out]
  have HC := Lib.hid hc
  have HB := Lib.hid hb
  clear hc hneg hb
  go_enter Try.func69, Try.ntmps69
  go_wp2_with fail
  refine (HC.out _).mono ?_; rintro e w1 ⟨rfl, q, os, rfl⟩
  go_wp2_with fail
  go_ret
  exact ⟨congrArg (fun b => Ending.returned (Value.bool b)) HB.out, (bNew (bOld _) _).trans ((below_grow q os).mono (by simp; omega))⟩
end Go.Proofs.Ytfpjdmplepepjaa

/-! WFind: dot.Find: by halves. -/
namespace Go.Proofs.Ytfpjdmplepepjaa
open Go.RowKit Go.Sort

theorem asc_mono {ps : List (Int × Int)} (ha : Asc ps) {i j : Nat} (hij : i < j) (hj : j < ps.length) : ltP ps[i]! ps[j]! := by
  have := List.pairwise_iff_getElem.1 ha i j (by omega) hj hij
  rwa [getElem!_pos ps i (by omega), getElem!_pos ps j hj]
theorem get_of {ps : List (Int × Int)} {i : Nat} {p : Int × Int} (h : ps[i]? = some p) : i < ps.length ∧ ps[i]! = p := by
  have hi : i < ps.length := by
    rcases Nat.lt_or_ge i ps.length with h1 | h1
    · exact h1
    · rw [List.getElem?_eq_none h1] at h; cases h
  refine ⟨hi, ?_⟩
  rw [getElem!_pos ps i hi]
  rw [List.getElem?_eq_getElem hi] at h
  exact Option.some.inj h
theorem asc_notlt {ps : List (Int × Int)} (ha : Asc ps) {M i : Nat} {p q : Int × Int} (hp : ps[M]? = some p) (hi : i < ps.length) (hMi : M ≤ i) (hn : ¬ ltP p q) : ¬ ltP ps[i]! q := by
  obtain ⟨h1, h2⟩ := get_of hp
  rcases Nat.lt_or_ge M i with h | h
  · intro hl
    have := asc_mono ha h hi
    rw [h2] at this
    exact hn (ltP_trans this hl)
  · obtain rfl : M = i := by omega
    rw [h2]; exact hn
theorem asc_lt {ps : List (Int × Int)} (ha : Asc ps) {M i : Nat} {p q : Int × Int} (hp : ps[M]? = some p) (hMi : i ≤ M) (hn : ltP p q) : ltP ps[i]! q := by
  obtain ⟨h1, h2⟩ := get_of hp
  rcases Nat.lt_or_ge i M with h | h
  · have := asc_mono ha h h1
    rw [h2] at this
    exact ltP_trans this hn
  · obtain rfl : i = M := by omega
    rw [h2]; exact hn
theorem below_drewN {B : Nat} {w a : World} (h : Below B w a) (n : Nat) : Below B w (a.drewN n) := ⟨h.os, h.tape, h.output, h.size, h.block⟩

/-- What dot.Find tells. -/
def FindTells (ps : List (Int × Int)) (p : Int × Int) (w : World) (e : Ending) (w' : World) : Prop :=
  ∃ j : Nat, j ≤ ps.length ∧ e = .returned (.tuple #[.int .i64 (j : Int), .bool (decide (ps[j]? = some p))]) ∧ (Asc ps → j = lowD ps p) ∧ Below w.heap.size w w'

set_option maxRecDepth 100000 in
set_option maxHeartbeats 1000000 in
theorem find_any (ao : Option Addr) (ps : List (Int × Int)) (n cap : Nat) (hn : Hid (ps.length = n)) (x y : Int) (w : World) (hs : SlP w ao ps) (hm : n ≤ 1000000000) :
    Calls Try.prog 100 #[.slice ao n cap, .agg #[.int .i64 x, .int .i64 y]] w (FindTells ps (x, y) w) := by
  have HS := Lib.hid hs
  clear hs
  have hb0 : Blk (w.alloc (.cells #[.int .i64 x, .int .i64 y] 31)) w.heap.size #[.int .i64 x, .int .i64 y] 31 := Blk.new _ _ _
  obtain ⟨w1, hw1⟩ := nm (w.alloc (.cells #[.int .i64 x, .int .i64 y] 31))
  rw [← hw1.out] at hb0
  have hB0 : Below w.heap.size w w1 := by rw [hw1.out]; exact bOld _
  have HB0 := Lib.hid hB0
  obtain ⟨p, hp⟩ := nm w.heap.size
  rw [← hp.out] at hb0
  have HBX := Lib.hid hb0
  clear hB0 hb0
  go_enter Try.func100, Try.ntmps100
  go_wp2_with fail
  rw [← hp.out, ← hw1.out]
  go_step3
  go_wp2_with fail
  go_step3
  go_wp2_with fail
  go_loopw [6, 7] (fun lo hi wr => ∃ L H : Nat, L ≤ H ∧ H ≤ n ∧ lo = .int .i64 (L : Int) ∧ hi = .int .i64 (H : Int) ∧ Below w1.heap.size w1 wr ∧ Hid (Asc ps → (∀ i, i < L → ltP ps[i]! (x, y)) ∧ (∀ i, H ≤ i → i < n → ¬ ltP ps[i]! (x, y)))) (fun lo hi _ => (intOf hi).toNat - (intOf lo).toNat)
  case atStart => exact ⟨0, n, by omega, by omega, rfl, rfl, Below.refl _ _, Lib.hid (fun _ => ⟨fun i hi => absurd hi (Nat.not_lt_zero _), fun i h1 h2 => absurd h2 (by omega)⟩)⟩
  case round =>
    obtain ⟨L, H, hLH, hHn, rfl, rfl, hB, hI⟩ := hrel
    by_cases hlt : L < H
    · obtain ⟨M, hM⟩ : ∃ M : Nat, M = (L + H) / 2 := ⟨_, rfl⟩
      have hM1 : ((L : Int) + (H : Int)) / 2 = (M : Int) := by omega
      have hM2 : L ≤ M ∧ M < H := by omega
      clear hM
      obtain ⟨hM2, hM3⟩ := hM2
      have hM4 : M < n := by omega
      obtain ⟨b, off, u, v, rfl, hbl, c0, c1, hpk⟩ := HS.out.get M (by rw [hn.out]; exact hM4)
      have hbx : Blk wr p #[.int .i64 x, .int .i64 y] 31 := HBX.out.below hB HBX.out.lt
      have b0 : wr.cell? ⟨p, 0, none⟩ = some (.int .i64 x) := hbx.cell 0
      have b1 : wr.cell? ⟨p, 1, none⟩ = some (.int .i64 y) := hbx.cell 1
      have d0 : wr.cell? ⟨b, off + M * 2, none⟩ = some (.int .i64 u) := ((bNext HB0.out hB).cell (p := ⟨b, off + M * 2, none⟩) hbl).trans c0
      have d1 : wr.cell? ⟨b, off + M * 2 + 1, none⟩ = some (.int .i64 v) := ((bNext HB0.out hB).cell (p := ⟨b, off + M * 2 + 1, none⟩) hbl).trans c1
      clear c0 c1 hbx
      go_wp2_with fail
      simp only [hM1]
      refine wp_region_still_tail 5 (by kernel_rfl) (by kernel_rfl) ?_
      simp only [List.take_succ_cons, List.take_zero, List.drop_succ_cons, List.drop_zero]
      change wpStill _ _ (World.drew _) (fun a' => wpList _ _ _ _ a' (World.drew _)) _ _
      repeat still_step
      refine wpStill_nil ?_
      obtain ⟨B, hBB⟩ := nm (decide (ltP (u, v) (x, y)))
      have hless := less_any u v x y wr.drew
      rw [← hBB.out] at hless
      clear d0 d1 b0 b1 hM1
      cases B
      · go_wp2_with fail
        refine hless.mono ?_; rintro e w3 ⟨rfl, hB3⟩
        have hB4 : Below w1.heap.size w1 w3 := hB.trans (((Below.refl _ _).drew.trans hB3).mono hB.size)
        have HI : Hid (Asc ps → (∀ i, i < L → ltP ps[i]! (x, y)) ∧ (∀ i, M ≤ i → i < n → ¬ ltP ps[i]! (x, y))) := by
          intro ha
          obtain ⟨g1, g2⟩ := hI.out ha
          refine ⟨g1, fun i hi hn' => ?_⟩
          have hnl : ¬ ltP (u, v) (x, y) := by simpa using hBB.out.symm
          exact asc_notlt ha hpk.out (by rw [hn.out]; exact hn') hi hnl
        go_wp2_with fail
        go_roundw
        case rel => exact ⟨L, M, hM2, by omega, rfl, rfl, hB4, HI⟩
        case measure => simp [intOf]; omega
      · go_wp2_with fail
        refine hless.mono ?_; rintro e w3 ⟨rfl, hB3⟩
        have hB4 : Below w1.heap.size w1 w3 := hB.trans (((Below.refl _ _).drew.trans hB3).mono hB.size)
        have HI : Hid (Asc ps → (∀ i, i < M + 1 → ltP ps[i]! (x, y)) ∧ (∀ i, H ≤ i → i < n → ¬ ltP ps[i]! (x, y))) := by
          intro ha
          obtain ⟨g1, g2⟩ := hI.out ha
          refine ⟨fun i hi => ?_, g2⟩
          have hnl : ltP (u, v) (x, y) := by simpa using hBB.out.symm
          exact asc_lt ha hpk.out (by omega) hnl
        go_wp2_with fail
        go_roundw
        case rel => exact ⟨M + 1, H, by omega, hHn, by go_num, rfl, hB4, HI⟩
        case measure => simp [intOf]; omega
    · obtain rfl : L = H := by omega
      have hbx : Blk wr p #[.int .i64 x, .int .i64 y] 31 := HBX.out.below hB HBX.out.lt
      have b0 : wr.cell? ⟨p, 0, none⟩ = some (.int .i64 x) := hbx.cell 0
      have b1 : wr.cell? ⟨p, 1, none⟩ = some (.int .i64 y) := hbx.cell 1
      clear hbx
      have HL : Hid (Asc ps → L = lowD ps (x, y)) := by
        intro ha
        obtain ⟨g1, g2⟩ := hI.out ha
        exact lowD_of ps (x, y) L (by rw [hn.out]; exact hHn) g1 (fun i h1 h2 => g2 i h1 (by rw [← hn.out]; exact h2))
      by_cases hLn : L < n
      · obtain ⟨b, off, u, v, rfl, hbl, c0, c1, hpk⟩ := HS.out.get L (by rw [hn.out]; exact hLn)
        have d0 : wr.cell? ⟨b, off + L * 2, none⟩ = some (.int .i64 u) := ((bNext HB0.out hB).cell (p := ⟨b, off + L * 2, none⟩) hbl).trans c0
        have d1 : wr.cell? ⟨b, off + L * 2 + 1, none⟩ = some (.int .i64 v) := ((bNext HB0.out hB).cell (p := ⟨b, off + L * 2 + 1, none⟩) hbl).trans c1
        clear c0 c1
        obtain ⟨B, hBB⟩ := nm (decide ((u, v) = (x, y)))
        have heq := fun w => eqlD u v x y B hBB.out.symm w
        have hgd := fun (a b : Operand) (w : World) => guardD .eql a b #[.int .i64 u, .int .i64 v] #[.int .i64 x, .int .i64 y] w
        have HE : Hid (decide (ps[L]? = some (x, y)) = B) := by
          show _ = _
          rw [hpk.out, hBB.out]
          simp
        go_wp2_with fail
        go_quiet (fail)
        go_wp2_with fail
        first | go_ret2 | (rw [Exit.noGoto_ret]; go_ret2)
        exact ⟨L, by rw [hn.out]; exact hHn, by rw [HE.out]; rfl, HL.out, below_drewN (bNext HB0.out hB) _⟩
      · have HE : Hid (decide (ps[L]? = some (x, y)) = false) := by
          show _ = _
          rw [List.getElem?_eq_none (by rw [hn.out]; omega)]
          simp
        have hlb : decide ((L : Int) < (n : Int)) = false := by simp; omega
        go_wp2_with fail
        go_quiet (fail)
        go_wp2_with fail
        first | go_ret2 | (rw [Exit.noGoto_ret]; go_ret2)
        exact ⟨L, by rw [hn.out]; exact hHn, by rw [HE.out]; rfl, HL.out, below_drewN (bNext HB0.out hB) _⟩
end Go.Proofs.Ytfpjdmplepepjaa

/-! BaseB: Rows of bytes that are made, and made texts of. -/
namespace Go.Proofs.Ytfpjdmplepepjaa
open Go.RowKit

/-- 'make([]byte, m)'. -/
theorem infoByte : (Try.prog.info? 5).map (fun i => (i.zero, i.size, i.bytes)) = some (some (.int .u8 0), 1, 1) := by kernel_rfl
theorem make_bytes (m : Nat) (h : m ≤ 281474976710656) (w : World) :
    (Instr.makeSlice 36 (.int .i64 (m : Int)) (.int .i64 (m : Int))).run Try.prog w = .ok (.slice (some ⟨w.heap.size, 0, none⟩) m m) (w.alloc (.cells (madeCells #[.int .u8 0] m) 5)) := by
  obtain ⟨i0, hi, hz0, hz1, hz2⟩ := info_parts infoByte
  have h := run_make (P := Try.prog) w 36 5 i0 (.int .u8 0) Try.underlying36 hi hz0 .i64 .i64 (m : Int) (m : Int) (by omega) (Int.le_refl _) (by rw [hz2]; omega) (by omega)
  simpa [hz1, Value.cells] using h
end Go.Proofs.Ytfpjdmplepepjaa

/-! Shelf: The contracts of math/bits.Len64 and math/bits.Mul64 at this dump, in plain words (written by the shelf's tool, turned into a template). -/
namespace Go.Proofs.Ytfpjdmplepepjaa
open Go.Shelf
def Try.lays129_ren : Go.Shelf.Ren := ⟨fun | 129 => 92 | n => n, fun | 53 => 98 | 3 => 3 | 4 => 4 | 46 => 132 | 5 => 5 | 9 => 9 | n => n, fun | n => n⟩
theorem Try.lays129 : Go.Proofs.Lays.n129 Try.prog Try.lays129_ren := {
  mixed := by kernel_rfl
  f129 := Try.func92.trans (congrArg some (by kernel_rfl))
  t3 := Try.underlying3
  a3 := Try.isAgg3
  z3 := Try.sizeOf3
  v3 := Try.zeroValue3
  t4 := Try.underlying4
  a4 := Try.isAgg4
  z4 := Try.sizeOf4
  v4 := Try.zeroValue4
  t5 := Try.underlying5
  a5 := Try.isAgg5
  z5 := Try.sizeOf5
  v5 := Try.zeroValue5
  t9 := Try.underlying9
  a9 := Try.isAgg9
  z9 := Try.sizeOf9
  v9 := Try.zeroValue9
  t46 := Try.underlying132
  a46 := Try.isAgg132
  z46 := Try.sizeOf132
  v46 := Try.zeroValue132
  t53 := Try.underlying98
  a53 := Try.isAgg98
  z53 := Try.sizeOf98
  v53 := Try.zeroValue98 }
/-- Len64 tells how many bits a number has. -/
theorem Try.bits_Len64 (x : Int) (w : World) (h0 : 0 ≤ x) (h1 : x ≤ 18446744073709551615) :
    Calls Try.prog 92 #[.int .u64 x] w fun e w' => e = .returned (.int .i64 (Lib.bitLen x.toNat)) ∧ w' = w := Any.bits_Len64 Try.lays129 x w h0 h1
def Try.lays264_ren : Go.Shelf.Ren := ⟨fun | 264 => 114 | n => n, fun | 53 => 98 | 46 => 132 | n => n, fun | n => n⟩
theorem Try.lays264 : Go.Proofs.Lays.n264 Try.prog Try.lays264_ren := {
  mixed := by kernel_rfl
  f264 := Try.func114.trans (congrArg some (by kernel_rfl))
  t46 := Try.underlying132
  a46 := Try.isAgg132
  z46 := Try.sizeOf132
  v46 := Try.zeroValue132
  t53 := Try.underlying98
  a53 := Try.isAgg98
  z53 := Try.sizeOf98
  v53 := Try.zeroValue98 }
open Go.RowKit Go.Lib in
theorem Try.bits_Mul64 (x y : Nat) (hx : x < 18446744073709551616) (hy : y < 18446744073709551616) (w : World) :
    Calls Try.prog 114 #[.int .u64 x, .int .u64 y] w fun e w' => e = .returned (.tuple #[.int .u64 ((x * y / 18446744073709551616 : Nat) : Int), .int .u64 ((x * y % 18446744073709551616 : Nat) : Int)]) ∧ w' = w := Any.bits_Mul64 Try.lays264 x y hx hy w
theorem len64_any (n : Nat) (w : World) (h : n < 18446744073709551616) :
    Calls Try.prog 92 #[.int .u64 n] w fun e w' => e = .returned (.int .i64 (Lib.bitLen n)) ∧ w = w' :=
  (Try.bits_Len64 n w (by omega) (by omega)).mono fun _ _ ⟨a, b⟩ => ⟨a, b.symm⟩
theorem mul64_any (x y : Nat) (w : World) (hx : x < 18446744073709551616) (hy : y < 18446744073709551616) :
    Calls Try.prog 114 #[.int .u64 x, .int .u64 y] w fun e w' => e = .returned (.tuple #[.int .u64 ((x * y / 18446744073709551616 : Nat) : Int), .int .u64 ((x * y % 18446744073709551616 : Nat) : Int)]) ∧ w = w' :=
  (Try.bits_Mul64 x y hx hy w).mono fun _ _ ⟨a, b⟩ => ⟨a, b.symm⟩
end Go.Proofs.Ytfpjdmplepepjaa

/-! Mint: The walks of layer mint: numbers and texts as bytes. -/
namespace Go.Proofs.Ytfpjdmplepepjaa
open Go.RowKit


/-- The bytes of the row behind i rounds. -/
def cellsN (m n i : Nat) : Array Value := ((List.range m).map fun j => Value.int .u8 (Pl.cellN m n i j)).toArray
theorem cellsN_size (m n i : Nat) : (cellsN m n i).size = m := by simp [cellsN]
theorem cellsN_get (m n i j : Nat) (h : j < m) : (cellsN m n i)[j]? = some (.int .u8 (Pl.cellN m n i j)) := by simp [cellsN, h]

theorem mark_byte : ∀ x : Fin 256, bits BinOp.or IntKind.u8 (bits BinOp.and IntKind.u8 (x.val : Int) 127) 128 = (128 + x.val % 128 : Nat) := by decide +kernel
theorem unmark_byte : ∀ x : Fin 256, bits BinOp.andNot IntKind.u8 (x.val : Int) 128 = (x.val % 128 : Nat) := by decide +kernel
theorem mark_nat (x : Nat) (h : x < 256) : bits BinOp.or IntKind.u8 (bits BinOp.and IntKind.u8 (x : Int) 127) 128 = ((128 + x % 128 : Nat) : Int) := mark_byte ⟨x, h⟩
theorem unmark_nat (x : Nat) (h : x < 256) : bits BinOp.andNot IntKind.u8 (x : Int) 128 = ((x % 128 : Nat) : Int) := unmark_byte ⟨x, h⟩
theorem cellsN_step (m n k : Nat) (h : k < m) :
    (cellsN m n k).setIfInBounds (m - 1 - k) (Value.int IntKind.u8 (bits BinOp.or IntKind.u8 (bits BinOp.and IntKind.u8 ((n : Int) / 2 ^ (7 * k) % 256) 127) 128)) = cellsN m n (k + 1) := by
  have e : ((n : Int) / 2 ^ (7 * k) % 256) = ((n / 2 ^ (7 * k) % 256 : Nat) : Int) := by simp
  rw [e, mark_nat _ (by omega)]
  apply Array.ext_getElem?
  intro j
  rw [Array.getElem?_setIfInBounds]
  by_cases hj : j < m
  · by_cases he : m - 1 - k = j
    · rw [if_pos he, if_pos (by rw [cellsN_size]; omega)]
      rw [cellsN_get _ _ _ _ hj]
      unfold Pl.cellN
      rw [if_pos (by omega), show m - 1 - j = k from by omega]
      rw [show (128 : Nat) = 2 ^ 7 from rfl, ← Nat.pow_mul]
      congr 3; omega
    · rw [if_neg he, cellsN_get _ _ _ _ hj, cellsN_get _ _ _ _ hj]
      unfold Pl.cellN
      by_cases h1 : m - 1 - j < k
      · rw [if_pos h1, if_pos (by omega)]
      · rw [if_neg h1, if_neg (by omega)]
  · have h1 : (cellsN m n (k + 1))[j]? = none := by rw [Array.getElem?_eq_none_iff, cellsN_size]; omega
    have h2 : (cellsN m n k)[j]? = none := by rw [Array.getElem?_eq_none_iff, cellsN_size]; omega
    rw [h1, if_neg (by omega), h2]
theorem cellsN_zero (m n : Nat) : madeCells #[Value.int IntKind.u8 0] m = cellsN m n 0 := by
  apply Array.ext_getElem?
  intro j
  by_cases hj : j < m
  · rw [cellsN_get _ _ _ _ hj]
    simp [madeCells, hj, Pl.cellN, Nat.mod_one]
  · have h1 : (cellsN m n 0)[j]? = none := by rw [Array.getElem?_eq_none_iff, cellsN_size]; omega
    rw [h1, Array.getElem?_eq_none_iff, size_madeCells]; omega

theorem cellsN_done (n k : Nat) (hk : k = Pl.nd n) :
    (cellsN k n k).setIfInBounds (k - 1) (Value.int IntKind.u8 (bits BinOp.andNot IntKind.u8 ((Pl.cellN k n k (k - 1) : Nat) : Int) 128)) = byteCells (Pl.num n) := by
  have h1 := Pl.nd_pos n
  have e : Pl.cellN k n k (k - 1) = 128 + n % 128 := by
    unfold Pl.cellN
    rw [if_pos (by omega), show k - 1 - (k - 1) = 0 from by omega]; simp
  rw [e, unmark_nat _ (by omega)]
  apply Array.ext_getElem?
  intro j
  rw [Array.getElem?_setIfInBounds, byteCells_get, Pl.num]
  by_cases hj : j < k
  · by_cases he : k - 1 = j
    · rw [if_pos he, if_pos (by rw [cellsN_size]; omega), List.getElem?_append_right (by rw [Pl.dg_length]; omega), Pl.dg_length, show j - (Pl.nd n - 1) = 0 from by omega]
      have : (128 + n % 128) % 128 = n % 128 := by omega
      simp [this]; omega
    · rw [if_neg he, cellsN_get _ _ _ _ hj, List.getElem?_append_left (by rw [Pl.dg_length]; omega), Pl.dg_get _ _ _ (by omega)]
      unfold Pl.cellN
      have e2 : n / 128 / 128 ^ (Pl.nd n - 1 - 1 - j) = n / 128 ^ (k - 1 - j) := by
        rw [Nat.div_div_eq_div_mul, ← Nat.pow_succ', show Nat.succ (Pl.nd n - 1 - 1 - j) = k - 1 - j from by omega]
      rw [e2, if_pos (by omega)]
      simp; omega
  · have h2 : (cellsN k n k)[j]? = none := by rw [Array.getElem?_eq_none_iff, cellsN_size]; omega
    rw [if_neg (by omega), h2, List.getElem?_eq_none (by simp [Pl.dg_length]; omega)]
    rfl

set_option maxHeartbeats 400000 in
theorem num_any (n : Nat) (w : World) (hn : n < 18446744073709551616) :
    Calls Try.prog 57 #[.int .u64 n] w fun e w' => e = .returned (.string (ofL (Pl.num n))) ∧ Below w.heap.size w w' := by
  have hb := Pl.bitLen_le n
  have hm : Hid (max ((Lib.bitLen n + 6) / 7) 1 = Pl.nd n) := Pl.many_eq n hn
  obtain ⟨m, hm2⟩ : ∃ m : Nat, Hid (m = Pl.nd n) := ⟨_, rfl⟩
  have hm0 : 1 ≤ m := by rw [hm2.out]; exact Pl.nd_pos n
  have hm1 : m ≤ 10 := by rw [hm2.out]; exact Pl.nd_le n hn
  have hmk := make_bytes m (by omega)
  go_enter Try.func57, Try.ntmps57
  go_upto_region 1 with fail
  go_cut [3] (fun s3 wx => s3 = .int .i64 (m : Int) ∧ w = wx)
  case first =>
    go_wp2_with (go_at_call 92; refine (len64_any _ _ hn).mono ?_; rintro e w' ⟨rfl, rfl⟩)
    go_meet
    have h1 := hm.out
    have h2 := hm2.out
    exact ⟨congrArg _ (by omega), rfl⟩
  case rest =>
    obtain ⟨rfl, rfl⟩ := hcut
    go_wp2_with fail
    go_loopw [16] (fun i wr => ∃ k : Nat, k ≤ m ∧ i = .int .i64 (k : Int) ∧ wr = w.alloc (.cells (cellsN m n k) 5)) (fun i _ => m - (intOf i).toNat)
    case atStart => exact ⟨0, Nat.zero_le _, rfl, by rw [cellsN_zero m n]⟩
    case round =>
      obtain ⟨k, hk, rfl, rfl⟩ := hrel
      by_cases hlt : k < m
      · have hget : (cellsN m n k)[m - 1 - k]? = some (.int .u8 (Pl.cellN m n k (m - 1 - k))) := cellsN_get _ _ _ _ (by omega)
        go_wp2
        go_roundw
        case rel => exact ⟨k + 1, by omega, by go_num, by rw [cellsN_step m n k hlt]⟩
        case measure => simp [intOf]; omega
      · obtain rfl : k = m := by omega
        have hget : (cellsN k n k)[k - 1]? = some (.int .u8 (Pl.cellN k n k (k - 1))) := cellsN_get _ _ _ _ (by omega)
        have hcv := conv_new (P := Try.prog) w 36 5 9 5 Try.underlying36 Try.underlying5 Try.underlying9 k k (Pl.num n) _ (by rw [Pl.num_length]; exact hm2.out.symm) (cellsN_done n k hm2.out)
        go_wp2
        go_ret
        exact ⟨rfl, (Below.refl _ _).alloc (Nat.le_refl _) _⟩
end Go.Proofs.Ytfpjdmplepepjaa

/-! Int: Numbers as bytes, those below 0 as 0. -/
namespace Go.Proofs.Ytfpjdmplepepjaa
open Go.RowKit

set_option maxRecDepth 100000 in
set_option maxHeartbeats 400000 in
theorem mint_int (n : Int) (w : World) (hn : n ≤ 9223372036854775807) :
    Calls Try.prog 55 #[.int .i64 n] w fun e w' => e = .returned (.string (ofL (Pl.num n.toNat))) ∧ Below w.heap.size w w' := by
  by_cases h : n < 0
  · rw [show n.toNat = 0 from by omega]
    go_enter Try.func55, Try.ntmps55
    go_wp2_with fail
    rw [show max n 0 = ((0 : Nat) : Int) from by omega]
    refine (num_any 0 _ (by omega)).mono ?_; rintro e w' ⟨rfl, hb⟩
    go_wp2_with fail
    go_ret
    exact ⟨rfl, hb⟩
  · obtain ⟨N, rfl⟩ : ∃ N : Nat, n = N := ⟨n.toNat, by omega⟩
    rw [show (N : Int).toNat = N from by omega]
    go_enter Try.func55, Try.ntmps55
    go_wp2_with fail
    refine (num_any N _ (by omega)).mono ?_; rintro e w' ⟨rfl, hb⟩
    go_wp2_with fail
    go_ret
    exact ⟨rfl, hb⟩
end Go.Proofs.Ytfpjdmplepepjaa

/-! Bytes: Small facts on texts as byte arrays, and on masks. -/
namespace Go.Proofs.Ytfpjdmplepepjaa
open Go.RowKit

theorem nil_append (t : ByteArray) : (⟨#[]⟩ : ByteArray) ++ t = t := bl_inj (by rw [bl_append]; rfl)
theorem append_nil (t : ByteArray) : t ++ (⟨#[]⟩ : ByteArray) = t := bl_inj (by rw [bl_append]; exact List.append_nil _)
theorem app_size (a b : ByteArray) : (a ++ b).size = a.size + b.size := ByteArray.size_append
theorem app_assoc (a b c : ByteArray) : a ++ b ++ c = a ++ (b ++ c) := bl_inj (by simp [bl_append])
end Go.Proofs.Ytfpjdmplepepjaa

/-! WDot: Names: may one be; do they rise; their bytes. -/
namespace Go.Proofs.Ytfpjdmplepepjaa
open Go.RowKit Go.Sort
theorem hidSymm {α : Type} {a b : α} (h : Hid (a = b)) : Hid (b = a) := h.out.symm
theorem less_is (x1 x2 y1 y2 : Int) (b : Bool) (hb : Hid (decide (ltP (x1, x2) (y1, y2)) = b)) (w : World) :
    Calls Try.prog 69 #[.agg #[.int .i64 x1, .int .i64 x2], .agg #[.int .i64 y1, .int .i64 y2]] w fun e w' => e = .returned (.bool b) ∧ Below w.heap.size w w' := by
  rw [← hb.out]; exact less_any x1 x2 y1 y2 w
theorem SlP.none_len {w : World} {ps : List (Int × Int)} (h : SlP w none ps) : ps.length = 0 := by
  rcases Nat.eq_zero_or_pos ps.length with h0 | h0
  · exact h0
  · obtain ⟨b, off, h1, _⟩ := h 0 h0; cases h1

theorem take_snocP {ps : List (Int × Int)} {k : Nat} {p : Int × Int} (h : ps[k]? = some p) : ps.take (k + 1) = ps.take k ++ [p] := by
  obtain ⟨g1, _⟩ := get_of h
  rw [List.take_succ_eq_append_getElem g1]
  rw [List.getElem?_eq_getElem g1] at h
  rw [Option.some.inj h]

/-- A row rises, as far as it was looked at. -/
theorem asc_snoc {l : List (Int × Int)} {p q : Int × Int} (h : Asc (l ++ [p])) (hl : ltP p q) : Asc (l ++ [p] ++ [q]) := by
  refine List.pairwise_append.2 ⟨h, List.pairwise_singleton _ _, fun a ha b hb => ?_⟩
  obtain rfl : b = q := by simpa using hb
  rcases List.mem_append.1 ha with h2 | h2
  · exact ltP_trans ((List.pairwise_append.1 h).2.2 a h2 p (by simp)) hl
  · obtain rfl : a = p := by simpa using h2
    exact hl

set_option maxRecDepth 100000 in
set_option maxHeartbeats 1000000 in
theorem rises_any (ao : Option Addr) (ps : List (Int × Int)) (n cap : Nat) (hn : Hid (ps.length = n)) (hm : n ≤ 1000000000) (w : World) (hs : SlP w ao ps) (r : Bool) (hr : Hid (r = decide (Asc ps))) :
    Calls Try.prog 98 #[.slice ao n cap] w fun e w' => e = .returned (.bool r) ∧ Below w.heap.size w w' := by
  have HS := Lib.hid hs
  clear hs
  go_enter Try.func98, Try.ntmps98
  go_wp2_with fail
  go_loopw [7] (fun i wr => ∃ k : Nat, k ≤ n ∧ i = .int .i64 (k : Int) ∧ Below w.heap.size w wr ∧ Hid (Asc (ps.take k))) (fun i _ => n - (intOf i).toNat)
  case atStart => exact ⟨0, by omega, rfl, Below.refl _ _, by show Asc _; simp [Asc]⟩
  case round =>
    obtain ⟨k, hk, rfl, hB, hI⟩ := hrel
    by_cases hlt : k < n
    · obtain ⟨b, off, u, v, rfl, hbl, c0, c1, hpk⟩ := HS.out.get k (by rw [hn.out]; exact hlt)
      have d0 : wr.cell? ⟨b, off + k * 2, none⟩ = some (.int .i64 u) := (hB.cell (p := ⟨b, off + k * 2, none⟩) hbl).trans c0
      have d1 : wr.cell? ⟨b, off + k * 2 + 1, none⟩ = some (.int .i64 v) := (hB.cell (p := ⟨b, off + k * 2 + 1, none⟩) hbl).trans c1
      clear c0 c1
      by_cases hk0 : k = 0
      · subst hk0
        rw [Nat.zero_mul, Nat.add_zero] at d0 d1
        have HI : Hid (Asc (ps.take 1)) := by
          show Asc _
          rw [take_snocP hpk.out]
          simp [Asc]
        go_wp2_with fail
        go_quiet (fail)
        go_wp2_with fail
        go_roundw
        case rel => exact ⟨1, by omega, by go_num, below_drewN (bNew hB _) _, HI⟩
        case measure => simp [intOf]; omega
      · have hbs := hB.size
        obtain ⟨b', off', u1, v1, e', hbl', c2, c3, hpj⟩ := HS.out.get (k - 1) (by rw [hn.out]; omega)
        cases e'
        have d2 : wr.cell? ⟨b, off + (k - 1) * 2, none⟩ = some (.int .i64 u1) := (hB.cell (p := ⟨b, off + (k - 1) * 2, none⟩) hbl).trans c2
        have d3 : wr.cell? ⟨b, off + (k - 1) * 2 + 1, none⟩ = some (.int .i64 v1) := (hB.cell (p := ⟨b, off + (k - 1) * 2 + 1, none⟩) hbl).trans c3
        clear c2 c3
        have hblr : b < wr.heap.size := by omega
        obtain ⟨B, hBB⟩ := nm (decide (ltP (u1, v1) (u, v)))
        have hw1 : IntKind.i64.wrap ((k : Int) - 1) = ((k - 1 : Nat) : Int) := by rw [IntWalk.i64_in _ (by omega)]; omega
        have hw2 : k - 1 < n := by omega
        go_wp2_with fail
        have hkb : decide ((0 : Int) < (k : Int)) = true := by simp; omega
        have hkn : 0 < k := by omega
        refine wp_region_still_tail 9 (by kernel_rfl) (by kernel_rfl) ?_
        simp only [List.take_succ_cons, List.take_zero, List.drop_succ_cons, List.drop_zero]
        change wpStill _ _ (World.drew _) (fun a' => wpList _ _ _ _ a' (World.drew _)) _ _
        still_step
        still_step
        still_step
        still_step
        still_step
        still_step
        still_step
        still_step
        still_step
        refine wpStill_nil ?_
        clear d0 d1 d2 d3 hw1
        have hlen1 : k - 1 + 1 = k := by omega
        have htk : ps.take k = ps.take (k - 1) ++ [(u1, v1)] := by
          have := take_snocP hpj.out
          rwa [hlen1] at this
        have HTK := Lib.hid htk
        have HTS := Lib.hid (take_snocP hpk.out)
        clear htk hlen1
        cases B
        · have HE : Hid (r = false) := by
            show _ = _
            rw [hr.out]
            refine decide_eq_false fun ha => ?_
            obtain ⟨g1, g2⟩ := get_of hpk.out
            obtain ⟨g3, g4⟩ := get_of hpj.out
            have := asc_mono ha (show k - 1 < k by omega) g1
            rw [g2, g4] at this
            exact absurd this (by simpa using hBB.out.symm)
          go_wp2_with fail
          refine (less_is u1 v1 u v false (hidSymm hBB) _).mono ?_; rintro e w3 ⟨rfl, hB3⟩
          have hB4 : Below w.heap.size w w3 := (below_drewN (bNew hB (.cells #[.int .i64 u, .int .i64 v] 31)) 1).trans (hB3.mono (by simp; omega))
          go_wp2_with fail
          go_ret
          rw [HE.out]
          exact ⟨rfl, hB4⟩
        · have HI : Hid (Asc (ps.take (k + 1))) := by
            show Asc _
            rw [HTS.out, HTK.out]
            have h1 := hI.out
            rw [HTK.out] at h1
            exact asc_snoc h1 (by simpa using hBB.out.symm)
          go_wp2_with fail
          refine (less_is u1 v1 u v true (hidSymm hBB) _).mono ?_; rintro e w3 ⟨rfl, hB3⟩
          have hB4 : Below w.heap.size w w3 := (below_drewN (bNew hB (.cells #[.int .i64 u, .int .i64 v] 31)) 1).trans (hB3.mono (by simp; omega))
          go_wp2_with fail
          go_roundw
          case rel => exact ⟨k + 1, by omega, by go_num, hB4, HI⟩
          case measure => simp [intOf]; omega
    · obtain rfl : k = n := by omega
      have HE : Hid (r = true) := by
        show _ = _
        rw [hr.out]
        refine decide_eq_true ?_
        have := hI.out
        rwa [List.take_of_length_le (by rw [hn.out]; exact Nat.le_refl _)] at this
      go_wp2_with fail
      go_ret
      rw [HE.out]
      exact ⟨rfl, hB⟩


/-- May a name be? -/
def okD (x y : Int) : Bool := decide (1 ≤ x ∧ x ≤ 1099511627776 ∧ 1 ≤ y ∧ y ≤ 1099511627776)

set_option maxRecDepth 100000 in
set_option maxHeartbeats 400000 in
theorem may_any (x : Int) (r : Bool) (hr : Hid (r = decide (1 ≤ x ∧ x ≤ 1099511627776))) (w : World) :
    Calls Try.prog 65 #[.int .i64 x] w fun e w' => e = .returned (.bool r) ∧ w = w' := by
  have hr2 := hr.out
  by_cases h1 : 1 ≤ x
  · have h1' : decide (1 ≤ x) = true := decide_eq_true h1
    have h2 : decide (x ≤ 1099511627776) = r := by rw [hr2]; exact decide_eq_decide.2 ⟨fun h => ⟨h1, h⟩, fun h => h.2⟩
    clear hr2
    go_enter Try.func65, Try.ntmps65
    go_wp2_with fail
    go_ret
    exact ⟨rfl, rfl⟩
  · have h1' : decide (1 ≤ x) = false := decide_eq_false h1
    obtain rfl : r = false := by rw [hr2]; exact decide_eq_false (fun h => h1 h.1)
    clear hr2
    go_enter Try.func65, Try.ntmps65
    go_wp2_with fail
    go_ret
    exact ⟨rfl, rfl⟩

set_option maxRecDepth 100000 in
set_option maxHeartbeats 400000 in
theorem check_any (x y : Int) (r : Bool) (hr : Hid (r = okD x y)) (w : World) :
    Calls Try.prog 28 #[.agg #[.int .i64 x, .int .i64 y]] w fun e w' => e = .returned (.bool r) ∧ Below w.heap.size w w' := by
  obtain ⟨A, hA⟩ := nm (decide (1 ≤ x ∧ x ≤ 1099511627776))
  obtain ⟨B, hB⟩ := nm (decide (1 ≤ y ∧ y ≤ 1099511627776))
  have hR : Hid (r = (A && B)) := by
    show _ = _
    rw [hr.out, hA.out, hB.out, okD, ← Bool.decide_and]
    exact decide_eq_decide.2 ⟨fun h => ⟨⟨h.1, h.2.1⟩, h.2.2⟩, fun h => ⟨h.1.1, h.1.2, h.2⟩⟩
  cases A
  · obtain rfl : r = false := by rw [hR.out]; rfl
    go_enter Try.func28, Try.ntmps28
    go_wp2_with fail
    refine (may_any x false hA _).mono ?_; rintro e w2 ⟨rfl, rfl⟩
    go_wp2_with fail
    go_ret
    exact ⟨rfl, bOld _⟩
  · obtain rfl : r = B := by rw [hR.out]; simp
    go_enter Try.func28, Try.ntmps28
    go_wp2_with fail
    refine (may_any x true hA _).mono ?_; rintro e w2 ⟨rfl, rfl⟩
    go_wp2_with fail
    refine (may_any y r hB _).mono ?_; rintro e w2 ⟨rfl, rfl⟩
    go_wp2_with fail
    go_ret
    exact ⟨rfl, bOld _⟩


def bytesD (p : Int × Int) : List UInt8 := Pl.num p.1.toNat ++ Pl.num p.2.toNat
def namesD (ps : List (Int × Int)) : List UInt8 := ps.flatMap bytesD
def rowD (ps : List (Int × Int)) : List UInt8 := Pl.num ps.length ++ namesD ps
/-- Numbers as the program has them. -/
def InD (p : Int × Int) : Prop := p.1 ≤ 9223372036854775807 ∧ p.2 ≤ 9223372036854775807
theorem bytesD_le (p : Int × Int) (h : InD p) : (bytesD p).length ≤ 20 := by
  have h1 := Pl.num_length_le p.1.toNat (by have := h.1; omega)
  have h2 := Pl.num_length_le p.2.toNat (by have := h.2; omega)
  simp only [bytesD, List.length_append]; omega
theorem namesD_snoc (ps : List (Int × Int)) (p : Int × Int) : namesD (ps ++ [p]) = namesD ps ++ bytesD p := by simp [namesD]

theorem int_is (n : Int) (s : ByteArray) (hs : Hid (s = ofL (Pl.num n.toNat))) (w : World) (hn : n ≤ 9223372036854775807) :
    Calls Try.prog 55 #[.int .i64 n] w fun e w' => e = .returned (.string s) ∧ Below w.heap.size w w' := by rw [hs.out]; exact mint_int n w hn
set_option maxRecDepth 100000 in
set_option maxHeartbeats 1000000 in
theorem bytes_any (x y : Int) (w : World) (hx : x ≤ 9223372036854775807) (hy : y ≤ 9223372036854775807) (s : ByteArray) (hs : Hid (s = ofL (bytesD (x, y)))) :
    Calls Try.prog 59 #[.agg #[.int .i64 x, .int .i64 y]] w fun e w' => e = .returned (.string s) ∧ Below w.heap.size w w' := by
  obtain ⟨s1, h1⟩ := nm (ofL (Pl.num x.toNat))
  obtain ⟨s2, h2⟩ := nm (ofL (Pl.num y.toNat))
  have hsum : Hid (s1 ++ s2 = s) := by show _ = _; rw [hs.out, h1.out, h2.out, ofL_append]; rfl
  have l1 : s1.size ≤ 10 := by rw [h1.out, ofL_size]; exact Pl.num_length_le _ (by omega)
  have l2 : s2.size ≤ 10 := by rw [h2.out, ofL_size]; exact Pl.num_length_le _ (by omega)
  have hb0 : Blk (w.alloc (.cells #[.int .i64 x, .int .i64 y] 31)) w.heap.size #[.int .i64 x, .int .i64 y] 31 := Blk.new _ _ _
  obtain ⟨w1, hw1⟩ := nm (w.alloc (.cells #[.int .i64 x, .int .i64 y] 31))
  rw [← hw1.out] at hb0
  have l3 : s1.size + s2.size ≤ 9223372036854775807 := by omega
  have hadd := fun w : World => run_string_add_sum (P := Try.prog) w s1 s2 l3
  have hB0 : Below w.heap.size w w1 := by rw [hw1.out]; exact bOld _
  obtain ⟨p, hp⟩ := nm w.heap.size
  rw [← hp.out] at hb0
  have HF : Hid (∀ w' : World, Below w1.heap.size w1 w' → w'.cell? ⟨p, 0, none⟩ = some (.int .i64 x) ∧ w'.cell? ⟨p, 1, none⟩ = some (.int .i64 y)) := by
    intro w' h; exact ⟨(hb0.below h hb0.lt).cell 0, (hb0.below h hb0.lt).cell 1⟩
  have HB0 := Lib.hid hB0
  clear hB0 hb0
  obtain ⟨g1, g2⟩ := HF.out w1 (Below.refl _ _)
  have hBc : Below w1.heap.size w1 w1.drew := below_drewN (Below.refl _ _) 1
  go_enter Try.func59, Try.ntmps59
  go_wp2_with fail
  rw [← hp.out, ← hw1.out]
  go_region_held3 (fun w' => w'.cell? ⟨p, 0, none⟩ = some (.int .i64 x) ∧ w'.cell? ⟨p, 1, none⟩ = some (.int .i64 y)) (first | assumption | go_keep)
    (first
      | (go_at_call 55; (with_reducible refine (int_is x s1 h1 _ hx).mono ?_); rintro e w2 ⟨rfl, hB2⟩; have hBd := bNext hBc hB2; have g3 := HF.out _ hBd)
      | (go_at_call 55; (with_reducible refine (int_is y s2 h2 _ hy).mono ?_); rintro e w3 ⟨rfl, hB3⟩; have hBe := bNext hBd hB3; have g4 := HF.out _ hBe))
  go_wp2_with fail
  go_ret
  exact ⟨congrArg (fun t => Ending.returned (Value.string t)) hsum.out, bNext HB0.out hBe⟩

set_option maxRecDepth 100000 in
set_option maxHeartbeats 1000000 in
theorem row_any (ao : Option Addr) (ps : List (Int × Int)) (n cap : Nat) (hn : Hid (ps.length = n)) (hm : n ≤ 1000000) (hin : Hid (∀ p ∈ ps, InD p)) (w : World) (hs : SlP w ao ps) (s : ByteArray) (hss : Hid (s = ofL (rowD ps))) :
    Calls Try.prog 93 #[.slice ao n cap] w fun e w' => e = .returned (.string s) ∧ Below w.heap.size w w' := by
  have HS := Lib.hid hs
  clear hs
  obtain ⟨s0, h0⟩ := nm (ofL (Pl.num n))
  have l0 : s0.size ≤ 10 := by rw [h0.out, ofL_size]; exact Pl.num_length_le _ (by omega)
  go_enter Try.func93, Try.ntmps93
  go_wp2_with fail
  refine (int_is (n : Int) s0 h0 _ (by omega)).mono ?_; rintro e w1 ⟨rfl, hB1⟩
  go_wp2_with fail
  go_loopw [3, 11] (fun v i wr => ∃ (k : Nat) (t : ByteArray), k ≤ n ∧ i = .int .i64 (k : Int) ∧ v = .string t ∧ t.size ≤ 10 + 20 * k ∧ Below w.heap.size w wr ∧ Hid (t = s0 ++ ofL (namesD (ps.take k)))) (fun _ i _ => n - (intOf i).toNat)
  case atStart => exact ⟨0, s0, by omega, rfl, rfl, by omega, hB1, by show _ = _; rw [List.take_zero]; exact (append_nil s0).symm⟩
  case round =>
    obtain ⟨k, t, hk, rfl, rfl, ht, hB, hT⟩ := hrel
    by_cases hlt : k < n
    · obtain ⟨b, off, u, v, rfl, hbl, c0, c1, hpk⟩ := HS.out.get k (by rw [hn.out]; exact hlt)
      have d0 : wr.cell? ⟨b, off + k * 2, none⟩ = some (.int .i64 u) := (hB.cell (p := ⟨b, off + k * 2, none⟩) hbl).trans c0
      have d1 : wr.cell? ⟨b, off + k * 2 + 1, none⟩ = some (.int .i64 v) := (hB.cell (p := ⟨b, off + k * 2 + 1, none⟩) hbl).trans c1
      obtain ⟨q1, q2⟩ := hin.out _ (List.mem_of_getElem? hpk.out)
      simp only at q1 q2
      obtain ⟨s2, h2⟩ := nm (ofL (bytesD (u, v)))
      have l2 : s2.size ≤ 20 := by rw [h2.out, ofL_size]; exact bytesD_le _ ⟨q1, q2⟩
      have HT : Hid (t ++ s2 = s0 ++ ofL (namesD (ps.take (k + 1)))) := by
        show _ = _
        rw [hT.out, h2.out, take_snocP hpk.out, namesD_snoc, ← ofL_append, app_assoc]
      have hts : (t ++ s2).size ≤ 10 + 20 * (k + 1) := by rw [app_size]; omega
      clear c0 c1 hT
      go_wp2_with fail
      refine (bytes_any u v _ q1 q2 s2 h2).mono ?_; rintro e w3 ⟨rfl, hB3⟩
      clear d0 d1
      go_wp2_with fail
      go_roundw
      case rel => exact ⟨k + 1, t ++ s2, by omega, by go_num, rfl, hts, bNext (bNew hB _) hB3, HT⟩
      case measure => simp [intOf]; omega
    · obtain rfl : k = n := by omega
      have HE : Hid (t = s) := by
        show _ = _
        rw [hT.out, hss.out, h0.out, List.take_of_length_le (by rw [hn.out]; exact Nat.le_refl _), ofL_append, rowD, hn.out]
      go_wp2_with fail
      go_ret
      rw [HE.out]
      exact ⟨rfl, hB⟩
end Go.Proofs.Ytfpjdmplepepjaa

/-! RowsE: Slices of structs of any few cells: as they come in, as they are read. -/
namespace Go.Proofs.Ytfpjdmplepepjaa
open Go.ChangeShapes Go.WideShapes Go.ChangeAt Go.RowKit

/-- A slice: its elements are xs, each of k cells. -/
def SlE {α : Type} (enc : α → List Value) (k : Nat) (w : World) (ao : Option Addr) (xs : List α) : Prop :=
  ∀ i, i < xs.length → ∃ b off, ao = some ⟨b, off, none⟩ ∧ b < w.heap.size ∧ ∀ (j : Nat) (x : α), xs[j]? = some x → ∀ (c : Nat) (u : Value), (enc x)[c]? = some u → w.cell? ⟨b, off + j * k + c, none⟩ = some u
theorem SlE.nil {α : Type} (enc : α → List Value) (k : Nat) (w : World) (ao : Option Addr) : SlE enc k w ao [] := fun _ h => absurd h (Nat.not_lt_zero _)
theorem SlE.below {α : Type} {enc : α → List Value} {k : Nat} {w w' : World} {ao : Option Addr} {xs : List α} (h : SlE enc k w ao xs) (hb : Below w.heap.size w w') : SlE enc k w' ao xs := by
  intro i hi
  obtain ⟨b, off, h1, h2, h3⟩ := h i hi
  refine ⟨b, off, h1, Nat.lt_of_lt_of_le h2 hb.size, fun j x hj c u hu => ?_⟩
  rw [hb.cell (p := ⟨b, off + j * k + c, none⟩) h2]
  exact h3 j x hj c u hu
theorem SlE.take {α : Type} {enc : α → List Value} {k : Nat} {w : World} {ao : Option Addr} {xs : List α} (n : Nat) (h : SlE enc k w ao xs) : SlE enc k w ao (xs.take n) := by
  intro i hi
  rw [List.length_take] at hi
  obtain ⟨b, off, h1, h2, h3⟩ := h i (by omega)
  refine ⟨b, off, h1, h2, fun j x hj => h3 j x ?_⟩
  rw [List.getElem?_take] at hj
  split at hj
  · exact hj
  · cases hj
/-- One element: its place, and what each of its cells holds. -/
theorem SlE.get {α : Type} {enc : α → List Value} {k : Nat} {w : World} {ao : Option Addr} {xs : List α} (h : SlE enc k w ao xs) (i : Nat) (hi : i < xs.length) :
    ∃ b off x, ao = some ⟨b, off, none⟩ ∧ b < w.heap.size ∧ Hid (xs[i]? = some x) ∧ ∀ (c : Nat) (u : Value), (enc x)[c]? = some u → w.cell? ⟨b, off + i * k + c, none⟩ = some u := by
  obtain ⟨b, off, h1, h2, h3⟩ := h i hi
  exact ⟨b, off, xs[i], h1, h2, List.getElem?_eq_getElem hi, h3 i _ (List.getElem?_eq_getElem hi)⟩
section
variable {H : Type} {enc0 : TypeId × Value → H} {P : Program} {w : World} {base : Nat} {spare : Nat → Bool} {held : Bool}
/-- A slice that came in, where each element's cells are some x's. -/
theorem open_rowsE {α : Type} {enc : α → List Value} {k : Nat} {t e : TypeId} {v : Value} {d : DataW H} {ps : List MemPlace} (ht : P.underlying t = some (.slice e)) (hc : P.cellsOf e = k) (hk : 0 < k)
    (hx : ∀ (n : Nat) (cs : List Value) (y : DataW H × List MemPlace), cs.length = k → DataW.trod enc0 P w base spare held n e cs = some y → ∃ x, cs = enc x)
    (h : DataW.Trod enc0 P w base spare held t v d ps) (hv : ∃ a len cap, v = .slice a len cap) :
    ∃ (ao : Option Addr) (len cap : Nat) (l : List α), v = .slice ao len cap ∧ l.length = len ∧ len ≤ cap ∧ cap ≤ maxLen ∧ SlE enc k w ao l := by
  obtain ⟨ao, len, cap, Cs, rfl, hl, hm, hr⟩ := open_rows ht hc hk h hv
  have each : ∀ i, i < len → ∃ x : α, Cs i = enc x := by
    intro i hi
    obtain ⟨b, off, _, _, hlen, _, n, y, hy⟩ := hr i hi
    exact hx n _ y hlen hy
  by_cases h0 : len = 0
  · subst h0
    exact ⟨ao, 0, cap, [], rfl, rfl, hl, hm, SlE.nil _ _ _ _⟩
  obtain ⟨l, hll, hlq⟩ : ∃ l : List α, l.length = len ∧ ∀ j x, l[j]? = some x → ∃ h : j < len, enc x = Cs j := by
    have hg : ∀ m, m ≤ len → ∃ l : List α, l.length = m ∧ ∀ j x, l[j]? = some x → ∃ h : j < len, enc x = Cs j := by
      intro m
      induction m with
      | zero => exact fun _ => ⟨[], rfl, fun j x h => by simp at h⟩
      | succ m ih =>
        intro hm
        obtain ⟨l, h1, h2⟩ := ih (by omega)
        obtain ⟨x, hx⟩ := each m (by omega)
        refine ⟨l ++ [x], by simp [h1], fun j y hj => ?_⟩
        rcases Nat.lt_or_ge j l.length with h | h
        · rw [List.getElem?_append_left h] at hj
          exact h2 j y hj
        · rw [List.getElem?_append_right h] at hj
          have hj0 : j = l.length := by
            rcases Nat.lt_or_ge 0 (j - l.length) with h3 | h3
            · rw [List.getElem?_eq_none (by simp; omega)] at hj; cases hj
            · omega
          subst hj0
          rw [Nat.sub_self] at hj
          obtain rfl : x = y := by simpa using hj
          exact ⟨by omega, by rw [h1]; exact hx.symm⟩
    exact hg len (Nat.le_refl _)
  refine ⟨ao, len, cap, l, rfl, hll, hl, hm, fun i hi => ?_⟩
  obtain ⟨b, off, h1, h2, _⟩ := hr i (by omega)
  refine ⟨b, off, h1, h2, fun j x hj c u hu => ?_⟩
  obtain ⟨hjl, hxe⟩ := hlq j x hj
  obtain ⟨b', off', h1', _, hlen, hcell, _⟩ := hr j hjl
  rw [h1] at h1'
  cases h1'
  rw [hxe] at hu
  have hck : c < k := by
    rw [← hlen]
    rcases Nat.lt_or_ge c (Cs j).length with h | h
    · exact h
    · rw [List.getElem?_eq_none h] at hu; cases hu
  have := hcell c hck
  rw [← Nat.add_assoc] at this
  rw [this]; exact hu
/-- The same, of a field's one cell. -/
theorem open_cellE {α : Type} {enc : α → List Value} {k n : Nat} {t e : TypeId} {c : Value} {y : DataW H × List MemPlace} (ht : P.underlying t = some (.slice e)) (hc : P.cellsOf e = k) (hk : 0 < k)
    (hx : ∀ (n : Nat) (cs : List Value) (y : DataW H × List MemPlace), cs.length = k → DataW.trod enc0 P w base spare held n e cs = some y → ∃ x, cs = enc x)
    (h : DataW.trod enc0 P w base spare held n t [c] = some y) :
    ∃ (ao : Option Addr) (len cap : Nat) (l : List α), c = .slice ao len cap ∧ l.length = len ∧ len ≤ cap ∧ cap ≤ maxLen ∧ SlE enc k w ao l := by
  have hf : ∃ a len cap, c = .slice a len cap := by
    rcases DataW.trod_slice ht h with ⟨e, _⟩ | ⟨a, len, cap, _, _, _, _, e, _⟩
    · simp at e; exact ⟨none, 0, 0, e⟩
    · simp at e; exact ⟨some a, len, cap, e⟩
  obtain ⟨a, len, cap, rfl⟩ := hf
  obtain ⟨d, p⟩ := y
  exact open_rowsE ht hc hk hx (d := d) (ps := p) ⟨n, by simpa [Value.cells] using h⟩ ⟨a, len, cap, rfl⟩
end
end Go.Proofs.Ytfpjdmplepepjaa

/-! WireOpen: What may be said, as it comes in: a struct by value, with its rows. -/
namespace Go.Proofs.Ytfpjdmplepepjaa
open Go.ChangeShapes Go.WideShapes Go.ChangeAt Go.RowKit

/-- A name, a tag, a peer, a message: their cells. -/
abbrev Dot2 := Int × Int
abbrev Tag2 := ByteArray × Int
abbrev Peer3 := Int × Int × Int
structure Msg5 where
  node : Int
  n : Int
  queue : ByteArray
  body : ByteArray
  count : Int
def eDot (x : Dot2) : List Value := [.int .i64 x.1, .int .i64 x.2]
def eTag (x : Tag2) : List Value := [.string x.1, .int .i64 x.2]
def ePeer (x : Peer3) : List Value := [.int .i64 x.1, .int .i64 x.2.1, .int .i64 x.2.2]
def eMsg (x : Msg5) : List Value := [.int .i64 x.node, .int .i64 x.n, .string x.queue, .string x.body, .int .i64 x.count]
section
variable {H : Type} {enc0 : TypeId × Value → H} {w : World} {base : Nat} {spare : Nat → Bool} {held : Bool}
theorem cellsI : Try.prog.cellsOf 3 = 1 := by kernel_rfl
theorem cellsS : Try.prog.cellsOf 9 = 1 := by kernel_rfl
theorem in_dot (n : Nat) (cs : List Value) (y : DataW H × List MemPlace) (hl : cs.length = 2) (h : DataW.trod enc0 Try.prog w base spare held n 31 cs = some y) : ∃ x, cs = eDot x := by
  match cs, hl with
  | [c0, c1], _ =>
    obtain ⟨xs, m, _, _, _, hx, hf⟩ := DataW.trod_struct Try.underlying31 h
    have h0 : DataW.trod enc0 Try.prog w base spare held m 3 [c0] = xs[0]? := by simpa [cellsI] using hf 0 _ rfl
    have h1 : DataW.trod enc0 Try.prog w base spare held m 3 [c1] = xs[1]? := by simpa [cellsI] using hf 1 _ rfl
    obtain ⟨y0, hy0⟩ : ∃ y, xs[0]? = some y := ⟨xs[0]'(by rw [hx]; decide), by simp⟩
    rw [hy0] at h0
    obtain ⟨a0, e0, _⟩ := DataW.trod_int Try.underlying3 h0
    simp at e0
    obtain ⟨y1, hy1⟩ : ∃ y, xs[1]? = some y := ⟨xs[1]'(by rw [hx]; decide), by simp⟩
    rw [hy1] at h1
    obtain ⟨a1, e1, _⟩ := DataW.trod_int Try.underlying3 h1
    simp at e1
    exact ⟨(a0, a1), by rw [e0, e1]; rfl⟩
theorem cellsD : Try.prog.cellsOf 31 = 2 := by kernel_rfl
theorem in_msg (n : Nat) (cs : List Value) (y : DataW H × List MemPlace) (hl : cs.length = 5) (h : DataW.trod enc0 Try.prog w base spare held n 48 cs = some y) : ∃ x, cs = eMsg x := by
  match cs, hl with
  | [c0, c1, c2, c3, c4], _ =>
    obtain ⟨xs, m, _, _, _, hx, hf⟩ := DataW.trod_struct Try.underlying48 h
    have h0 : DataW.trod enc0 Try.prog w base spare held m 31 [c0, c1] = xs[0]? := by simpa [cellsD] using hf 0 _ rfl
    obtain ⟨y0, hy0⟩ : ∃ y, xs[0]? = some y := ⟨xs[0]'(by rw [hx]; decide), by simp⟩
    rw [hy0] at h0
    obtain ⟨⟨p, q⟩, e0⟩ := in_dot m _ _ rfl h0
    obtain ⟨e00, e01⟩ : c0 = .int .i64 p ∧ c1 = .int .i64 q := by simpa [eDot] using e0
    have h1 : DataW.trod enc0 Try.prog w base spare held m 9 [c2] = xs[1]? := by simpa [cellsS] using hf 1 _ rfl
    obtain ⟨y1, hy1⟩ : ∃ y, xs[1]? = some y := ⟨xs[1]'(by rw [hx]; decide), by simp⟩
    rw [hy1] at h1
    obtain ⟨a1, e1, _⟩ := DataW.trod_string Try.underlying9 h1
    simp at e1
    have h2 : DataW.trod enc0 Try.prog w base spare held m 9 [c3] = xs[2]? := by simpa [cellsS] using hf 2 _ rfl
    obtain ⟨y2, hy2⟩ : ∃ y, xs[2]? = some y := ⟨xs[2]'(by rw [hx]; decide), by simp⟩
    rw [hy2] at h2
    obtain ⟨a2, e2, _⟩ := DataW.trod_string Try.underlying9 h2
    simp at e2
    have h3 : DataW.trod enc0 Try.prog w base spare held m 3 [c4] = xs[3]? := by simpa [cellsI] using hf 3 _ rfl
    obtain ⟨y3, hy3⟩ : ∃ y, xs[3]? = some y := ⟨xs[3]'(by rw [hx]; decide), by simp⟩
    rw [hy3] at h3
    obtain ⟨a3, e3, _⟩ := DataW.trod_int Try.underlying3 h3
    simp at e3
    exact ⟨⟨p, q, a1, a2, a3⟩, by rw [e00, e01, e1, e2, e3]; rfl⟩
end
end Go.Proofs.Ytfpjdmplepepjaa

/-! MintT: Texts as bytes: the walks of layer mint's Text and the document's. -/
namespace Go.Proofs.Ytfpjdmplepepjaa
open Go.RowKit

/-- The bytes of a text. -/
def textL (l : List UInt8) : List UInt8 := Pl.num l.length ++ l

set_option maxHeartbeats 400000 in
theorem text_any (s : ByteArray) (w : World) (hs : s.size ≤ 4611686018427387904) :
    Calls Try.prog 22 #[.string s] w fun e w' => e = .returned (.string (ofL (textL (bl s)))) ∧ Below w.heap.size w w' := by
  have hsz : (ofL (Pl.num s.size)).size ≤ 10 := by rw [ofL_size]; exact Pl.num_length_le _ (by omega)
  have hfin : Hid (ofL (Pl.num s.size) ++ s = ofL (textL (bl s))) := by
    show _ = _
    unfold textL
    rw [bl_length, ← ofL_append]; rfl
  go_enter Try.func22, Try.ntmps22
  go_wp2_with (go_at_call 57; refine (num_any _ _ (by omega)).mono ?_; rintro e w' ⟨rfl, hb⟩)
  go_ret
  exact ⟨by rw [hfin.out]; rfl, hb⟩
end Go.Proofs.Ytfpjdmplepepjaa

/-! Builder: strings.Builder at this dump: the shelf's contract of String (written by the shelf's tool, turned into a template); the walks of its check and of WriteString. -/
namespace Go.Proofs.Ytfpjdmplepepjaa
open Go.Shelf Go.RowKit
def Try.lays169_ren : Go.Shelf.Ren := ⟨fun | 169 => 56 | n => n, fun | 70 => 89 | 9 => 9 | 0 => 0 | 72 => 91 | 37 => 36 | 127 => 117 | 3 => 3 | 5 => 5 | n => n, fun | n => n⟩
theorem Try.lays169 : Go.Proofs.Lays.n169 Try.prog Try.lays169_ren := {
  mixed := by kernel_rfl
  f169 := Try.func56.trans (congrArg some (by kernel_rfl))
  t0 := Try.underlying0
  a0 := Try.isAgg0
  z0 := Try.sizeOf0
  v0 := Try.zeroValue0
  t3 := Try.underlying3
  a3 := Try.isAgg3
  z3 := Try.sizeOf3
  v3 := Try.zeroValue3
  t9 := Try.underlying9
  a9 := Try.isAgg9
  z9 := Try.sizeOf9
  v9 := Try.zeroValue9
  t37 := Try.underlying36
  a37 := Try.isAgg36
  z37 := Try.sizeOf36
  v37 := Try.zeroValue36
  t70 := Try.underlying89
  a70 := Try.isAgg89
  z70 := Try.sizeOf89
  v70 := Try.zeroValue89
  t72 := Try.underlying91
  a72 := Try.isAgg91
  z72 := Try.sizeOf91
  v72 := Try.zeroValue91
  t127 := Try.underlying117
  a127 := Try.isAgg117
  z127 := Try.sizeOf117
  v127 := Try.zeroValue117 }
theorem Try.Builder_Extra_169 : Builder.Extra Try.prog Try.lays169_ren := {
  sizeBuilder := by kernel_rfl
  liesBuilder := by kernel_rfl
  t5 := Try.underlying5
  a5 := Try.isAgg5
  z5 := Try.sizeOf5
  v5 := Try.zeroValue5
  infoByte := by kernel_rfl
  cellsByte := by kernel_rfl
  sizeByte := by kernel_rfl
  neB5 := by decide }
open Go.RowKit in
theorem Try.Builder_String_any (B b : Nat) (l : List UInt8) (w : World) (h : Lib.IsBuilder 91 5 B b (Lib.byteCells l) w) (hBw : B ≤ w.heap.size) :
    Calls Try.prog 56 #[.pointer (some ⟨b, 0, none⟩)] w fun e w' => e = .returned (.string ⟨l.toArray⟩) ∧ Below B w w' := Any.Builder_String_any Try.lays169 Try.Builder_Extra_169 B b l w h hBw

set_option maxHeartbeats 1000000 in
set_option maxRecDepth 100000 in
/-- A builder's check, at one that was used. -/
theorem bcheck_used (b : Nat) (w : World) (h0 : w.cell? ⟨b, 0, none⟩ = some (.pointer (some ⟨b, 0, none⟩))) :
    Calls Try.prog 91 #[.pointer (some ⟨b, 0, none⟩)] w fun e w' => e = .returned (.tuple #[]) ∧ w = w' := by
  obtain ⟨j, hj, _⟩ := Option.map_eq_some_iff.1 Try.Builder_Extra_169.toX72.sizeBuilder
  go_enter Try.func91, Try.ntmps91
  go_wp2
  rw [Lib.run_neq_ptr_same w _ Try.underlying89 hj]
  go_wp2
  go_end0
  exact ⟨rfl, rfl⟩

set_option maxHeartbeats 1000000 in
set_option maxRecDepth 100000 in
/-- .. at a fresh one. -/
theorem bcheck_fresh (b : Nat) (w : World) (h0 : w.cell? ⟨b, 0, none⟩ = some (.pointer none)) (hsh : w.shape? b = some (91, 2)) (hfz : w.frozen? ⟨b, 0, none⟩ = false) :
    Calls Try.prog 91 #[.pointer (some ⟨b, 0, none⟩)] w fun e w' => e = .returned (.tuple #[]) ∧ w' = w.setCell ⟨b, 0, none⟩ (.pointer (some ⟨b, 0, none⟩)) := by
  obtain ⟨j, hj, hjs⟩ := Option.map_eq_some_iff.1 Try.Builder_Extra_169.toX72.sizeBuilder
  go_enter Try.func91, Try.ntmps91
  go_wp2
  rw [Lib.run_to_unsafe w ⟨b, 0, none⟩ Try.underlying89 Try.underlying130 hj (by rw [hjs]; decide) hsh (Nat.zero_lt_succ 1)]
  simp only [Result.andThen]
  rw [Oper.upon_value]
  go_wp2
  rw [run_callFunc_extern Try.func110 (by kernel_rfl) (by kernel_rfl) (by kernel_rfl) (e := Extern.AbiNoEscape.same) (by kernel_rfl)]
  rw [Lib.run_noEscape]
  simp only [Result.andThen]
  rw [Oper.upon_value]
  go_wp2
  rw [Lib.run_from_unsafe w ⟨b, 0, none⟩ Try.underlying130 Try.underlying89 hj hsh Try.Builder_Extra_169.toX72.liesBuilder]
  simp only [Result.andThen]
  rw [Oper.upon_value]
  go_wp2
  go_end0
  exact ⟨rfl, rfl⟩

theorem bcheck_any (B b : Nat) (bs : List Value) (w : World) (h : Lib.IsBuilder 91 5 B b bs w) :
    Calls Try.prog 91 #[.pointer (some ⟨b, 0, none⟩)] w fun e w' => e = .returned (.tuple #[]) ∧ (Lib.BuilderAt 91 5 B b (.pointer (some ⟨b, 0, none⟩)) bs w' ∧ Below B w w') := by
  rcases h with h | h
  · refine (bcheck_fresh b w h.cell0 h.shape h.frozen0).mono ?_
    rintro e w' ⟨rfl, rfl⟩
    exact ⟨rfl, h.used _, (Below.refl B w).setCell (p := ⟨b, 0, none⟩) h.1 _⟩
  · refine (bcheck_used b w h.cell0).mono ?_
    rintro e w' ⟨rfl, rfl⟩
    exact ⟨rfl, h, Below.refl B _⟩

set_option maxHeartbeats 2000000 in
set_option maxRecDepth 100000 in
theorem bwrite_any (B b : Nat) (l : List UInt8) (s : ByteArray) (w : World) (h : Lib.IsBuilder 91 5 B b (Lib.byteCells l) w) (hlen : l.length + s.size ≤ 140737488355328) (hBw : B ≤ w.heap.size) :
    Calls Try.prog 54 #[.pointer (some ⟨b, 0, none⟩), .string s] w fun e w' => e = .returned (.tuple #[.int .i64 s.size, .nilIface]) ∧ (Lib.IsBuilder 91 5 B b (Lib.byteCells (l ++ bl s)) w' ∧ Below B w w') := by
  obtain ⟨i0, hi, hz0, hz1, hz2⟩ := info_parts infoByte
  have e240 : ∀ args w, (callFunc 91 args).run Try.prog w = .ok (.enter 91 args) w := enters_of Try.func91 (by kernel_rfl) rfl
  have hbs : (Lib.byteCells l).length = l.length := Lib.byteCells_length l
  obtain ⟨bs, hbs2⟩ := nm (Lib.byteCells l)
  rw [← hbs2.out] at h hbs
  go_enter Try.func54, Try.ntmps54
  go_wp2_with (go_at_call 91; refine (bcheck_any B b bs _ h).mono ?_)
  rintro e w1 ⟨rfl, h1, hb1⟩
  obtain ⟨hB, v, hbk, hown, hne⟩ := h1
  have c0 : w1.cell? ⟨b, 0, none⟩ = some (.pointer (some ⟨b, 0, none⟩)) := by rw [Lib.cell_of_heap hbk]; rfl
  have c1 : w1.cell? ⟨b, 1, none⟩ = some v := by rw [Lib.cell_of_heap hbk]; rfl
  go_wp2_with (at_builtin; refine Lib.wpList_append_own_string _ rfl _ _ 36 9 rfl B 5 i0 Try.underlying36 Try.underlying9 hi hz0 hz1 hz2 _ _ _ rfl hown s rfl ?c3 ?c4 ?c5 ?_)
  case c3 => unfold maxLen; omega
  case c4 => omega
  case c5 => have := hb1.size; omega
  intro v' w2 hown' hgrow _
  have hlt : b < w1.heap.size := lt_of_block hbk
  have hb2 : w2.heap[b]? = some (.cells #[.pointer (some ⟨b, 0, none⟩), v] 91 (0, 0)) := by
    rw [hgrow.block b hlt (fun e => hne e.symm)]
    exact hbk
  have d0 : w2.cell? ⟨b, 0, none⟩ = some (.pointer (some ⟨b, 0, none⟩)) := by rw [Lib.cell_of_heap hb2]; rfl
  have d1 : w2.cell? ⟨b, 1, none⟩ = some v := by rw [Lib.cell_of_heap hb2]; rfl
  have f1 : w2.frozen? ⟨b, 1, none⟩ = false := Lib.frozen_of_heap hb2 1
  obtain ⟨ao, n', cap, rfl⟩ : ∃ ao n' cap, v' = .slice ao n' cap := by
    rcases hown'.2 with ⟨hv, _⟩ | ⟨g, cap, cur, hv, _⟩
    · exact ⟨_, _, _, hv⟩
    · exact ⟨_, _, _, hv⟩
  go_wp2
  go_ret2
  refine ⟨rfl, Or.inr ?_, ?_⟩
  · have := Lib.BuilderAt.put (T := 91) (e := 5) hB hb2 (bs' := bs ++ Lib.strCells s) (by simpa [Lib.strCells_length, hbs] using hown') (by decide)
    have e1 : bs ++ Lib.strCells s = Lib.byteCells (l ++ bl s) := by
      rw [hbs2.out, Lib.byteCells, Lib.byteCells, List.map_append]; rfl
    rw [← e1]
    exact this
  · exact (hb1.grown hgrow (by have := hb1.size; omega) (fun k hk => (hown.lt k hk).1)).setCell (p := ⟨b, 1, none⟩) hB _

/-- A new builder. -/
theorem bnew (w : World) : Lib.IsBuilder 91 5 w.heap.size w.heap.size (Lib.byteCells []) (w.alloc (.cells #[.pointer none, .slice none 0 0] 91)) := by
  left
  refine ⟨Nat.le_refl _, .slice none 0 0, by show (w.heap.push _)[w.heap.size]? = _; simp, ⟨?_, ?_⟩, by simp [Value.ownBlock]⟩
  · simp [Lib.byteCells]
  · exact .inl ⟨rfl, rfl⟩

/-- A builder is as it was where nothing that was there has turned. -/
theorem bstays {B b : Nat} {bs : List Value} {w w' : World} (h : Lib.IsBuilder 91 5 B b bs w) (hb : Below w.heap.size w w') : Lib.IsBuilder 91 5 B b bs w' := by
  have key : ∀ p, Lib.BuilderAt 91 5 B b p bs w → Lib.BuilderAt 91 5 B b p bs w' := by
    rintro p ⟨h1, v, h2, ⟨h3, h4⟩, h5⟩
    refine ⟨h1, v, (hb.block b (lt_of_block h2)).trans h2, ⟨h3, ?_⟩, h5⟩
    rcases h4 with h4 | ⟨g, cap, cur, e1, e2, e3, e4⟩
    · exact .inl h4
    · exact .inr ⟨g, cap, cur, e1, e2, (hb.block g (lt_of_block e3)).trans e3, e4⟩
  exact h.elim (fun x => .inl (key _ x)) (fun x => .inr (key _ x))
end Go.Proofs.Ytfpjdmplepepjaa

/-! Nums: Lists of numbers as bytes: the program's walk over a builder, the document's over a text. -/
namespace Go.Proofs.Ytfpjdmplepepjaa
open Go.RowKit

/-- The bytes of a list. -/
def intsL (l : List Int) : List UInt8 := l.flatMap fun z => Pl.num z.toNat
def numsL (l : List Int) : List UInt8 := Pl.num l.length ++ intsL l

theorem intsL_take (l : List Int) (k : Nat) (h : k < l.length) : intsL (l.take (k + 1)) = intsL (l.take k) ++ Pl.num (l[k]).toNat := by
  rw [intsL, intsL, List.take_succ_eq_append_getElem h, List.flatMap_append]
  simp only [List.flatMap_cons, List.flatMap_nil, List.append_nil]

theorem intsL_le : ∀ (l : List Int), (∀ z ∈ l, z ≤ 9223372036854775807) → (intsL l).length ≤ 10 * l.length
  | [], _ => by simp [intsL]
  | z :: l, h => by
    have h1 := intsL_le l (fun y hy => h y (by simp [hy]))
    have h2 := Pl.num_length_le z.toNat (by have := h z (by simp); omega)
    have e : intsL (z :: l) = Pl.num z.toNat ++ intsL l := by simp [intsL]
    rw [e, List.length_append, List.length_cons]; omega

/-- Element k of a slice of numbers. -/
theorem SlAt.int {w : World} {ao : Option Addr} {zs : List Int} (h : SlAt w ao (zs.map (Value.int .i64))) (k : Nat) (hk : k < zs.length) :
    ∃ b off, ao = some ⟨b, off, none⟩ ∧ b < w.heap.size ∧ w.cell? ⟨b, off + k, none⟩ = some (.int .i64 zs[k]) := by
  obtain ⟨b, off, h1, h2, h3⟩ := h k (by simpa using hk)
  refine ⟨b, off, h1, h2, ?_⟩
  rw [h3 k (by simpa using hk)]
  simp [hk]

set_option maxRecDepth 100000 in
set_option maxHeartbeats 1000000 in
theorem nums_any (ao : Option Addr) (len cap : Nat) (zs : List Int) (hl : zs.length = len) (hlen : len ≤ 1000000) (hz : ∀ z ∈ zs, z ≤ 9223372036854775807) (w : World) (hat : SlAt w ao (zs.map (Value.int .i64))) :
    Calls Try.prog 21 #[.slice ao len cap] w fun e w' => e = .returned (.string (ofL (numsL zs))) ∧ Below w.heap.size w w' := by
  have HAT := Lib.hid hat
  clear hat
  have HL := Lib.hid hl
  clear hl
  have HZ := Lib.hid hz
  clear hz
  have hB0 := bnew w
  have hBw : Below w.heap.size w (w.alloc (.cells #[.pointer none, .slice none 0 0] 91)) := (Below.refl _ _).alloc (Nat.le_refl _) _
  have hl0 : (ofL (Pl.num len)).size ≤ 10 := by rw [ofL_size]; exact Pl.num_length_le _ (by omega)
  go_enter Try.func21, Try.ntmps21
  go_wp2_with fail
  refine (mint_int len _ (by omega)).mono ?_; rintro e w1 ⟨rfl, h1⟩
  rw [show (len : Int).toNat = len from by omega]
  have hB1 := bstays hB0 h1
  replace hBw := hBw.trans (h1.mono hBw.size)
  clear hB0 h1
  go_wp2_with fail
  refine (bwrite_any _ _ [] _ _ hB1 (by simp only [List.length_nil]; omega) hBw.size).mono ?_; rintro e w2 ⟨rfl, hB2, h2⟩
  replace hBw := hBw.trans h2
  clear hB1 h2
  go_wp2_with fail
  go_loopw [12] (fun i wr => ∃ k : Nat, k ≤ len ∧ i = .int .i64 (k : Int) ∧ Lib.IsBuilder 91 5 w.heap.size w.heap.size (Lib.byteCells (Pl.num len ++ intsL (zs.take k))) wr ∧ Below w.heap.size w wr) (fun i _ => len - (intOf i).toNat)
  case atStart => exact ⟨0, Nat.zero_le _, rfl, by simpa [intsL, bl_ofL] using hB2, hBw⟩
  case round =>
    clear hB2 hBw
    obtain ⟨k, hk, rfl, hB, hW⟩ := hrel
    by_cases hlt : k < len
    · obtain ⟨bs, off, rfl, hbs, hcell⟩ := SlAt.int HAT.out k (by rw [HL.out]; exact hlt)
      obtain ⟨z, hzz⟩ := nm (zs[k]'(by rw [HL.out]; exact hlt))
      have hz63 : z ≤ 9223372036854775807 := by rw [hzz.out]; exact HZ.out _ (List.getElem_mem _)
      rw [← hzz.out] at hcell
      have hc : wr.cell? ⟨bs, off + k, none⟩ = some (.int .i64 z) := (hW.cell (p := ⟨bs, off + k, none⟩) hbs).trans hcell
      clear hcell
      have hsz : (Pl.num len ++ intsL (zs.take k)).length ≤ 10 + 10 * 1000000 := by
        have h1 := intsL_le (zs.take k) (fun z hz => HZ.out z (List.mem_of_mem_take hz))
        have h2 := Pl.num_length_le len (by omega)
        rw [List.length_append]
        rw [List.length_take] at h1
        omega
      have hzl : (ofL (Pl.num z.toNat)).size ≤ 10 := by rw [ofL_size]; exact Pl.num_length_le _ (by omega)
      go_wp2_with fail
      refine (mint_int z _ hz63).mono ?_; rintro e w3 ⟨rfl, h1⟩
      have hB3 := bstays hB h1
      have hW3 := hW.trans (h1.mono hW.size)
      go_wp2_with fail
      refine (bwrite_any _ _ _ _ _ hB3 (by omega) hW3.size).mono ?_; rintro e w4 ⟨rfl, hB4, h2⟩
      have hW4 := hW3.trans h2
      go_wp2_with fail
      go_roundw
      case rel => exact ⟨k + 1, by omega, by go_num, by rw [intsL_take _ _ (by rw [HL.out]; exact hlt), ← hzz.out, ← List.append_assoc]; exact hB4, hW4⟩
      case measure => simp [intOf]; omega
    · obtain rfl : k = len := by omega
      have e1 : zs.take k = zs := List.take_of_length_le (by rw [HL.out]; exact Nat.le_refl _)
      rw [e1] at hB
      go_wp2_with fail
      refine (Try.Builder_String_any _ _ _ _ hB hW.size).mono ?_; rintro e w3 ⟨rfl, h1⟩
      have hW3 := hW.trans h1
      go_wp2_with fail
      go_ret
      exact ⟨by rw [numsL, HL.out]; rfl, hW3⟩
end Go.Proofs.Ytfpjdmplepepjaa

/-! WireL: What is said, as bytes: no two have the same. No program in sight. -/
namespace Go.Proofs.Ytfpjdmplepepjaa
open Go.RowKit

/-- All of what is said. -/
structure WL where
  k : Int
  f : Int
  s : Int
  p : Int
  fl : Int
  d0 : Int
  d1 : Int
  rc : Int
  lg : Int
  mark : ByteArray
  live : List Msg5
  bs : List Dot2
  cl : List Dot2
  tags : List Tag2
  view : List Peer3
def WL.nums (m : WL) : List Int := [m.k, m.f, m.s, m.p, m.fl, m.d0, m.d1, m.rc, m.lg]

def dotL (x : Dot2) : List UInt8 := Pl.num x.1.toNat ++ Pl.num x.2.toNat
def rowL {α : Type} (f : α → List UInt8) (xs : List α) : List UInt8 := Pl.num xs.length ++ xs.flatMap f
def msgL (m : Msg5) : List UInt8 := dotL (m.node, m.n) ++ (textL (bl m.queue) ++ (textL (bl m.body) ++ Pl.num m.count.toNat))
def tagL (t : Tag2) : List UInt8 := textL (bl t.1) ++ Pl.num t.2.toNat
def peerL (p : Peer3) : List UInt8 := Pl.num p.1.toNat ++ (Pl.num p.2.1.toNat ++ Pl.num p.2.2.toNat)
def ctxL (bs cl : List Dot2) : List UInt8 := rowL dotL bs ++ rowL dotL cl
def bagL (live : List Msg5) (bs cl : List Dot2) : List UInt8 := ctxL bs cl ++ rowL msgL live
def WL.bytes (m : WL) : List UInt8 := numsL m.nums ++ (textL (bl m.mark) ++ (bagL m.live m.bs m.cl ++ (rowL tagL m.tags ++ rowL peerL m.view)))

/-- Numbers that are not below 0. -/
def Up (z : Int) : Prop := 0 ≤ z ∧ z ≤ 9223372036854775807
def upDot (x : Dot2) : Prop := Up x.1 ∧ Up x.2
def upMsg (m : Msg5) : Prop := Up m.node ∧ Up m.n ∧ m.queue.size ≤ 1000000 ∧ m.body.size ≤ 1000000 ∧ Up m.count
def upTag (t : Tag2) : Prop := t.1.size ≤ 1000000 ∧ Up t.2
def upPeer (p : Peer3) : Prop := Up p.1 ∧ Up p.2.1 ∧ Up p.2.2
structure WL.Ups (m : WL) : Prop where
  nums : ∀ z ∈ m.nums, Up z
  mark : m.mark.size ≤ 1000000
  live : ∀ x ∈ m.live, upMsg x
  bs : ∀ x ∈ m.bs, upDot x
  cl : ∀ x ∈ m.cl, upDot x
  tags : ∀ x ∈ m.tags, upTag x
  view : ∀ x ∈ m.view, upPeer x
  many : m.live.length ≤ 1000000 ∧ m.bs.length ≤ 1000000 ∧ m.cl.length ≤ 1000000 ∧ m.tags.length ≤ 1000000 ∧ m.view.length ≤ 1000000

/-- Of two that are so, neither's bytes begin the other's. -/
def Tells {α : Type} (P : α → Prop) (f : α → List UInt8) : Prop := ∀ x y r t, P x → P y → f x ++ r = f y ++ t → x = y ∧ r = t
theorem tells_num : Tells Up (fun z : Int => Pl.num z.toNat) := by
  intro x y r t hx hy h
  obtain ⟨h1, h2⟩ := hx
  obtain ⟨h3, h4⟩ := hy
  obtain ⟨e, g⟩ := Pl.num_inj (by omega) (by omega) h
  exact ⟨by omega, g⟩
theorem tells_text : Tells (fun s : ByteArray => s.size ≤ 1000000) (fun s => textL (bl s)) := by
  intro x y r t hx hy h
  simp only [textL, List.append_assoc] at h
  obtain ⟨e, g⟩ := Pl.num_inj (by rw [bl_length]; omega) (by rw [bl_length]; omega) h
  obtain ⟨e1, e2⟩ := List.append_inj g e
  exact ⟨bl_inj e1, e2⟩
theorem tells_dot : Tells upDot dotL := by
  rintro ⟨x1, x2⟩ ⟨y1, y2⟩ r t ⟨hx1, hx2⟩ ⟨hy1, hy2⟩ h
  simp only [dotL, List.append_assoc] at h
  obtain ⟨e1, h⟩ := tells_num _ _ _ _ hx1 hy1 h
  obtain ⟨e2, h⟩ := tells_num _ _ _ _ hx2 hy2 h
  exact ⟨by rw [show x1 = y1 from e1, show x2 = y2 from e2], h⟩
theorem tells_msg : Tells upMsg msgL := by
  rintro ⟨x1, x2, x3, x4, x5⟩ ⟨y1, y2, y3, y4, y5⟩ r t ⟨hx1, hx2, hx3, hx4, hx5⟩ ⟨hy1, hy2, hy3, hy4, hy5⟩ h
  simp only [msgL, List.append_assoc] at h
  obtain ⟨e1, h⟩ := tells_dot _ _ _ _ (show upDot (x1, x2) from ⟨hx1, hx2⟩) (show upDot (y1, y2) from ⟨hy1, hy2⟩) h
  obtain ⟨e3, h⟩ := tells_text _ _ _ _ hx3 hy3 h
  obtain ⟨e4, h⟩ := tells_text _ _ _ _ hx4 hy4 h
  obtain ⟨e5, h⟩ := tells_num _ _ _ _ hx5 hy5 h
  simp only [Prod.mk.injEq] at e1
  exact ⟨by rw [e1.1, e1.2, show x3 = y3 from e3, show x4 = y4 from e4, show x5 = y5 from e5], h⟩
theorem tells_many {α : Type} {P : α → Prop} {f : α → List UInt8} (hf : Tells P f) : ∀ (xs ys : List α) (r t : List UInt8), xs.length = ys.length → (∀ x ∈ xs, P x) → (∀ x ∈ ys, P x) → xs.flatMap f ++ r = ys.flatMap f ++ t → xs = ys ∧ r = t
  | [], [], r, t, _, _, _, h => ⟨rfl, by simpa using h⟩
  | [], _ :: _, _, _, hl, _, _, _ => by simp at hl
  | _ :: _, [], _, _, hl, _, _, _ => by simp at hl
  | x :: xs, y :: ys, r, t, hl, hx, hy, h => by
    simp only [List.flatMap_cons, List.append_assoc] at h
    obtain ⟨e1, h⟩ := hf _ _ _ _ (hx x (by simp)) (hy y (by simp)) h
    obtain ⟨e2, h⟩ := tells_many hf xs ys r t (by simpa using hl) (fun z hz => hx z (by simp [hz])) (fun z hz => hy z (by simp [hz])) h
    exact ⟨by rw [e1, e2], h⟩
theorem tells_row {α : Type} {P : α → Prop} {f : α → List UInt8} (hf : Tells P f) : Tells (fun xs : List α => xs.length ≤ 1000000 ∧ ∀ x ∈ xs, P x) (rowL f) := by
  intro xs ys r t hx hy h
  obtain ⟨hx1, hx2⟩ := hx
  obtain ⟨hy1, hy2⟩ := hy
  simp only [rowL, List.append_assoc] at h
  obtain ⟨e, g⟩ := Pl.num_inj (by omega) (by omega) h
  exact tells_many hf xs ys r t e hx2 hy2 g
/-! ### How long -/
theorem num_le {z : Int} (h : Up z) : (Pl.num z.toNat).length ≤ 10 := Pl.num_length_le _ (by have := h.2; omega)
theorem textL_le {s : ByteArray} {n : Nat} (h : s.size ≤ n) (hn : n ≤ 1000000) : (textL (bl s)).length ≤ 10 + n := by
  have := Pl.num_length_le s.size (by omega)
  simp only [textL, List.length_append, bl_length]; omega
theorem flat_le {α : Type} {f : α → List UInt8} {m : Nat} : ∀ (xs : List α), (∀ x ∈ xs, (f x).length ≤ m) → (xs.flatMap f).length ≤ m * xs.length
  | [], _ => by simp
  | x :: xs, h => by
    have h1 := flat_le xs fun y hy => h y (by simp [hy])
    have h2 := h x (by simp)
    rw [List.flatMap_cons, List.length_append, List.length_cons, Nat.mul_add, Nat.mul_one]; omega
theorem rowL_le {α : Type} {f : α → List UInt8} {m : Nat} (xs : List α) (hx : xs.length ≤ 1000000) (h : ∀ x ∈ xs, (f x).length ≤ m) : (rowL f xs).length ≤ 10 + m * xs.length := by
  have h1 := flat_le xs h
  have h2 := Pl.num_length_le xs.length (by omega)
  simp only [rowL, List.length_append]; omega
theorem dotL_le {x : Dot2} (h : upDot x) : (dotL x).length ≤ 20 := by
  have h1 := num_le h.1
  have h2 := num_le h.2
  simp only [dotL, List.length_append]; omega
theorem peerL_le {x : Peer3} (h : upPeer x) : (peerL x).length ≤ 30 := by
  have h1 := num_le h.1
  have h2 := num_le h.2.1
  have h3 := num_le h.2.2
  simp only [peerL, List.length_append]; omega
theorem flat_take {α : Type} {f : α → List UInt8} {xs : List α} {k : Nat} {x : α} (h : xs[k]? = some x) : (xs.take (k + 1)).flatMap f = (xs.take k).flatMap f ++ f x := by
  obtain ⟨h1, h2⟩ := List.getElem?_eq_some_iff.1 h
  rw [List.take_succ_eq_append_getElem h1, List.flatMap_append, h2]
  simp
end Go.Proofs.Ytfpjdmplepepjaa

/-! WChk: What may be said. No program in sight. -/
namespace Go.Proofs.Ytfpjdmplepepjaa
open Go.RowKit Go.Lib

/-- The first n are so, and each is so towards the one ahead of it. -/
def Chk {α : Type} (g : α → Prop) (r : α → α → Prop) (xs : List α) (n : Nat) : Prop := ∀ i x, i < n → xs[i]? = some x → g x ∧ ∀ j y, i = j + 1 → xs[j]? = some y → r y x
section
variable {α : Type} {g : α → Prop} {r : α → α → Prop} {xs : List α}
theorem Chk.zero : Chk g r xs 0 := fun _ _ h => absurd h (Nat.not_lt_zero _)
theorem Chk.first {x : α} (hx : xs[0]? = some x) (hg : g x) : Chk g r xs 1 := by
  intro i y hi hy
  obtain rfl : i = 0 := by omega
  rw [hx] at hy
  obtain rfl := Option.some.inj hy
  exact ⟨hg, fun j _ hj => absurd hj (by omega)⟩
theorem Chk.next {m : Nat} {x y : α} (h : Chk g r xs (m + 1)) (hx : xs[m + 1]? = some x) (hg : g x) (hy : xs[m]? = some y) (hr : r y x) : Chk g r xs (m + 2) := by
  intro i z hi hz
  rcases Nat.lt_or_ge i (m + 1) with h1 | h1
  · exact h i z h1 hz
  · obtain rfl : i = m + 1 := by omega
    rw [hx] at hz
    obtain rfl := Option.some.inj hz
    refine ⟨hg, fun j u hj hu => ?_⟩
    obtain rfl : j = m := by omega
    rw [hy] at hu
    obtain rfl := Option.some.inj hu
    exact hr
theorem Chk.not_g {n i : Nat} {x : α} (hi : i < n) (hx : xs[i]? = some x) (hg : ¬ g x) : ¬ Chk g r xs n := fun h => hg (h i x hi hx).1
theorem Chk.not_r {n m : Nat} {x y : α} (hi : m + 1 < n) (hx : xs[m + 1]? = some x) (hy : xs[m]? = some y) (hr : ¬ r y x) : ¬ Chk g r xs n := fun h => hr ((h _ x hi hx).2 m y rfl hy)
theorem Chk.all {n : Nat} (h : Chk g r xs n) (hn : xs.length ≤ n) : ∀ x ∈ xs, g x := by
  intro x hx
  obtain ⟨i, hi, rfl⟩ := List.getElem_of_mem hx
  exact (h i _ (by omega) (List.getElem?_eq_getElem hi)).1
end

/-- Up to which number all of a node's were seen. -/
def uptoD (bs : List Dot2) (z : Int) : Int := match bs[lowD bs (z, 0)]? with
  | some p => if p.1 = z then p.2 else 0
  | none => 0
theorem uptoD_is {bs : List Dot2} {z : Int} : uptoD bs z = 0 ∨ ∃ p ∈ bs, uptoD bs z = p.2 := by
  unfold uptoD
  split
  · rename_i p h
    by_cases hz : p.1 = z
    · rw [if_pos hz]; exact .inr ⟨p, List.mem_of_getElem? h, rfl⟩
    · rw [if_neg hz]; exact .inl rfl
  · exact .inl rfl
def dotP (x : Dot2) : Prop := okD x.1 x.2 = true
theorem dotP.le {x : Dot2} (h : dotP x) : 1 ≤ x.1 ∧ x.1 ≤ 1099511627776 ∧ 1 ≤ x.2 ∧ x.2 ≤ 1099511627776 := by unfold dotP okD at h; simpa using h
theorem uptoD_le {bs : List Dot2} {z : Int} (h : ∀ x ∈ bs, dotP x) : 0 ≤ uptoD bs z ∧ uptoD bs z ≤ 1099511627776 := by
  rcases uptoD_is (bs := bs) (z := z) with e | ⟨p, hp, e⟩
  · rw [e]; decide
  · rw [e]
    have := (h p hp).le
    omega
def hasD (bs cl : List Dot2) (x : Dot2) : Prop := dotP x ∧ (x ∈ cl ∨ x.2 ≤ uptoD bs x.1)
structure CtxP (bs cl : List Dot2) : Prop where
  asc1 : Asc bs
  asc2 : Asc cl
  base : Chk dotP (fun y x => y.1 ≠ x.1) bs bs.length
  cloud : ∀ x ∈ cl, dotP x ∧ uptoD bs x.1 + 1 < x.2
def mayM (m : Msg5) : Prop := dotP (m.node, m.n) ∧ 0 < m.queue.size ∧ m.queue.size ≤ 40 ∧ m.body.size ≤ 1000 ∧ 0 ≤ m.count ∧ m.count ≤ 1048576
structure BagP (live : List Msg5) (bs cl : List Dot2) : Prop where
  ctx : CtxP bs cl
  live : Chk (fun m => mayM m ∧ hasD bs cl (m.node, m.n)) (fun y m => ltP (y.node, y.n) (m.node, m.n)) live live.length
def mayN (s : ByteArray) : Prop := 0 < s.size ∧ s.size ≤ 40
def ltS (a b : ByteArray) : Prop := Op.bytesLess a.toList b.toList = true
structure TagsP (l : List Tag2) : Prop where
  many : l.length ≤ 100
  each : Chk (fun t => mayN t.1 ∧ 1 ≤ t.2 ∧ t.2 ≤ 1048576) (fun y t => ltS y.1 t.1) l l.length
def mayV (p : Peer3) : Prop := (1 ≤ p.1 ∧ p.1 ≤ 1099511627776) ∧ (0 ≤ p.2.1 ∧ p.2.1 ≤ 1073741824) ∧ 0 ≤ p.2.2 ∧ p.2.2 ≤ 2
structure ViewP (l : List Peer3) : Prop where
  many : l.length ≤ 64
  each : Chk mayV (fun y p => y.1 < p.1) l l.length
def Btw (n l m : Int) : Prop := l ≤ n ∧ n ≤ m
structure WL.May (m : WL) : Prop where
  kind : Btw m.k 1 8
  frm : Btw m.f 1 1099511627776
  seq : Btw m.s 0 1099511627776
  part : Btw m.p 0 15
  flag : Btw m.fl 0 1
  dot : (m.d0, m.d1) = (0, 0) ∨ dotP (m.d0, m.d1)
  receipt : Btw m.rc 0 1099511627776
  long : Btw m.lg 0 1073741824
  mark : m.mark.size ≤ 8000
  bag : BagP m.live m.bs m.cl
  tags : TagsP m.tags
  view : ViewP m.view

theorem dotP.up {x : Dot2} (h : dotP x) : upDot x := by
  have := h.le
  exact ⟨⟨by omega, by omega⟩, by omega, by omega⟩
theorem mayM.up {m : Msg5} (h : mayM m) : upMsg m := by
  obtain ⟨h1, h2, h3, h4, h5, h6⟩ := h
  have := h1.le
  exact ⟨⟨by simp only at this; omega, by simp only at this; omega⟩, ⟨by simp only at this; omega, by simp only at this; omega⟩, by omega, by omega, by omega, by omega⟩
theorem mayV.up {p : Peer3} (h : mayV p) : upPeer p := by
  obtain ⟨⟨h1, h2⟩, ⟨h3, h4⟩, h5, h6⟩ := h
  exact ⟨⟨by omega, by omega⟩, ⟨by omega, by omega⟩, by omega, by omega⟩
/-- What may be said has no number below 0. -/
theorem WL.May.ups {m : WL} (h : m.May) (hl : m.live.length ≤ 1000000) (hb : m.bs.length ≤ 1000000) (hc : m.cl.length ≤ 1000000) : m.Ups where
  nums z hz := by
    obtain ⟨h1, h2⟩ := h.kind
    obtain ⟨h3, h4⟩ := h.frm
    obtain ⟨h5, h6⟩ := h.seq
    obtain ⟨h7, h8⟩ := h.part
    obtain ⟨h9, h10⟩ := h.flag
    obtain ⟨h11, h12⟩ := h.receipt
    obtain ⟨h13, h14⟩ := h.long
    have hd : Up m.d0 ∧ Up m.d1 := by
      rcases h.dot with e | e
      · simp only [Prod.mk.injEq] at e
        rw [e.1, e.2]
        exact ⟨⟨by decide, by decide⟩, by decide, by decide⟩
      · exact e.up
    simp only [WL.nums, List.mem_cons, List.not_mem_nil, or_false] at hz
    rcases hz with rfl | rfl | rfl | rfl | rfl | rfl | rfl | rfl | rfl
    · exact ⟨by omega, by omega⟩
    · exact ⟨by omega, by omega⟩
    · exact ⟨by omega, by omega⟩
    · exact ⟨by omega, by omega⟩
    · exact ⟨by omega, by omega⟩
    · exact hd.1
    · exact hd.2
    · exact ⟨by omega, by omega⟩
    · exact ⟨by omega, by omega⟩
  mark := Nat.le_trans h.mark (by decide)
  live x hx := (h.bag.live.all (Nat.le_refl _) x hx).1.up
  bs x hx := (h.bag.ctx.base.all (Nat.le_refl _) x hx).up
  cl x hx := (h.bag.ctx.cloud x hx).1.up
  tags x hx := by
    obtain ⟨⟨h1, h2⟩, h3, h4⟩ := h.tags.each.all (Nat.le_refl _) x hx
    exact ⟨by omega, by omega, by omega⟩
  view x hx := (h.view.each.all (Nat.le_refl _) x hx).up
  many := ⟨hl, hb, hc, Nat.le_trans h.tags.many (by decide), Nat.le_trans h.view.many (by decide)⟩
end Go.Proofs.Ytfpjdmplepepjaa

/-! WBuild: A builder is written to: what lies apart from it is as it was. -/
namespace Go.Proofs.Ytfpjdmplepepjaa
open Go.RowKit

/-- Block y is neither the builder's nor its row's. -/
def Apart (b y : Nat) (w : World) : Prop := y ≠ b ∧ ∀ v, w.cell? ⟨b, 1, none⟩ = some v → v.ownBlock ≠ some y
theorem apart_of {B b y : Nat} {bs : List Value} {w0 w : World} (h : Lib.IsBuilder 91 5 B b bs w0) (hy : w0.heap.size ≤ y) (hb : Below w0.heap.size w0 w) : Apart b y w := by
  have key : ∀ p, Lib.BuilderAt 91 5 B b p bs w0 → Apart b y w := by
    rintro p ⟨h1, v, h2, h3, h5⟩
    have hl := lt_of_block h2
    refine ⟨by omega, fun u hu e => ?_⟩
    rw [hb.cell (p := ⟨b, 1, none⟩) hl, Lib.cell_of_heap h2] at hu
    obtain rfl : v = u := by simpa using hu
    have := (World.ownsRow.lt h3 y e).2
    omega
  exact h.elim (key _) (key _)
theorem bcheck_keeps (B b : Nat) (bs : List Value) (w : World) (h : Lib.IsBuilder 91 5 B b bs w) :
    Calls Try.prog 91 #[.pointer (some ⟨b, 0, none⟩)] w fun e w' => e = .returned (.tuple #[]) ∧ (Lib.BuilderAt 91 5 B b (.pointer (some ⟨b, 0, none⟩)) bs w' ∧ Below B w w' ∧ w'.cell? ⟨b, 1, none⟩ = w.cell? ⟨b, 1, none⟩ ∧ ∀ k, k ≠ b → w'.heap[k]? = w.heap[k]?) := by
  rcases h with h | h
  · refine (bcheck_fresh b w h.cell0 h.shape h.frozen0).mono ?_
    rintro e w' ⟨rfl, rfl⟩
    exact ⟨rfl, h.used _, (Below.refl B w).setCell (p := ⟨b, 0, none⟩) h.1 _, World.cell?_setCell_other _ _ _ _ (by simp), fun k hk => Below.heap_setCell _ _ _ _ hk⟩
  · refine (bcheck_used b w h.cell0).mono ?_
    rintro e w' ⟨rfl, rfl⟩
    exact ⟨rfl, h, Below.refl B _, rfl, fun _ _ => rfl⟩

set_option maxHeartbeats 2000000 in
set_option maxRecDepth 100000 in
theorem bwrite_keeps (B b : Nat) (l : List UInt8) (s : ByteArray) (w : World) (h : Lib.IsBuilder 91 5 B b (Lib.byteCells l) w) (hlen : l.length + s.size ≤ 140737488355328) (hBw : B ≤ w.heap.size) (y : Nat) (hy : Hid (Apart b y w)) (hyl : y < w.heap.size) :
    Calls Try.prog 54 #[.pointer (some ⟨b, 0, none⟩), .string s] w fun e w' => e = .returned (.tuple #[.int .i64 s.size, .nilIface]) ∧ (Lib.IsBuilder 91 5 B b (Lib.byteCells (l ++ bl s)) w' ∧ Below B w w' ∧ w'.heap[y]? = w.heap[y]?) := by
  obtain ⟨i0, hi, hz0, hz1, hz2⟩ := info_parts infoByte
  have e240 : ∀ args w, (callFunc 91 args).run Try.prog w = .ok (.enter 91 args) w := enters_of Try.func91 (by kernel_rfl) rfl
  have hbs : (Lib.byteCells l).length = l.length := Lib.byteCells_length l
  obtain ⟨bs, hbs2⟩ := nm (Lib.byteCells l)
  rw [← hbs2.out] at h hbs
  go_enter Try.func54, Try.ntmps54
  go_wp2_with (go_at_call 91; refine (bcheck_keeps B b bs _ h).mono ?_)
  rintro e w1 ⟨rfl, h1, hb1, hc, hk⟩
  have HC1 := Lib.hid hc
  have HK1 := Lib.hid hk
  clear hc hk
  obtain ⟨hB, v, hbk, hown, hne⟩ := h1
  have c0 : w1.cell? ⟨b, 0, none⟩ = some (.pointer (some ⟨b, 0, none⟩)) := by rw [Lib.cell_of_heap hbk]; rfl
  have c1 : w1.cell? ⟨b, 1, none⟩ = some v := by rw [Lib.cell_of_heap hbk]; rfl
  go_wp2_with (at_builtin; refine Lib.wpList_append_own_string _ rfl _ _ 36 9 rfl B 5 i0 Try.underlying36 Try.underlying9 hi hz0 hz1 hz2 _ _ _ rfl hown s rfl ?c3 ?c4 ?c5 ?_)
  case c3 => unfold maxLen; omega
  case c4 => omega
  case c5 => have := hb1.size; omega
  intro v' w2 hown' hgrow _
  have hlt : b < w1.heap.size := lt_of_block hbk
  have hb2 : w2.heap[b]? = some (.cells #[.pointer (some ⟨b, 0, none⟩), v] 91 (0, 0)) := by
    rw [hgrow.block b hlt (fun e => hne e.symm)]
    exact hbk
  have d0 : w2.cell? ⟨b, 0, none⟩ = some (.pointer (some ⟨b, 0, none⟩)) := by rw [Lib.cell_of_heap hb2]; rfl
  have d1 : w2.cell? ⟨b, 1, none⟩ = some v := by rw [Lib.cell_of_heap hb2]; rfl
  have f1 : w2.frozen? ⟨b, 1, none⟩ = false := Lib.frozen_of_heap hb2 1
  obtain ⟨ao, n', cap, rfl⟩ : ∃ ao n' cap, v' = .slice ao n' cap := by
    rcases hown'.2 with ⟨hv, _⟩ | ⟨g, cap, cur, hv, _⟩
    · exact ⟨_, _, _, hv⟩
    · exact ⟨_, _, _, hv⟩
  go_wp2
  go_ret2
  refine ⟨rfl, Or.inr ?_, ?_⟩
  · have := Lib.BuilderAt.put (T := 91) (e := 5) hB hb2 (bs' := bs ++ Lib.strCells s) (by simpa [Lib.strCells_length, hbs] using hown') (by decide)
    have e1 : bs ++ Lib.strCells s = Lib.byteCells (l ++ bl s) := by
      rw [hbs2.out, Lib.byteCells, Lib.byteCells, List.map_append]; rfl
    rw [← e1]
    exact this
  · refine ⟨(hb1.grown hgrow (by have := hb1.size; omega) (fun k hk => (hown.lt k hk).1)).setCell (p := ⟨b, 1, none⟩) hB _, ?_⟩
    obtain ⟨hy1, hy2⟩ := hy.out
    refine (Below.heap_setCell _ _ _ _ hy1).trans ?_
    rw [hgrow.block y (Nat.lt_of_lt_of_le hyl hb1.size) (fun e => hy2 v (by rw [← HC1.out]; exact c1) e.symm)]
    exact HK1.out y hy1
end Go.Proofs.Ytfpjdmplepepjaa

/-! WRefDot: The document's names: may one be, is one less, is it in a row, do they rise, their bytes. -/
namespace Go.Proofs.Ytfpjdmplepepjaa
open Go.RowKit Go.Sort
set_option maxRecDepth 100000 in
set_option maxHeartbeats 400000 in
theorem refless_any (x1 x2 y1 y2 : Int) (r : Bool) (hr : Hid (r = decide (ltP (x1, x2) (y1, y2)))) (w : World) :
    Calls Try.prog 73 #[.agg #[.int .i64 x1, .int .i64 x2], .agg #[.int .i64 y1, .int .i64 y2]] w fun e w' => e = .returned (.bool r) ∧ Below w.heap.size w w' := by
  have hr2 := hr.out
  unfold ltP at hr2
  simp only at hr2
  rcases Int.lt_trichotomy x1 y1 with h | h | h
  · have h1 : r = true := by rw [hr2]; exact decide_eq_true (.inl h)
    subst h1
    have hd : decide (x1 < y1) = true := decide_eq_true h
    clear hr2
    go_enter Try.func73, Try.ntmps73
    go_wp2_with fail
    go_ret
    exact ⟨rfl, bNew (bOld _) _⟩
  · subst h
    have hd : decide (x1 < x1) = false := by simp
    have he : (x1 == x1) = true := by simp
    have h1 : decide (x2 < y2) = r := by rw [hr2]; exact decide_eq_decide.2 ⟨fun h => .inr ⟨rfl, h⟩, fun h => by omega⟩
    clear hr2
    go_enter Try.func73, Try.ntmps73
    go_wp2_with fail
    go_ret
    exact ⟨rfl, bNew (bOld _) _⟩
  · have h1 : r = false := by rw [hr2]; exact decide_eq_false (by omega)
    subst h1
    have hd : decide (x1 < y1) = false := decide_eq_false (by omega)
    have he : (x1 == y1) = false := by simp; omega
    clear hr2
    go_enter Try.func73, Try.ntmps73
    go_wp2_with fail
    go_ret
    exact ⟨rfl, bNew (bOld _) _⟩

set_option maxRecDepth 100000 in
set_option maxHeartbeats 1000000 in
theorem refcheck_any (x y : Int) (r : Bool) (hr : Hid (r = okD x y)) (w : World) :
    Calls Try.prog 32 #[.agg #[.int .i64 x, .int .i64 y]] w fun e w' => e = .returned (.bool r) ∧ Below w.heap.size w w' := by
  have hr2 := hr.out
  unfold okD at hr2
  obtain ⟨A, hA⟩ := nm (decide (1 ≤ x))
  obtain ⟨B, hB⟩ := nm (decide (x ≤ 1099511627776))
  obtain ⟨C, hC⟩ := nm (decide (1 ≤ y))
  obtain ⟨D, hD⟩ := nm (decide (y ≤ 1099511627776))
  have hR : Hid (r = (A && (B && (C && D)))) := by
    show _ = _
    rw [hr2, hA.out, hB.out, hC.out, hD.out]
    simp only [Bool.decide_and]
  have h1 := hA.out.symm
  have h2 := hB.out.symm
  have h3 := hC.out.symm
  have h4 := hD.out.symm
  clear hr2 hA hB hC hD hr
  cases A <;> cases B <;> cases C
  all_goals
    have hR2 := hR.out
    simp only [Bool.true_and, Bool.and_false, Bool.false_and] at hR2
    subst hR2
    clear hR
    go_enter Try.func32, Try.ntmps32
    go_wp2_with fail
    go_ret
    exact ⟨rfl, bOld _⟩

set_option maxRecDepth 100000 in
set_option maxHeartbeats 1000000 in
theorem refdhas_any (ao : Option Addr) (ps : List (Int × Int)) (n cap : Nat) (hn : Hid (ps.length = n)) (hm : n ≤ 1000000000) (x y : Int) (w : World) (hs : SlP w ao ps) (r : Bool) (hr : Hid (r = decide ((x, y) ∈ ps))) :
    Calls Try.prog 86 #[.slice ao n cap, .agg #[.int .i64 x, .int .i64 y]] w fun e w' => e = .returned (.bool r) ∧ Below w.heap.size w w' := by
  have HS := Lib.hid hs
  clear hs
  have hb0 : Blk (w.alloc (.cells #[.int .i64 x, .int .i64 y] 31)) w.heap.size #[.int .i64 x, .int .i64 y] 31 := Blk.new _ _ _
  obtain ⟨w1, hw1⟩ := nm (w.alloc (.cells #[.int .i64 x, .int .i64 y] 31))
  rw [← hw1.out] at hb0
  have hB0 : Below w.heap.size w w1 := by rw [hw1.out]; exact bOld _
  obtain ⟨p, hp⟩ := nm w.heap.size
  rw [← hp.out] at hb0
  have b0 : w1.cell? ⟨p, 0, none⟩ = some (.int .i64 x) := hb0.cell 0
  have b1 : w1.cell? ⟨p, 1, none⟩ = some (.int .i64 y) := hb0.cell 1
  have HB0 := Lib.hid hB0
  clear hB0 hb0
  go_enter Try.func86, Try.ntmps86
  go_wp2_with fail
  rw [← hp.out, ← hw1.out]
  go_loopw [5] (fun i wr => ∃ k q : Nat, k ≤ n ∧ i = .int .i64 (k : Int) ∧ wr = w1.drewN q ∧ Hid (¬ (x, y) ∈ ps.take k)) (fun i _ => n - (intOf i).toNat)
  case atStart => exact ⟨0, 0, by omega, rfl, rfl, by show ¬ _; simp⟩
  case round =>
    obtain ⟨k, q, hk, rfl, rfl, hI⟩ := hrel
    by_cases hlt : k < n
    · obtain ⟨b, off, u, v, rfl, hbl, c0, c1, hpk⟩ := HS.out.get k (by rw [hn.out]; exact hlt)
      have d0 : w1.cell? ⟨b, off + k * 2, none⟩ = some (.int .i64 u) := (HB0.out.cell (p := ⟨b, off + k * 2, none⟩) hbl).trans c0
      have d1 : w1.cell? ⟨b, off + k * 2 + 1, none⟩ = some (.int .i64 v) := (HB0.out.cell (p := ⟨b, off + k * 2 + 1, none⟩) hbl).trans c1
      clear c0 c1
      obtain ⟨B, hBB⟩ := nm (decide ((u, v) = (x, y)))
      have heq := fun w => eqlD u v x y B hBB.out.symm w
      have hgd := fun (a b : Operand) (w : World) => guardD .eql a b #[.int .i64 u, .int .i64 v] #[.int .i64 x, .int .i64 y] w
      have htk : ps.take (k + 1) = ps.take k ++ [(u, v)] := by
        obtain ⟨g1, g2⟩ := get_of hpk.out
        rw [List.take_succ_eq_append_getElem g1]
        have := hpk.out
        rw [List.getElem?_eq_getElem g1] at this
        rw [Option.some.inj this]
      have HT := Lib.hid htk
      clear htk
      cases B
      · have HI : Hid (¬ (x, y) ∈ ps.take (k + 1)) := by
          show ¬ _
          rw [HT.out, List.mem_append]
          rintro (h | h)
          · exact hI.out h
          · have e : (x, y) = (u, v) := by simpa using h
            have := hBB.out
            rw [e] at this
            simp at this
        go_wp2_with fail
        go_quiet (fail)
        go_wp2_with fail
        go_roundw
        case rel => exact ⟨k + 1, q + nq, by omega, by go_num, rfl, HI⟩
        case measure => simp [intOf]; omega
      · have HE : Hid (r = true) := by
          show _ = _
          rw [hr.out]
          refine decide_eq_true ?_
          have e : (u, v) = (x, y) := by simpa using hBB.out.symm
          rw [← e]
          exact List.mem_of_getElem? hpk.out
        go_wp2_with fail
        go_quiet (fail)
        go_wp2_with fail
        go_ret
        rw [HE.out]
        exact ⟨rfl, below_drewN (below_drewN HB0.out _) _⟩
    · obtain rfl : k = n := by omega
      have HE : Hid (r = false) := by
        show _ = _
        rw [hr.out]
        refine decide_eq_false ?_
        have := hI.out
        rwa [List.take_of_length_le (by rw [hn.out]; exact Nat.le_refl _)] at this
      go_wp2_with fail
      go_ret
      rw [HE.out]
      exact ⟨rfl, below_drewN HB0.out q⟩
end Go.Proofs.Ytfpjdmplepepjaa

/-! WCtx: Contexts: up to which number all of a node's were seen; was a name seen. -/
namespace Go.Proofs.Ytfpjdmplepepjaa
open Go.RowKit

theorem takeL {l : List Oper} {i : Nat} {o : Oper} (h : l[i]? = some o) : (l.toArray)[i]? = some o := by simpa using h
theorem mem_lowD {l : List Dot2} (h : Asc l) (p : Dot2) : l[lowD l p]? = some p ↔ p ∈ l := by
  constructor
  · exact fun h => List.mem_of_getElem? h
  · intro hm
    obtain ⟨i, hi, e⟩ := List.getElem_of_mem hm
    have hg : l[i]? = some p := by rw [List.getElem?_eq_getElem hi, e]
    have : i = lowD l p := by
      refine lowD_of l p i (Nat.le_of_lt hi) (fun j hj => ?_) (fun j h1 h2 => asc_notlt h hg h2 h1 (ltP_irrefl p))
      have := asc_mono h hj hi
      rw [getElem!_pos l i hi, e] at this
      exact this
    rw [← this]; exact hg
theorem SlE.pairs {w : World} {ao : Option Addr} {ps : List Dot2} (h : SlE eDot 2 w ao ps) : SlP w ao ps := by
  intro k hk
  obtain ⟨b, off, h1, h2, h3⟩ := h k hk
  exact ⟨b, off, h1, h2, fun j p hj => ⟨h3 j p hj 0 _ rfl, h3 j p hj 1 _ rfl⟩⟩
theorem blkN {w w0 : World} {c : Array Value} {t : TypeId} {x : Nat} (h : w0 = w.alloc (.cells c t)) (hx : x = w.heap.size) : Blk w0 x c t := by rw [h, hx]; exact Blk.new _ _ _

set_option maxRecDepth 100000 in
set_option maxHeartbeats 4000000 in
theorem upto_any (ab ac : Option Addr) (nb kb nc kc : Nat) (bs : List Dot2) (hn : Hid (bs.length = nb)) (hm : nb ≤ 1000000) (z u : Int) (hu : Hid (u = uptoD bs z)) (ha : Hid (Asc bs)) (w : World) (hs : SlP w ab bs) :
    Calls Try.prog 99 #[.agg #[.slice ab nb kb, .slice ac nc kc], .int .i64 z] w fun e w' => e = .returned (.int .i64 u) ∧ Below w.heap.size w w' := by
  obtain ⟨w0, hw0⟩ := nm (w.alloc (.cells #[.slice ab nb kb, .slice ac nc kc] 25))
  obtain ⟨x, hx⟩ := nm w.heap.size
  have Kx : Hid (Blk w0 x #[.slice ab nb kb, .slice ac nc kc] 25) := blkN hw0.out hx.out
  have HB0 : Hid (Below w.heap.size w w0) := by rw [hw0.out]; exact bOld _
  have HS0 : Hid (SlP w0 ab bs) := hs.below HB0.out
  clear hs
  go_enter Try.func99, Try.ntmps99
  go_upto_region 1 with fail
  rw [← hw0.out, ← hx.out]
  have c0 : w0.cell? ⟨x, 0, none⟩ = some (.slice ab nb kb) := Kx.out.cell 0
  go_wp2_with fail
  refine (find_any ab bs nb kb hn z 0 _ HS0.out (by omega)).mono ?_
  rintro e w1 ⟨j, hj, rfl, hlow, hB1⟩
  replace Kx := Lib.hid (Kx.out.below hB1 Kx.out.lt)
  have HS1 : Hid (SlP w1 ab bs) := HS0.out.below hB1
  replace HB0 := Lib.hid (bNext HB0.out hB1)
  have HJ : Hid (j = lowD bs (z, 0)) := hlow ha.out
  have HU : Hid (u = match bs[j]? with | some p => if p.1 = z then p.2 else 0 | none => 0) := by show _ = _; rw [hu.out, HJ.out]; rfl
  clear hlow hB1 c0
  have c0 : w1.cell? ⟨x, 0, none⟩ = some (.slice ab nb kb) := Kx.out.cell 0
  by_cases hlt : j < nb
  · obtain ⟨b, off, u1, v1, rfl, hbl, d0, d1, hp⟩ := HS1.out.get j (by rw [hn.out]; exact hlt)
    by_cases hz : u1 = z
    · subst hz
      have hub : (u1 == u1) = true := by simp
      obtain rfl : u = v1 := by rw [HU.out, hp.out]; simp
      clear hj
      go_wp2_with fail
      go_ret
      exact ⟨rfl, HB0.out⟩
    · have hub : (u1 == z) = false := by simpa using hz
      obtain rfl : u = 0 := by rw [HU.out, hp.out]; simp [hz]
      clear hj
      go_wp2_with fail
      go_ret
      exact ⟨rfl, HB0.out⟩
  · have hdl : decide ((j : Int) < (nb : Int)) = false := decide_eq_false (by omega)
    obtain rfl : u = 0 := by rw [HU.out, List.getElem?_eq_none (by rw [hn.out]; omega)]
    clear hj
    go_wp2_with fail
    go_ret
    exact ⟨rfl, HB0.out⟩

set_option maxRecDepth 100000 in
set_option maxHeartbeats 4000000 in
theorem has_any (ab ac : Option Addr) (nb kb nc kc : Nat) (bs cl : List Dot2) (hn : Hid (bs.length = nb)) (hm : nb ≤ 1000000) (hn2 : Hid (cl.length = nc)) (hm2 : nc ≤ 1000000) (p q : Int) (ha : Hid (Asc bs)) (ha2 : Hid (Asc cl)) (r : Bool) (hr : Hid (r = true ↔ hasD bs cl (p, q))) (w : World) (hs : SlP w ab bs) (hs2 : SlP w ac cl) :
    Calls Try.prog 68 #[.agg #[.slice ab nb kb, .slice ac nc kc], .agg #[.int .i64 p, .int .i64 q]] w fun e w' => e = .returned (.bool r) ∧ Below w.heap.size w w' := by
  obtain ⟨wa, hwa⟩ := nm (w.alloc (.cells #[.slice ab nb kb, .slice ac nc kc] 25))
  obtain ⟨w0, hw0⟩ := nm (wa.alloc (.cells #[.int .i64 p, .int .i64 q] 31))
  obtain ⟨x, hx⟩ := nm w.heap.size
  obtain ⟨y, hy⟩ := nm wa.heap.size
  have Kx : Hid (Blk w0 x #[.slice ab nb kb, .slice ac nc kc] 25) := by show Blk _ _ _ _; rw [hw0.out]; exact (blkN hwa.out hx.out).alloc _
  have Ky : Hid (Blk w0 y #[.int .i64 p, .int .i64 q] 31) := blkN hw0.out hy.out
  have HB0 : Hid (Below w.heap.size w w0) := by rw [hw0.out, hwa.out]; exact bNew (bOld _) _
  have HS0 : Hid (SlP w0 ab bs) := hs.below HB0.out
  have HS2 : Hid (SlP w0 ac cl) := hs2.below HB0.out
  have hsz : x + 1 = y := by rw [hy.out, hwa.out, hx.out]; simp
  have HSZ := Lib.hid hsz
  clear hs hs2 hsz
  obtain ⟨C, hC⟩ := nm (okD p q)
  obtain ⟨u, hu⟩ := nm (uptoD bs p)
  go_enter Try.func68, Try.ntmps68
  go_upto_region 1 with fail
  rw [← hwa.out, ← hw0.out, ← hx.out]
  rw [HSZ.out]
  have c1 : w0.cell? ⟨x, 1, none⟩ = some (.slice ac nc kc) := Kx.out.cell 1
  have e0 : w0.cell? ⟨y, 0, none⟩ = some (.int .i64 p) := Ky.out.cell 0
  have e1 : w0.cell? ⟨y, 1, none⟩ = some (.int .i64 q) := Ky.out.cell 1
  go_wp2_with fail
  refine (find_any ac cl nc kc hn2 p q _ HS2.out (by omega)).mono ?_
  rintro e w1 ⟨j, hj, rfl, hlow, hB1⟩
  replace Kx := Lib.hid (Kx.out.below hB1 Kx.out.lt)
  replace Ky := Lib.hid (Ky.out.below hB1 Ky.out.lt)
  have HS1 : Hid (SlP w1 ab bs) := HS0.out.below hB1
  replace HB0 := Lib.hid (bNext HB0.out hB1)
  obtain ⟨I, hI⟩ := nm (decide (cl[j]? = some (p, q)))
  have HI : Hid (I = true ↔ (p, q) ∈ cl) := by
    show _ ↔ _
    rw [hI.out, hlow ha2.out, decide_eq_true_iff]
    exact mem_lowD ha2.out _
  rw [← hI.out]
  clear hlow hB1 c1 e0 e1 hj hI
  have c0 : w1.cell? ⟨x, 0, none⟩ = some (.slice ab nb kb) := Kx.out.cell 0
  have c1 : w1.cell? ⟨x, 1, none⟩ = some (.slice ac nc kc) := Kx.out.cell 1
  have e0 : w1.cell? ⟨y, 0, none⟩ = some (.int .i64 p) := Ky.out.cell 0
  have e1 : w1.cell? ⟨y, 1, none⟩ = some (.int .i64 q) := Ky.out.cell 1
  have KEEP : Hid (∀ wb : World, Below w1.drew.heap.size w1.drew wb → wb.cell? ⟨x, 0, none⟩ = some (.slice ab nb kb) ∧ wb.cell? ⟨x, 1, none⟩ = some (.slice ac nc kc) ∧ wb.cell? ⟨y, 0, none⟩ = some (.int .i64 p) ∧ wb.cell? ⟨y, 1, none⟩ = some (.int .i64 q)) := by
    show ∀ wb : World, _
    intro wb h
    have h1 := Blk.below (w := w1.drew) Kx.out h Kx.out.lt
    have h2 := Blk.below (w := w1.drew) Ky.out h Ky.out.lt
    exact ⟨h1.cell 0, h1.cell 1, h2.cell 0, h2.cell 1⟩
  cases C
  · obtain rfl : r = false := by
      cases r
      · rfl
      · have h := (hr.out.1 rfl).1
        rw [dotP, ← hC.out] at h
        cases h
    go_wp2_with fail
    refine wp_region_held_drew (S := fun w' => w'.cell? ⟨x, 0, none⟩ = some (.slice ab nb kb) ∧ w'.cell? ⟨x, 1, none⟩ = some (.slice ac nc kc) ∧ w'.cell? ⟨y, 0, none⟩ = some (.int .i64 p) ∧ w'.cell? ⟨y, 1, none⟩ = some (.int .i64 q)) (by kernel_rfl) (⟨c0, c1, e0, e1⟩) (fun hHeld => ?_)
    refine wpAnyH_take (i := 0) (v := ?_) (takeL rfl) (by kernel_rfl) (by kernel_rfl) (by kernel_rfl) (fun _ _ _ h => h) (Or.inl ⟨by rfl, ?_⟩) (by assumption) ?_
    rotate_left
    · (intro w hSw; (try dsimp only at hSw); first | (go_simp; done) | (go_simp; with_reducible rfl))
    try simp only [Act.put, List.setIfInBounds_toArray, List.set_cons_zero, List.set_cons_succ]
    refine wpAnyH_ready (rs := [1]) (by kernel_rfl) (by simp) ?_
    refine AllReadyH.cons (takeL rfl) (fun K hK => ?_) AllReadyH.nil
    go_simp
    refine (check_any p q false hC _).mono ?_; rintro e w2 ⟨rfl, hB2⟩
    go_wp2_with fail
    refine hK.out _ _ (KEEP.out _ hB2) (fun hHeld => ?_)
    clear hK K
    refine wpAnyH_take (i := 2) (v := ?_) (takeL rfl) (by kernel_rfl) (by kernel_rfl) (by kernel_rfl) (fun _ _ _ h => h) (Or.inl ⟨by rfl, ?_⟩) (by assumption) ?_
    rotate_left
    · (intro w hSw; (try dsimp only at hSw); first | (go_simp; done) | (go_simp; with_reducible rfl))
    try simp only [Act.put, List.setIfInBounds_toArray, List.set_cons_zero, List.set_cons_succ]
    refine wpAnyH_take (i := 3) (v := undef) (takeL rfl) (by kernel_rfl) (by kernel_rfl) (by kernel_rfl) (fun _ _ _ h => h) (Or.inr ⟨by rfl, rfl⟩) (by assumption) ?_
    try simp only [Act.put, List.setIfInBounds_toArray, List.set_cons_zero, List.set_cons_succ]
    refine wpAnyH_take (i := 4) (v := undef) (takeL rfl) (by kernel_rfl) (by kernel_rfl) (by kernel_rfl) (fun _ _ _ h => h) (Or.inr ⟨by rfl, rfl⟩) (by assumption) ?_
    try simp only [Act.put, List.setIfInBounds_toArray, List.set_cons_zero, List.set_cons_succ]
    refine wpAnyH_take (i := 5) (v := undef) (takeL rfl) (by kernel_rfl) (by kernel_rfl) (by kernel_rfl) (fun _ _ _ h => h) (Or.inr ⟨by rfl, rfl⟩) (by assumption) ?_
    try simp only [Act.put, List.setIfInBounds_toArray, List.set_cons_zero, List.set_cons_succ]
    refine wpAnyH_take (i := 6) (v := undef) (takeL rfl) (by kernel_rfl) (by kernel_rfl) (by kernel_rfl) (fun _ _ _ h => h) (Or.inr ⟨by rfl, rfl⟩) (by assumption) ?_
    try simp only [Act.put, List.setIfInBounds_toArray, List.set_cons_zero, List.set_cons_succ]
    refine wpAnyH_take (i := 7) (v := undef) (takeL rfl) (by kernel_rfl) (by kernel_rfl) (by kernel_rfl) (fun _ _ _ h => h) (Or.inr ⟨by rfl, rfl⟩) (by assumption) ?_
    try simp only [Act.put, List.setIfInBounds_toArray, List.set_cons_zero, List.set_cons_succ]
    refine wpAnyH_take (i := 8) (v := undef) (takeL rfl) (by kernel_rfl) (by kernel_rfl) (by kernel_rfl) (fun _ _ _ h => h) (Or.inr ⟨by rfl, rfl⟩) (by assumption) ?_
    try simp only [Act.put, List.setIfInBounds_toArray, List.set_cons_zero, List.set_cons_succ]
    refine wpAnyH_take (i := 9) (v := undef) (takeL rfl) (by kernel_rfl) (by kernel_rfl) (by kernel_rfl) (fun _ _ _ h => h) (Or.inr ⟨by rfl, rfl⟩) (by assumption) ?_
    try simp only [Act.put, List.setIfInBounds_toArray, List.set_cons_zero, List.set_cons_succ]
    refine wpAnyH_take (i := 10) (v := undef) (takeL rfl) (by kernel_rfl) (by kernel_rfl) (by kernel_rfl) (fun _ _ _ h => h) (Or.inr ⟨by rfl, rfl⟩) (by assumption) ?_
    try simp only [Act.put, List.setIfInBounds_toArray, List.set_cons_zero, List.set_cons_succ]
    refine wpAnyH_take (i := 11) (v := undef) (takeL rfl) (by kernel_rfl) (by kernel_rfl) (by kernel_rfl) (fun _ _ _ h => h) (Or.inr ⟨by rfl, rfl⟩) (by assumption) ?_
    try simp only [Act.put, List.setIfInBounds_toArray, List.set_cons_zero, List.set_cons_succ]
    refine wpAnyH_take (i := 12) (v := undef) (takeL rfl) (by kernel_rfl) (by kernel_rfl) (by kernel_rfl) (fun _ _ _ h => h) (Or.inr ⟨by rfl, rfl⟩) (by assumption) ?_
    try simp only [Act.put, List.setIfInBounds_toArray, List.set_cons_zero, List.set_cons_succ]
    refine wpAnyH_take (i := 13) (v := ?_) (takeL rfl) (by kernel_rfl) (by kernel_rfl) (by kernel_rfl) (fun _ _ _ h => h) (Or.inl ⟨by rfl, ?_⟩) (by assumption) ?_
    rotate_left
    · (intro w hSw; (try dsimp only at hSw); first | (go_simp; done) | (go_simp; with_reducible rfl))
    try simp only [Act.put, List.setIfInBounds_toArray, List.set_cons_zero, List.set_cons_succ]
    refine wpAnyH_take (i := 14) (v := ?_) (takeL rfl) (by kernel_rfl) (by kernel_rfl) (by kernel_rfl) (fun _ _ _ h => h) (Or.inl ⟨by rfl, ?_⟩) (by assumption) ?_
    rotate_left
    · (intro w hSw; (try dsimp only at hSw); first | (go_simp; done) | (go_simp; with_reducible rfl))
    try simp only [Act.put, List.setIfInBounds_toArray, List.set_cons_zero, List.set_cons_succ]
    refine wpAnyH_done (by kernel_rfl) ?_ _
    go_wp2_with fail
    go_ret
    exact ⟨rfl, bNext (bDrew HB0.out) hB2⟩
  · cases I
    · obtain ⟨D, hD⟩ := nm (decide (q ≤ u))
      obtain rfl : r = D := by
        rw [Bool.eq_iff_iff, hr.out, hD.out, decide_eq_true_iff, hu.out]
        constructor
        · rintro ⟨_, h | h⟩
          · exact absurd (HI.out.2 h) (by simp)
          · exact h
        · exact fun h => ⟨hC.out.symm, .inr h⟩
      have hqu : decide (q ≤ u) = r := hD.out.symm
      go_wp2_with fail
      refine wp_region_held_drew (S := fun w' => w'.cell? ⟨x, 0, none⟩ = some (.slice ab nb kb) ∧ w'.cell? ⟨x, 1, none⟩ = some (.slice ac nc kc) ∧ w'.cell? ⟨y, 0, none⟩ = some (.int .i64 p) ∧ w'.cell? ⟨y, 1, none⟩ = some (.int .i64 q)) (by kernel_rfl) (⟨c0, c1, e0, e1⟩) (fun hHeld => ?_)
      refine wpAnyH_take (i := 0) (v := ?_) (takeL rfl) (by kernel_rfl) (by kernel_rfl) (by kernel_rfl) (fun _ _ _ h => h) (Or.inl ⟨by rfl, ?_⟩) (by assumption) ?_
      rotate_left
      · (intro w hSw; (try dsimp only at hSw); first | (go_simp; done) | (go_simp; with_reducible rfl))
      try simp only [Act.put, List.setIfInBounds_toArray, List.set_cons_zero, List.set_cons_succ]
      refine wpAnyH_ready (rs := [1]) (by kernel_rfl) (by simp) ?_
      refine AllReadyH.cons (takeL rfl) (fun K hK => ?_) AllReadyH.nil
      go_simp
      refine (check_any p q true hC _).mono ?_; rintro e w2 ⟨rfl, hB2⟩
      go_wp2_with fail
      refine hK.out _ _ (KEEP.out _ hB2) (fun hHeld => ?_)
      clear hK K
      refine wpAnyH_take (i := 2) (v := ?_) (takeL rfl) (by kernel_rfl) (by kernel_rfl) (by kernel_rfl) (fun _ _ _ h => h) (Or.inl ⟨by rfl, ?_⟩) (by assumption) ?_
      rotate_left
      · (intro w hSw; (try dsimp only at hSw); first | (go_simp; done) | (go_simp; with_reducible rfl))
      try simp only [Act.put, List.setIfInBounds_toArray, List.set_cons_zero, List.set_cons_succ]
      refine wpAnyH_take (i := 3) (v := ?_) (takeL rfl) (by kernel_rfl) (by kernel_rfl) (by kernel_rfl) (fun _ _ _ h => h) (Or.inl ⟨by rfl, ?_⟩) (by assumption) ?_
      rotate_left
      · (intro w hSw; (try dsimp only at hSw); first | (go_simp; done) | (go_simp; with_reducible rfl))
      try simp only [Act.put, List.setIfInBounds_toArray, List.set_cons_zero, List.set_cons_succ]
      refine wpAnyH_take (i := 4) (v := ?_) (takeL rfl) (by kernel_rfl) (by kernel_rfl) (by kernel_rfl) (fun _ _ _ h => h) (Or.inl ⟨by rfl, ?_⟩) (by assumption) ?_
      rotate_left
      · (intro w hSw; (try dsimp only at hSw); first | (go_simp; done) | (go_simp; with_reducible rfl))
      try simp only [Act.put, List.setIfInBounds_toArray, List.set_cons_zero, List.set_cons_succ]
      refine wpAnyH_take (i := 5) (v := ?_) (takeL rfl) (by kernel_rfl) (by kernel_rfl) (by kernel_rfl) (fun _ _ _ h => h) (Or.inl ⟨by rfl, ?_⟩) (by assumption) ?_
      rotate_left
      · (intro w hSw; (try dsimp only at hSw); first | (go_simp; done) | (go_simp; with_reducible rfl))
      try simp only [Act.put, List.setIfInBounds_toArray, List.set_cons_zero, List.set_cons_succ]
      refine wpAnyH_take (i := 6) (v := ?_) (takeL rfl) (by kernel_rfl) (by kernel_rfl) (by kernel_rfl) (fun _ _ _ h => h) (Or.inl ⟨by rfl, ?_⟩) (by assumption) ?_
      rotate_left
      · (intro w hSw; (try dsimp only at hSw); first | (go_simp; done) | (go_simp; with_reducible rfl))
      try simp only [Act.put, List.setIfInBounds_toArray, List.set_cons_zero, List.set_cons_succ]
      refine wpAnyH_take (i := 7) (v := ?_) (takeL rfl) (by kernel_rfl) (by kernel_rfl) (by kernel_rfl) (fun _ _ _ h => h) (Or.inl ⟨by rfl, ?_⟩) (by assumption) ?_
      rotate_left
      · (intro w hSw; (try dsimp only at hSw); first | (go_simp; done) | (go_simp; with_reducible rfl))
      try simp only [Act.put, List.setIfInBounds_toArray, List.set_cons_zero, List.set_cons_succ]
      refine wpAnyH_take (i := 8) (v := ?_) (takeL rfl) (by kernel_rfl) (by kernel_rfl) (by kernel_rfl) (fun _ _ _ h => h) (Or.inl ⟨by rfl, ?_⟩) (by assumption) ?_
      rotate_left
      · (intro w hSw; (try dsimp only at hSw); first | (go_simp; done) | (go_simp; with_reducible rfl))
      try simp only [Act.put, List.setIfInBounds_toArray, List.set_cons_zero, List.set_cons_succ]
      refine wpAnyH_take (i := 9) (v := ?_) (takeL rfl) (by kernel_rfl) (by kernel_rfl) (by kernel_rfl) (fun _ _ _ h => h) (Or.inl ⟨by rfl, ?_⟩) (by assumption) ?_
      rotate_left
      · (intro w hSw; (try dsimp only at hSw); first | (go_simp; done) | (go_simp; with_reducible rfl))
      try simp only [Act.put, List.setIfInBounds_toArray, List.set_cons_zero, List.set_cons_succ]
      refine wpAnyH_ready (rs := [10]) (by kernel_rfl) (by simp) ?_
      refine AllReadyH.cons (takeL rfl) (fun K hK => ?_) AllReadyH.nil
      go_simp
      refine (upto_any ab ac nb kb nc kc bs hn hm p u hu ha _ (HS1.out.below (bNext (bDrew (Below.refl _ _)) hB2))).mono ?_; rintro e w3 ⟨rfl, hB3⟩
      go_wp2_with fail
      refine hK.out _ _ (KEEP.out _ (bNext hB2 hB3)) (fun hHeld => ?_)
      clear hK K
      refine wpAnyH_take (i := 11) (v := ?_) (takeL rfl) (by kernel_rfl) (by kernel_rfl) (by kernel_rfl) (fun _ _ _ h => h) (Or.inl ⟨by rfl, ?_⟩) (by assumption) ?_
      rotate_left
      · (intro w hSw; (try dsimp only at hSw); first | (go_simp; done) | (go_simp; with_reducible rfl))
      try simp only [Act.put, List.setIfInBounds_toArray, List.set_cons_zero, List.set_cons_succ]
      refine wpAnyH_take (i := 12) (v := ?_) (takeL rfl) (by kernel_rfl) (by kernel_rfl) (by kernel_rfl) (fun _ _ _ h => h) (Or.inl ⟨by rfl, ?_⟩) (by assumption) ?_
      rotate_left
      · (intro w hSw; (try dsimp only at hSw); first | (go_simp; done) | (go_simp; with_reducible rfl))
      try simp only [Act.put, List.setIfInBounds_toArray, List.set_cons_zero, List.set_cons_succ]
      refine wpAnyH_take (i := 13) (v := ?_) (takeL rfl) (by kernel_rfl) (by kernel_rfl) (by kernel_rfl) (fun _ _ _ h => h) (Or.inl ⟨by rfl, ?_⟩) (by assumption) ?_
      rotate_left
      · (intro w hSw; (try dsimp only at hSw); first | (go_simp; done) | (go_simp; with_reducible rfl))
      try simp only [Act.put, List.setIfInBounds_toArray, List.set_cons_zero, List.set_cons_succ]
      refine wpAnyH_take (i := 14) (v := ?_) (takeL rfl) (by kernel_rfl) (by kernel_rfl) (by kernel_rfl) (fun _ _ _ h => h) (Or.inl ⟨by rfl, ?_⟩) (by assumption) ?_
      rotate_left
      · (intro w hSw; (try dsimp only at hSw); first | (go_simp; done) | (go_simp; with_reducible rfl))
      try simp only [Act.put, List.setIfInBounds_toArray, List.set_cons_zero, List.set_cons_succ]
      refine wpAnyH_done (by kernel_rfl) ?_ _
      go_wp2_with fail
      go_ret
      exact ⟨rfl, bNext (bDrew HB0.out) (bNext hB2 hB3)⟩
    · obtain rfl : r = true := hr.out.2 ⟨hC.out.symm, .inl (HI.out.1 rfl)⟩
      go_wp2_with fail
      refine wp_region_held_drew (S := fun w' => w'.cell? ⟨x, 0, none⟩ = some (.slice ab nb kb) ∧ w'.cell? ⟨x, 1, none⟩ = some (.slice ac nc kc) ∧ w'.cell? ⟨y, 0, none⟩ = some (.int .i64 p) ∧ w'.cell? ⟨y, 1, none⟩ = some (.int .i64 q)) (by kernel_rfl) (⟨c0, c1, e0, e1⟩) (fun hHeld => ?_)
      refine wpAnyH_take (i := 0) (v := ?_) (takeL rfl) (by kernel_rfl) (by kernel_rfl) (by kernel_rfl) (fun _ _ _ h => h) (Or.inl ⟨by rfl, ?_⟩) (by assumption) ?_
      rotate_left
      · (intro w hSw; (try dsimp only at hSw); first | (go_simp; done) | (go_simp; with_reducible rfl))
      try simp only [Act.put, List.setIfInBounds_toArray, List.set_cons_zero, List.set_cons_succ]
      refine wpAnyH_ready (rs := [1]) (by kernel_rfl) (by simp) ?_
      refine AllReadyH.cons (takeL rfl) (fun K hK => ?_) AllReadyH.nil
      go_simp
      refine (check_any p q true hC _).mono ?_; rintro e w2 ⟨rfl, hB2⟩
      go_wp2_with fail
      refine hK.out _ _ (KEEP.out _ hB2) (fun hHeld => ?_)
      clear hK K
      refine wpAnyH_take (i := 2) (v := ?_) (takeL rfl) (by kernel_rfl) (by kernel_rfl) (by kernel_rfl) (fun _ _ _ h => h) (Or.inl ⟨by rfl, ?_⟩) (by assumption) ?_
      rotate_left
      · (intro w hSw; (try dsimp only at hSw); first | (go_simp; done) | (go_simp; with_reducible rfl))
      try simp only [Act.put, List.setIfInBounds_toArray, List.set_cons_zero, List.set_cons_succ]
      refine wpAnyH_take (i := 3) (v := ?_) (takeL rfl) (by kernel_rfl) (by kernel_rfl) (by kernel_rfl) (fun _ _ _ h => h) (Or.inl ⟨by rfl, ?_⟩) (by assumption) ?_
      rotate_left
      · (intro w hSw; (try dsimp only at hSw); first | (go_simp; done) | (go_simp; with_reducible rfl))
      try simp only [Act.put, List.setIfInBounds_toArray, List.set_cons_zero, List.set_cons_succ]
      refine wpAnyH_take (i := 4) (v := ?_) (takeL rfl) (by kernel_rfl) (by kernel_rfl) (by kernel_rfl) (fun _ _ _ h => h) (Or.inl ⟨by rfl, ?_⟩) (by assumption) ?_
      rotate_left
      · (intro w hSw; (try dsimp only at hSw); first | (go_simp; done) | (go_simp; with_reducible rfl))
      try simp only [Act.put, List.setIfInBounds_toArray, List.set_cons_zero, List.set_cons_succ]
      refine wpAnyH_take (i := 5) (v := undef) (takeL rfl) (by kernel_rfl) (by kernel_rfl) (by kernel_rfl) (fun _ _ _ h => h) (Or.inr ⟨by rfl, rfl⟩) (by assumption) ?_
      try simp only [Act.put, List.setIfInBounds_toArray, List.set_cons_zero, List.set_cons_succ]
      refine wpAnyH_take (i := 6) (v := undef) (takeL rfl) (by kernel_rfl) (by kernel_rfl) (by kernel_rfl) (fun _ _ _ h => h) (Or.inr ⟨by rfl, rfl⟩) (by assumption) ?_
      try simp only [Act.put, List.setIfInBounds_toArray, List.set_cons_zero, List.set_cons_succ]
      refine wpAnyH_take (i := 7) (v := undef) (takeL rfl) (by kernel_rfl) (by kernel_rfl) (by kernel_rfl) (fun _ _ _ h => h) (Or.inr ⟨by rfl, rfl⟩) (by assumption) ?_
      try simp only [Act.put, List.setIfInBounds_toArray, List.set_cons_zero, List.set_cons_succ]
      refine wpAnyH_take (i := 8) (v := undef) (takeL rfl) (by kernel_rfl) (by kernel_rfl) (by kernel_rfl) (fun _ _ _ h => h) (Or.inr ⟨by rfl, rfl⟩) (by assumption) ?_
      try simp only [Act.put, List.setIfInBounds_toArray, List.set_cons_zero, List.set_cons_succ]
      refine wpAnyH_take (i := 9) (v := undef) (takeL rfl) (by kernel_rfl) (by kernel_rfl) (by kernel_rfl) (fun _ _ _ h => h) (Or.inr ⟨by rfl, rfl⟩) (by assumption) ?_
      try simp only [Act.put, List.setIfInBounds_toArray, List.set_cons_zero, List.set_cons_succ]
      refine wpAnyH_take (i := 10) (v := undef) (takeL rfl) (by kernel_rfl) (by kernel_rfl) (by kernel_rfl) (fun _ _ _ h => h) (Or.inr ⟨by rfl, rfl⟩) (by assumption) ?_
      try simp only [Act.put, List.setIfInBounds_toArray, List.set_cons_zero, List.set_cons_succ]
      refine wpAnyH_take (i := 11) (v := undef) (takeL rfl) (by kernel_rfl) (by kernel_rfl) (by kernel_rfl) (fun _ _ _ h => h) (Or.inr ⟨by rfl, rfl⟩) (by assumption) ?_
      try simp only [Act.put, List.setIfInBounds_toArray, List.set_cons_zero, List.set_cons_succ]
      refine wpAnyH_take (i := 12) (v := ?_) (takeL rfl) (by kernel_rfl) (by kernel_rfl) (by kernel_rfl) (fun _ _ _ h => h) (Or.inl ⟨by rfl, ?_⟩) (by assumption) ?_
      rotate_left
      · (intro w hSw; (try dsimp only at hSw); first | (go_simp; done) | (go_simp; with_reducible rfl))
      try simp only [Act.put, List.setIfInBounds_toArray, List.set_cons_zero, List.set_cons_succ]
      refine wpAnyH_take (i := 13) (v := ?_) (takeL rfl) (by kernel_rfl) (by kernel_rfl) (by kernel_rfl) (fun _ _ _ h => h) (Or.inl ⟨by rfl, ?_⟩) (by assumption) ?_
      rotate_left
      · (intro w hSw; (try dsimp only at hSw); first | (go_simp; done) | (go_simp; with_reducible rfl))
      try simp only [Act.put, List.setIfInBounds_toArray, List.set_cons_zero, List.set_cons_succ]
      refine wpAnyH_take (i := 14) (v := ?_) (takeL rfl) (by kernel_rfl) (by kernel_rfl) (by kernel_rfl) (fun _ _ _ h => h) (Or.inl ⟨by rfl, ?_⟩) (by assumption) ?_
      rotate_left
      · (intro w hSw; (try dsimp only at hSw); first | (go_simp; done) | (go_simp; with_reducible rfl))
      try simp only [Act.put, List.setIfInBounds_toArray, List.set_cons_zero, List.set_cons_succ]
      refine wpAnyH_done (by kernel_rfl) ?_ _
      go_wp2_with fail
      go_ret
      exact ⟨rfl, bNext (bDrew HB0.out) hB2⟩
end Go.Proofs.Ytfpjdmplepepjaa

/-! WCtxCheck: Contexts: may one be. -/
namespace Go.Proofs.Ytfpjdmplepepjaa
open Go.RowKit

/-- OK, or ErrArg. -/
def errno : Bool → Int
  | true => 0
  | false => 1
theorem notB {r : Bool} {p : Prop} (h : r = true ↔ p) (hn : ¬ p) : r = false := by
  cases r
  · rfl
  · exact absurd (h.1 rfl) hn

set_option maxRecDepth 100000 in
set_option maxHeartbeats 4000000 in
theorem ctxcheck_any (ab ac : Option Addr) (nb kb nc kc : Nat) (bs cl : List Dot2) (hn : Hid (bs.length = nb)) (hm : nb ≤ 1000000) (hn2 : Hid (cl.length = nc)) (hm2 : nc ≤ 1000000) (r : Bool) (hr : Hid (r = true ↔ CtxP bs cl)) (E : Int) (hE : Hid (E = errno r)) (w : World) (hs : SlP w ab bs) (hs2 : SlP w ac cl) :
    Calls Try.prog 66 #[.agg #[.slice ab nb kb, .slice ac nc kc]] w fun e w' => e = .returned (.int .i64 E) ∧ Below w.heap.size w w' := by
  obtain ⟨w0, hw0⟩ := nm (w.alloc (.cells #[.slice ab nb kb, .slice ac nc kc] 25))
  obtain ⟨x, hx⟩ := nm w.heap.size
  have Kx : Hid (Blk w0 x #[.slice ab nb kb, .slice ac nc kc] 25) := blkN hw0.out hx.out
  have HB0 : Hid (Below w.heap.size w w0) := by rw [hw0.out]; exact bOld _
  have HS1 : Hid (SlP w0 ab bs) := hs.below HB0.out
  have HS2 : Hid (SlP w0 ac cl) := hs2.below HB0.out
  clear hs hs2
  obtain ⟨A1, hA1⟩ := nm (decide (Asc bs))
  obtain ⟨A2, hA2⟩ := nm (decide (Asc cl))
  go_enter Try.func66, Try.ntmps66
  go_upto_region 1 with fail
  rw [← hw0.out, ← hx.out]
  have c0 : w0.cell? ⟨x, 0, none⟩ = some (.slice ab nb kb) := Kx.out.cell 0
  go_wp2_with fail
  refine (rises_any ab bs nb kb hn (by omega) _ HS1.out A1 hA1).mono ?_; rintro e w1 ⟨rfl, hB1⟩
  replace Kx := Lib.hid (Kx.out.below hB1 Kx.out.lt)
  replace HB0 := Lib.hid (bNext HB0.out hB1)
  replace HS1 := Lib.hid (HS1.out.below hB1)
  replace HS2 := Lib.hid (HS2.out.below hB1)
  clear hB1 c0 hw0
  cases A1
  · obtain rfl : r = false := notB hr.out fun h => by have := hA1.out; rw [decide_eq_true h.asc1] at this; cases this
    obtain rfl := hE.out
    go_wp2_with fail
    go_ret
    exact ⟨rfl, HB0.out⟩
  have c1 : w1.cell? ⟨x, 1, none⟩ = some (.slice ac nc kc) := Kx.out.cell 1
  go_wp2_with fail
  refine (rises_any ac cl nc kc hn2 (by omega) _ HS2.out A2 hA2).mono ?_; rintro e w2 ⟨rfl, hB1⟩
  replace Kx := Lib.hid (Kx.out.below hB1 Kx.out.lt)
  replace HB0 := Lib.hid (bNext HB0.out hB1)
  replace HS1 := Lib.hid (HS1.out.below hB1)
  replace HS2 := Lib.hid (HS2.out.below hB1)
  clear hB1 c1
  cases A2
  · obtain rfl : r = false := notB hr.out fun h => by have := hA2.out; rw [decide_eq_true h.asc2] at this; cases this
    obtain rfl := hE.out
    go_wp2_with fail
    go_ret
    exact ⟨rfl, HB0.out⟩
  have HA1 : Hid (Asc bs) := by show Asc _; simpa using hA1.out.symm
  have HA2 : Hid (Asc cl) := by show Asc _; simpa using hA2.out.symm
  have c0 : w2.cell? ⟨x, 0, none⟩ = some (.slice ab nb kb) := Kx.out.cell 0
  go_wp2_with fail
  clear c0
  go_loopw [20] (fun i wr => ∃ k : Nat, k ≤ nb ∧ i = .int .i64 (k : Int) ∧ Below w2.heap.size w2 wr ∧ Hid (Chk dotP (fun y x => y.1 ≠ x.1) bs k)) (fun i _ => nb - (intOf i).toNat)
  case atStart => exact ⟨0, by omega, rfl, Below.refl _ _, Lib.hid Chk.zero⟩
  case round =>
    obtain ⟨k, hk, rfl, hB, hI⟩ := hrel
    by_cases hlt : k < nb
    · obtain ⟨b, off, p, q, rfl, hbl, d0, d1, hp⟩ := (HS1.out.below hB).get k (by rw [hn.out]; exact hlt)
      obtain ⟨y, hy⟩ := nm wr.heap.size
      obtain ⟨w3, hw3⟩ := nm (wr.alloc (.cells #[.int .i64 p, .int .i64 q] 31))
      have Ky : Hid (Blk w3 y #[.int .i64 p, .int .i64 q] 31) := blkN hw3.out hy.out
      have Kx3 : Hid (Blk w3 x #[.slice (some ⟨b, off, none⟩) nb kb, .slice ac nc kc] 25) := by show Blk _ _ _ _; rw [hw3.out]; exact (Kx.out.below hB Kx.out.lt).alloc _
      have HB3 : Hid (Below w2.heap.size w2 w3) := by rw [hw3.out]; exact bNew hB _
      have HB03 : Hid (Below w.heap.size w w3) := bNext HB0.out HB3.out
      obtain ⟨C, hC⟩ := nm (okD p q)
      have c0 : w3.cell? ⟨x, 0, none⟩ = some (.slice (some ⟨b, off, none⟩) nb kb) := Kx3.out.cell 0
      have e0 : w3.cell? ⟨y, 0, none⟩ = some (.int .i64 p) := Ky.out.cell 0
      have e1 : w3.cell? ⟨y, 1, none⟩ = some (.int .i64 q) := Ky.out.cell 1
      clear hB
      cases C
      · obtain rfl : r = false := notB hr.out fun h => Chk.not_g (by rw [hn.out]; exact hlt) hp.out (by unfold dotP; rw [← hC.out]; simp) h.base
        obtain rfl := hE.out
        have KEEP : Hid (∀ wb : World, Below w3.drew.heap.size w3.drew wb → wb.cell? ⟨x, 0, none⟩ = some (.slice (some ⟨b, off, none⟩) nb kb) ∧ wb.cell? ⟨y, 0, none⟩ = some (.int .i64 p) ∧ wb.cell? ⟨y, 1, none⟩ = some (.int .i64 q)) := by
          show ∀ wb : World, _
          intro wb h
          have h1 := Blk.below (w := w3.drew) Kx3.out h Kx3.out.lt
          have h2 := Blk.below (w := w3.drew) Ky.out h Ky.out.lt
          exact ⟨h1.cell 0, h2.cell 0, h2.cell 1⟩
        go_wp2_with fail
        rw [← hw3.out, ← hy.out]
        refine wp_region_noPanic ?_
        refine wp_region_held_drew (S := fun w' => w'.cell? ⟨x, 0, none⟩ = some (.slice (some ⟨b, off, none⟩) nb kb) ∧ w'.cell? ⟨y, 0, none⟩ = some (.int .i64 p) ∧ w'.cell? ⟨y, 1, none⟩ = some (.int .i64 q)) (by kernel_rfl) (⟨c0, e0, e1⟩) (fun hHeld => ?_)
        refine wpAnyH_take (i := 0) (v := ?_) (takeL rfl) (by kernel_rfl) (by kernel_rfl) (by kernel_rfl) (fun _ _ _ h => h) (Or.inl ⟨by rfl, ?_⟩) (by assumption) ?_
        rotate_left
        · (intro w hSw; (try dsimp only at hSw); first | (go_simp; done) | (go_simp; with_reducible rfl))
        try simp only [Act.put, List.setIfInBounds_toArray, List.set_cons_zero, List.set_cons_succ]
        refine wpAnyH_ready (rs := [1]) (by kernel_rfl) (by simp) ?_
        refine AllReadyH.cons (takeL rfl) (fun K hK => ?_) AllReadyH.nil
        go_simp
        refine (check_any p q false hC _).mono ?_; rintro e w4 ⟨rfl, hB4⟩
        go_wp2_with fail
        refine hK.out _ _ (KEEP.out _ hB4) (fun hHeld => ?_)
        clear hK K
        refine wpAnyH_take (i := 2) (v := ?_) (takeL rfl) (by kernel_rfl) (by kernel_rfl) (by kernel_rfl) (fun _ _ _ h => h) (Or.inl ⟨by rfl, ?_⟩) (by assumption) ?_
        rotate_left
        · (intro w hSw; (try dsimp only at hSw); first | (go_simp; done) | (go_simp; with_reducible rfl))
        try simp only [Act.put, List.setIfInBounds_toArray, List.set_cons_zero, List.set_cons_succ]
        refine wpAnyH_take (i := 3) (v := ?_) (takeL rfl) (by kernel_rfl) (by kernel_rfl) (by kernel_rfl) (fun _ _ _ h => h) (Or.inl ⟨by rfl, ?_⟩) (by assumption) ?_
        rotate_left
        · (intro w hSw; (try dsimp only at hSw); first | (go_simp; done) | (go_simp; with_reducible rfl))
        try simp only [Act.put, List.setIfInBounds_toArray, List.set_cons_zero, List.set_cons_succ]
        refine wpAnyH_take (i := 4) (v := undef) (takeL rfl) (by kernel_rfl) (by kernel_rfl) (by kernel_rfl) (fun _ _ _ h => h) (Or.inr ⟨by rfl, rfl⟩) (by assumption) ?_
        try simp only [Act.put, List.setIfInBounds_toArray, List.set_cons_zero, List.set_cons_succ]
        refine wpAnyH_take (i := 5) (v := undef) (takeL rfl) (by kernel_rfl) (by kernel_rfl) (by kernel_rfl) (fun _ _ _ h => h) (Or.inr ⟨by rfl, rfl⟩) (by assumption) ?_
        try simp only [Act.put, List.setIfInBounds_toArray, List.set_cons_zero, List.set_cons_succ]
        refine wpAnyH_take (i := 6) (v := undef) (takeL rfl) (by kernel_rfl) (by kernel_rfl) (by kernel_rfl) (fun _ _ _ h => h) (Or.inr ⟨by rfl, rfl⟩) (by assumption) ?_
        try simp only [Act.put, List.setIfInBounds_toArray, List.set_cons_zero, List.set_cons_succ]
        refine wpAnyH_take (i := 7) (v := undef) (takeL rfl) (by kernel_rfl) (by kernel_rfl) (by kernel_rfl) (fun _ _ _ h => h) (Or.inr ⟨by rfl, rfl⟩) (by assumption) ?_
        try simp only [Act.put, List.setIfInBounds_toArray, List.set_cons_zero, List.set_cons_succ]
        refine wpAnyH_take (i := 8) (v := undef) (takeL rfl) (by kernel_rfl) (by kernel_rfl) (by kernel_rfl) (fun _ _ _ h => h) (Or.inr ⟨by rfl, rfl⟩) (by assumption) ?_
        try simp only [Act.put, List.setIfInBounds_toArray, List.set_cons_zero, List.set_cons_succ]
        refine wpAnyH_take (i := 9) (v := undef) (takeL rfl) (by kernel_rfl) (by kernel_rfl) (by kernel_rfl) (fun _ _ _ h => h) (Or.inr ⟨by rfl, rfl⟩) (by assumption) ?_
        try simp only [Act.put, List.setIfInBounds_toArray, List.set_cons_zero, List.set_cons_succ]
        refine wpAnyH_take (i := 10) (v := undef) (takeL rfl) (by kernel_rfl) (by kernel_rfl) (by kernel_rfl) (fun _ _ _ h => h) (Or.inr ⟨by rfl, rfl⟩) (by assumption) ?_
        try simp only [Act.put, List.setIfInBounds_toArray, List.set_cons_zero, List.set_cons_succ]
        refine wpAnyH_take (i := 11) (v := undef) (takeL rfl) (by kernel_rfl) (by kernel_rfl) (by kernel_rfl) (fun _ _ _ h => h) (Or.inr ⟨by rfl, rfl⟩) (by assumption) ?_
        try simp only [Act.put, List.setIfInBounds_toArray, List.set_cons_zero, List.set_cons_succ]
        refine wpAnyH_take (i := 12) (v := undef) (takeL rfl) (by kernel_rfl) (by kernel_rfl) (by kernel_rfl) (fun _ _ _ h => h) (Or.inr ⟨by rfl, rfl⟩) (by assumption) ?_
        try simp only [Act.put, List.setIfInBounds_toArray, List.set_cons_zero, List.set_cons_succ]
        refine wpAnyH_take (i := 13) (v := undef) (takeL rfl) (by kernel_rfl) (by kernel_rfl) (by kernel_rfl) (fun _ _ _ h => h) (Or.inr ⟨by rfl, rfl⟩) (by assumption) ?_
        try simp only [Act.put, List.setIfInBounds_toArray, List.set_cons_zero, List.set_cons_succ]
        refine wpAnyH_take (i := 14) (v := undef) (takeL rfl) (by kernel_rfl) (by kernel_rfl) (by kernel_rfl) (fun _ _ _ h => h) (Or.inr ⟨by rfl, rfl⟩) (by assumption) ?_
        try simp only [Act.put, List.setIfInBounds_toArray, List.set_cons_zero, List.set_cons_succ]
        refine wpAnyH_take (i := 15) (v := undef) (takeL rfl) (by kernel_rfl) (by kernel_rfl) (by kernel_rfl) (fun _ _ _ h => h) (Or.inr ⟨by rfl, rfl⟩) (by assumption) ?_
        try simp only [Act.put, List.setIfInBounds_toArray, List.set_cons_zero, List.set_cons_succ]
        refine wpAnyH_take (i := 16) (v := undef) (takeL rfl) (by kernel_rfl) (by kernel_rfl) (by kernel_rfl) (fun _ _ _ h => h) (Or.inr ⟨by rfl, rfl⟩) (by assumption) ?_
        try simp only [Act.put, List.setIfInBounds_toArray, List.set_cons_zero, List.set_cons_succ]
        refine wpAnyH_take (i := 17) (v := undef) (takeL rfl) (by kernel_rfl) (by kernel_rfl) (by kernel_rfl) (fun _ _ _ h => h) (Or.inr ⟨by rfl, rfl⟩) (by assumption) ?_
        try simp only [Act.put, List.setIfInBounds_toArray, List.set_cons_zero, List.set_cons_succ]
        refine wpAnyH_take (i := 18) (v := ?_) (takeL rfl) (by kernel_rfl) (by kernel_rfl) (by kernel_rfl) (fun _ _ _ h => h) (Or.inl ⟨by rfl, ?_⟩) (by assumption) ?_
        rotate_left
        · (intro w hSw; (try dsimp only at hSw); first | (go_simp; done) | (go_simp; with_reducible rfl))
        try simp only [Act.put, List.setIfInBounds_toArray, List.set_cons_zero, List.set_cons_succ]
        refine wpAnyH_done (by kernel_rfl) ?_ _
        refine NoPanic.normal ?_
        go_wp2_with fail
        go_ret
        exact ⟨rfl, bNext (bDrew HB03.out) hB4⟩
      · by_cases hk0 : k = 0
        · have hk2 : decide (0 < k) = false := decide_eq_false (by omega)
          have hk3 : decide ((0 : Int) < (k : Int)) = false := decide_eq_false (by omega)
          have HI : Hid (Chk dotP (fun y x => y.1 ≠ x.1) bs (k + 1)) := by
            show Chk _ _ _ _
            subst hk0
            exact Chk.first hp.out hC.out.symm
          clear hk0
          have KEEP : Hid (∀ wb : World, Below w3.drew.heap.size w3.drew wb → wb.cell? ⟨x, 0, none⟩ = some (.slice (some ⟨b, off, none⟩) nb kb) ∧ wb.cell? ⟨y, 0, none⟩ = some (.int .i64 p) ∧ wb.cell? ⟨y, 1, none⟩ = some (.int .i64 q)) := by
            show ∀ wb : World, _
            intro wb h
            have h1 := Blk.below (w := w3.drew) Kx3.out h Kx3.out.lt
            have h2 := Blk.below (w := w3.drew) Ky.out h Ky.out.lt
            exact ⟨h1.cell 0, h2.cell 0, h2.cell 1⟩
          go_wp2_with fail
          rw [← hw3.out, ← hy.out]
          refine wp_region_noPanic ?_
          refine wp_region_held_drew (S := fun w' => w'.cell? ⟨x, 0, none⟩ = some (.slice (some ⟨b, off, none⟩) nb kb) ∧ w'.cell? ⟨y, 0, none⟩ = some (.int .i64 p) ∧ w'.cell? ⟨y, 1, none⟩ = some (.int .i64 q)) (by kernel_rfl) (⟨c0, e0, e1⟩) (fun hHeld => ?_)
          refine wpAnyH_take (i := 0) (v := ?_) (takeL rfl) (by kernel_rfl) (by kernel_rfl) (by kernel_rfl) (fun _ _ _ h => h) (Or.inl ⟨by rfl, ?_⟩) (by assumption) ?_
          rotate_left
          · (intro w hSw; (try dsimp only at hSw); first | (go_simp; done) | (go_simp; with_reducible rfl))
          try simp only [Act.put, List.setIfInBounds_toArray, List.set_cons_zero, List.set_cons_succ]
          refine wpAnyH_ready (rs := [1]) (by kernel_rfl) (by simp) ?_
          refine AllReadyH.cons (takeL rfl) (fun K hK => ?_) AllReadyH.nil
          go_simp
          refine (check_any p q true hC _).mono ?_; rintro e w4 ⟨rfl, hB4⟩
          go_wp2_with fail
          refine hK.out _ _ (KEEP.out _ hB4) (fun hHeld => ?_)
          clear hK K
          refine wpAnyH_take (i := 2) (v := ?_) (takeL rfl) (by kernel_rfl) (by kernel_rfl) (by kernel_rfl) (fun _ _ _ h => h) (Or.inl ⟨by rfl, ?_⟩) (by assumption) ?_
          rotate_left
          · (intro w hSw; (try dsimp only at hSw); first | (go_simp; done) | (go_simp; with_reducible rfl))
          try simp only [Act.put, List.setIfInBounds_toArray, List.set_cons_zero, List.set_cons_succ]
          refine wpAnyH_take (i := 3) (v := ?_) (takeL rfl) (by kernel_rfl) (by kernel_rfl) (by kernel_rfl) (fun _ _ _ h => h) (Or.inl ⟨by rfl, ?_⟩) (by assumption) ?_
          rotate_left
          · (intro w hSw; (try dsimp only at hSw); first | (go_simp; done) | (go_simp; with_reducible rfl))
          try simp only [Act.put, List.setIfInBounds_toArray, List.set_cons_zero, List.set_cons_succ]
          refine wpAnyH_take (i := 4) (v := ?_) (takeL rfl) (by kernel_rfl) (by kernel_rfl) (by kernel_rfl) (fun _ _ _ h => h) (Or.inl ⟨by rfl, ?_⟩) (by assumption) ?_
          rotate_left
          · (intro w hSw; (try dsimp only at hSw); first | (go_simp; done) | (go_simp; with_reducible rfl))
          try simp only [Act.put, List.setIfInBounds_toArray, List.set_cons_zero, List.set_cons_succ]
          refine wpAnyH_take (i := 5) (v := ?_) (takeL rfl) (by kernel_rfl) (by kernel_rfl) (by kernel_rfl) (fun _ _ _ h => h) (Or.inl ⟨by rfl, ?_⟩) (by assumption) ?_
          rotate_left
          · (intro w hSw; (try dsimp only at hSw); first | (go_simp; done) | (go_simp; with_reducible rfl))
          try simp only [Act.put, List.setIfInBounds_toArray, List.set_cons_zero, List.set_cons_succ]
          refine wpAnyH_take (i := 6) (v := ?_) (takeL rfl) (by kernel_rfl) (by kernel_rfl) (by kernel_rfl) (fun _ _ _ h => h) (Or.inl ⟨by rfl, ?_⟩) (by assumption) ?_
          rotate_left
          · (intro w hSw; (try dsimp only at hSw); first | (go_simp; done) | (go_simp; with_reducible rfl))
          try simp only [Act.put, List.setIfInBounds_toArray, List.set_cons_zero, List.set_cons_succ]
          refine wpAnyH_take (i := 7) (v := undef) (takeL rfl) (by kernel_rfl) (by kernel_rfl) (by kernel_rfl) (fun _ _ _ h => h) (Or.inr ⟨by rfl, rfl⟩) (by assumption) ?_
          try simp only [Act.put, List.setIfInBounds_toArray, List.set_cons_zero, List.set_cons_succ]
          refine wpAnyH_take (i := 8) (v := undef) (takeL rfl) (by kernel_rfl) (by kernel_rfl) (by kernel_rfl) (fun _ _ _ h => h) (Or.inr ⟨by rfl, rfl⟩) (by assumption) ?_
          try simp only [Act.put, List.setIfInBounds_toArray, List.set_cons_zero, List.set_cons_succ]
          refine wpAnyH_take (i := 9) (v := undef) (takeL rfl) (by kernel_rfl) (by kernel_rfl) (by kernel_rfl) (fun _ _ _ h => h) (Or.inr ⟨by rfl, rfl⟩) (by assumption) ?_
          try simp only [Act.put, List.setIfInBounds_toArray, List.set_cons_zero, List.set_cons_succ]
          refine wpAnyH_take (i := 10) (v := undef) (takeL rfl) (by kernel_rfl) (by kernel_rfl) (by kernel_rfl) (fun _ _ _ h => h) (Or.inr ⟨by rfl, rfl⟩) (by assumption) ?_
          try simp only [Act.put, List.setIfInBounds_toArray, List.set_cons_zero, List.set_cons_succ]
          refine wpAnyH_take (i := 11) (v := undef) (takeL rfl) (by kernel_rfl) (by kernel_rfl) (by kernel_rfl) (fun _ _ _ h => h) (Or.inr ⟨by rfl, rfl⟩) (by assumption) ?_
          try simp only [Act.put, List.setIfInBounds_toArray, List.set_cons_zero, List.set_cons_succ]
          refine wpAnyH_take (i := 12) (v := undef) (takeL rfl) (by kernel_rfl) (by kernel_rfl) (by kernel_rfl) (fun _ _ _ h => h) (Or.inr ⟨by rfl, rfl⟩) (by assumption) ?_
          try simp only [Act.put, List.setIfInBounds_toArray, List.set_cons_zero, List.set_cons_succ]
          refine wpAnyH_take (i := 13) (v := undef) (takeL rfl) (by kernel_rfl) (by kernel_rfl) (by kernel_rfl) (fun _ _ _ h => h) (Or.inr ⟨by rfl, rfl⟩) (by assumption) ?_
          try simp only [Act.put, List.setIfInBounds_toArray, List.set_cons_zero, List.set_cons_succ]
          refine wpAnyH_take (i := 14) (v := undef) (takeL rfl) (by kernel_rfl) (by kernel_rfl) (by kernel_rfl) (fun _ _ _ h => h) (Or.inr ⟨by rfl, rfl⟩) (by assumption) ?_
          try simp only [Act.put, List.setIfInBounds_toArray, List.set_cons_zero, List.set_cons_succ]
          refine wpAnyH_take (i := 15) (v := undef) (takeL rfl) (by kernel_rfl) (by kernel_rfl) (by kernel_rfl) (fun _ _ _ h => h) (Or.inr ⟨by rfl, rfl⟩) (by assumption) ?_
          try simp only [Act.put, List.setIfInBounds_toArray, List.set_cons_zero, List.set_cons_succ]
          refine wpAnyH_take (i := 16) (v := undef) (takeL rfl) (by kernel_rfl) (by kernel_rfl) (by kernel_rfl) (fun _ _ _ h => h) (Or.inr ⟨by rfl, rfl⟩) (by assumption) ?_
          try simp only [Act.put, List.setIfInBounds_toArray, List.set_cons_zero, List.set_cons_succ]
          refine wpAnyH_take (i := 17) (v := ?_) (takeL rfl) (by kernel_rfl) (by kernel_rfl) (by kernel_rfl) (fun _ _ _ h => h) (Or.inl ⟨by rfl, ?_⟩) (by assumption) ?_
          rotate_left
          · (intro w hSw; (try dsimp only at hSw); first | (go_simp; done) | (go_simp; with_reducible rfl))
          try simp only [Act.put, List.setIfInBounds_toArray, List.set_cons_zero, List.set_cons_succ]
          refine wpAnyH_take (i := 18) (v := ?_) (takeL rfl) (by kernel_rfl) (by kernel_rfl) (by kernel_rfl) (fun _ _ _ h => h) (Or.inl ⟨by rfl, ?_⟩) (by assumption) ?_
          rotate_left
          · (intro w hSw; (try dsimp only at hSw); first | (go_simp; done) | (go_simp; with_reducible rfl))
          try simp only [Act.put, List.setIfInBounds_toArray, List.set_cons_zero, List.set_cons_succ]
          refine wpAnyH_done (by kernel_rfl) ?_ _
          refine NoPanic.normal ?_
          go_wp2_with fail
          go_roundw
          case rel => exact ⟨k + 1, by omega, by go_num, bNext (bDrew HB3.out) hB4, HI⟩
          case measure => simp [intOf]; omega
        · obtain ⟨m, hkm⟩ : ∃ m, k = m + 1 := ⟨k - 1, by omega⟩
          have hmk : m < k := by omega
          have hmn : m < nb := by omega
          have hwm : IntKind.i64.wrap ((k : Int) - 1) = (m : Int) := by rw [IntKind.wrap_i64]; omega
          have hk1 : 0 < k := by omega
          have hk2 : decide (0 < k) = true := decide_eq_true hk1
          have hk3 : decide ((0 : Int) < (k : Int)) = true := decide_eq_true (by omega)
          obtain ⟨b', off', p', q', hb', hbl', f0, _, hp'⟩ := (HS1.out.below HB3.out).get m (by rw [hn.out]; exact hmn)
          cases hb'
          obtain ⟨N, hN⟩ := nm (p' == p)
          have hN2 : (p' == p) = N := hN.out.symm
          have HKM : Hid (k = m + 1) := hkm
          have hbl3 : Hid (b < w3.heap.size) := hbl'
          clear hkm hk0
          have KEEP : Hid (∀ wb : World, Below w3.drew.heap.size w3.drew wb → wb.cell? ⟨x, 0, none⟩ = some (.slice (some ⟨b, off, none⟩) nb kb) ∧ wb.cell? ⟨y, 0, none⟩ = some (.int .i64 p) ∧ wb.cell? ⟨y, 1, none⟩ = some (.int .i64 q) ∧ wb.cell? ⟨b, off + m * 2, none⟩ = some (.int .i64 p')) := by
            show ∀ wb : World, _
            intro wb h
            have h1 := Blk.below (w := w3.drew) Kx3.out h Kx3.out.lt
            have h2 := Blk.below (w := w3.drew) Ky.out h Ky.out.lt
            exact ⟨h1.cell 0, h2.cell 0, h2.cell 1, (h.cell (p := ⟨b, off + m * 2, none⟩) hbl3.out).trans f0⟩
          go_wp2_with fail
          rw [← hw3.out, ← hy.out]
          cases N
          · have HI : Hid (Chk dotP (fun y x => y.1 ≠ x.1) bs (k + 1)) := by
              show Chk _ _ _ _
              have h1 := hI.out
              have h2 := hp.out
              rw [HKM.out] at h1 h2 ⊢
              exact Chk.next h1 h2 hC.out.symm hp'.out (by simpa using hN2)
            refine wp_region_noPanic ?_
            refine wp_region_held_drew (S := fun w' => w'.cell? ⟨x, 0, none⟩ = some (.slice (some ⟨b, off, none⟩) nb kb) ∧ w'.cell? ⟨y, 0, none⟩ = some (.int .i64 p) ∧ w'.cell? ⟨y, 1, none⟩ = some (.int .i64 q) ∧ w'.cell? ⟨b, off + m * 2, none⟩ = some (.int .i64 p')) (by kernel_rfl) (⟨c0, e0, e1, f0⟩) (fun hHeld => ?_)
            refine wpAnyH_take (i := 0) (v := ?_) (takeL rfl) (by kernel_rfl) (by kernel_rfl) (by kernel_rfl) (fun _ _ _ h => h) (Or.inl ⟨by rfl, ?_⟩) (by assumption) ?_
            rotate_left
            · (intro w hSw; (try dsimp only at hSw); first | (go_simp; done) | (go_simp; with_reducible rfl))
            try simp only [Act.put, List.setIfInBounds_toArray, List.set_cons_zero, List.set_cons_succ]
            refine wpAnyH_ready (rs := [1]) (by kernel_rfl) (by simp) ?_
            refine AllReadyH.cons (takeL rfl) (fun K hK => ?_) AllReadyH.nil
            go_simp
            refine (check_any p q true hC _).mono ?_; rintro e w4 ⟨rfl, hB4⟩
            go_wp2_with fail
            refine hK.out _ _ (KEEP.out _ hB4) (fun hHeld => ?_)
            clear hK K
            refine wpAnyH_take (i := 2) (v := ?_) (takeL rfl) (by kernel_rfl) (by kernel_rfl) (by kernel_rfl) (fun _ _ _ h => h) (Or.inl ⟨by rfl, ?_⟩) (by assumption) ?_
            rotate_left
            · (intro w hSw; (try dsimp only at hSw); first | (go_simp; done) | (go_simp; with_reducible rfl))
            try simp only [Act.put, List.setIfInBounds_toArray, List.set_cons_zero, List.set_cons_succ]
            refine wpAnyH_take (i := 3) (v := ?_) (takeL rfl) (by kernel_rfl) (by kernel_rfl) (by kernel_rfl) (fun _ _ _ h => h) (Or.inl ⟨by rfl, ?_⟩) (by assumption) ?_
            rotate_left
            · (intro w hSw; (try dsimp only at hSw); first | (go_simp; done) | (go_simp; with_reducible rfl))
            try simp only [Act.put, List.setIfInBounds_toArray, List.set_cons_zero, List.set_cons_succ]
            refine wpAnyH_take (i := 4) (v := ?_) (takeL rfl) (by kernel_rfl) (by kernel_rfl) (by kernel_rfl) (fun _ _ _ h => h) (Or.inl ⟨by rfl, ?_⟩) (by assumption) ?_
            rotate_left
            · (intro w hSw; (try dsimp only at hSw); first | (go_simp; done) | (go_simp; with_reducible rfl))
            try simp only [Act.put, List.setIfInBounds_toArray, List.set_cons_zero, List.set_cons_succ]
            refine wpAnyH_take (i := 5) (v := ?_) (takeL rfl) (by kernel_rfl) (by kernel_rfl) (by kernel_rfl) (fun _ _ _ h => h) (Or.inl ⟨by rfl, ?_⟩) (by assumption) ?_
            rotate_left
            · (intro w hSw; (try dsimp only at hSw); first | (go_simp; done) | (go_simp; with_reducible rfl))
            try simp only [Act.put, List.setIfInBounds_toArray, List.set_cons_zero, List.set_cons_succ]
            refine wpAnyH_take (i := 6) (v := ?_) (takeL rfl) (by kernel_rfl) (by kernel_rfl) (by kernel_rfl) (fun _ _ _ h => h) (Or.inl ⟨by rfl, ?_⟩) (by assumption) ?_
            rotate_left
            · (intro w hSw; (try dsimp only at hSw); first | (go_simp; done) | (go_simp; with_reducible rfl))
            try simp only [Act.put, List.setIfInBounds_toArray, List.set_cons_zero, List.set_cons_succ]
            refine wpAnyH_take (i := 7) (v := ?_) (takeL rfl) (by kernel_rfl) (by kernel_rfl) (by kernel_rfl) (fun _ _ _ h => h) (Or.inl ⟨by rfl, ?_⟩) (by assumption) ?_
            rotate_left
            · (intro w hSw; (try dsimp only at hSw); first | (go_simp; done) | (go_simp; with_reducible rfl))
            try simp only [Act.put, List.setIfInBounds_toArray, List.set_cons_zero, List.set_cons_succ]
            refine wpAnyH_take (i := 8) (v := ?_) (takeL rfl) (by kernel_rfl) (by kernel_rfl) (by kernel_rfl) (fun _ _ _ h => h) (Or.inl ⟨by rfl, ?_⟩) (by assumption) ?_
            rotate_left
            · (intro w hSw; (try dsimp only at hSw); first | (go_simp; done) | (go_simp; with_reducible rfl))
            try simp only [Act.put, List.setIfInBounds_toArray, List.set_cons_zero, List.set_cons_succ]
            refine wpAnyH_take (i := 9) (v := ?_) (takeL rfl) (by kernel_rfl) (by kernel_rfl) (by kernel_rfl) (fun _ _ _ h => h) (Or.inl ⟨by rfl, ?_⟩) (by assumption) ?_
            rotate_left
            · (intro w hSw; (try dsimp only at hSw); first | (go_simp; done) | (go_simp; with_reducible rfl))
            try simp only [Act.put, List.setIfInBounds_toArray, List.set_cons_zero, List.set_cons_succ]
            refine wpAnyH_take (i := 10) (v := ?_) (takeL rfl) (by kernel_rfl) (by kernel_rfl) (by kernel_rfl) (fun _ _ _ h => h) (Or.inl ⟨by rfl, ?_⟩) (by assumption) ?_
            rotate_left
            · (intro w hSw; (try dsimp only at hSw); first | (go_simp; done) | (go_simp; with_reducible rfl))
            try simp only [Act.put, List.setIfInBounds_toArray, List.set_cons_zero, List.set_cons_succ]
            refine wpAnyH_take (i := 11) (v := ?_) (takeL rfl) (by kernel_rfl) (by kernel_rfl) (by kernel_rfl) (fun _ _ _ h => h) (Or.inl ⟨by rfl, ?_⟩) (by assumption) ?_
            rotate_left
            · (intro w hSw; (try dsimp only at hSw); first | (go_simp; done) | (go_simp; with_reducible rfl))
            try simp only [Act.put, List.setIfInBounds_toArray, List.set_cons_zero, List.set_cons_succ]
            refine wpAnyH_take (i := 12) (v := ?_) (takeL rfl) (by kernel_rfl) (by kernel_rfl) (by kernel_rfl) (fun _ _ _ h => h) (Or.inl ⟨by rfl, ?_⟩) (by assumption) ?_
            rotate_left
            · (intro w hSw; (try dsimp only at hSw); first | (go_simp; done) | (go_simp; with_reducible rfl))
            try simp only [Act.put, List.setIfInBounds_toArray, List.set_cons_zero, List.set_cons_succ]
            refine wpAnyH_take (i := 13) (v := ?_) (takeL rfl) (by kernel_rfl) (by kernel_rfl) (by kernel_rfl) (fun _ _ _ h => h) (Or.inl ⟨by rfl, ?_⟩) (by assumption) ?_
            rotate_left
            · (intro w hSw; (try dsimp only at hSw); first | (go_simp; done) | (go_simp; with_reducible rfl))
            try simp only [Act.put, List.setIfInBounds_toArray, List.set_cons_zero, List.set_cons_succ]
            refine wpAnyH_take (i := 14) (v := ?_) (takeL rfl) (by kernel_rfl) (by kernel_rfl) (by kernel_rfl) (fun _ _ _ h => h) (Or.inl ⟨by rfl, ?_⟩) (by assumption) ?_
            rotate_left
            · (intro w hSw; (try dsimp only at hSw); first | (go_simp; done) | (go_simp; with_reducible rfl))
            try simp only [Act.put, List.setIfInBounds_toArray, List.set_cons_zero, List.set_cons_succ]
            refine wpAnyH_take (i := 15) (v := ?_) (takeL rfl) (by kernel_rfl) (by kernel_rfl) (by kernel_rfl) (fun _ _ _ h => h) (Or.inl ⟨by rfl, ?_⟩) (by assumption) ?_
            rotate_left
            · (intro w hSw; (try dsimp only at hSw); first | (go_simp; done) | (go_simp; with_reducible rfl))
            try simp only [Act.put, List.setIfInBounds_toArray, List.set_cons_zero, List.set_cons_succ]
            refine wpAnyH_take (i := 16) (v := ?_) (takeL rfl) (by kernel_rfl) (by kernel_rfl) (by kernel_rfl) (fun _ _ _ h => h) (Or.inl ⟨by rfl, ?_⟩) (by assumption) ?_
            rotate_left
            · (intro w hSw; (try dsimp only at hSw); first | (go_simp; done) | (go_simp; with_reducible rfl))
            try simp only [Act.put, List.setIfInBounds_toArray, List.set_cons_zero, List.set_cons_succ]
            refine wpAnyH_take (i := 17) (v := ?_) (takeL rfl) (by kernel_rfl) (by kernel_rfl) (by kernel_rfl) (fun _ _ _ h => h) (Or.inl ⟨by rfl, ?_⟩) (by assumption) ?_
            rotate_left
            · (intro w hSw; (try dsimp only at hSw); first | (go_simp; done) | (go_simp; with_reducible rfl))
            try simp only [Act.put, List.setIfInBounds_toArray, List.set_cons_zero, List.set_cons_succ]
            refine wpAnyH_take (i := 18) (v := ?_) (takeL rfl) (by kernel_rfl) (by kernel_rfl) (by kernel_rfl) (fun _ _ _ h => h) (Or.inl ⟨by rfl, ?_⟩) (by assumption) ?_
            rotate_left
            · (intro w hSw; (try dsimp only at hSw); first | (go_simp; done) | (go_simp; with_reducible rfl))
            try simp only [Act.put, List.setIfInBounds_toArray, List.set_cons_zero, List.set_cons_succ]
            refine wpAnyH_done (by kernel_rfl) ?_ _
            refine NoPanic.normal ?_
            go_wp2_with fail
            go_roundw
            case rel => exact ⟨k + 1, by omega, by go_num, bNext (bDrew HB3.out) hB4, HI⟩
            case measure => simp [intOf]; omega
          · obtain rfl : r = false := notB hr.out fun h => by
              have h2 := hp.out
              have h3 := hlt
              rw [HKM.out] at h2 h3
              exact Chk.not_r (r := fun y x => y.1 ≠ x.1) (by rw [hn.out]; exact h3) h2 hp'.out (by simpa using hN2) h.base
            obtain rfl := hE.out
            refine wp_region_noPanic ?_
            refine wp_region_held_drew (S := fun w' => w'.cell? ⟨x, 0, none⟩ = some (.slice (some ⟨b, off, none⟩) nb kb) ∧ w'.cell? ⟨y, 0, none⟩ = some (.int .i64 p) ∧ w'.cell? ⟨y, 1, none⟩ = some (.int .i64 q) ∧ w'.cell? ⟨b, off + m * 2, none⟩ = some (.int .i64 p')) (by kernel_rfl) (⟨c0, e0, e1, f0⟩) (fun hHeld => ?_)
            refine wpAnyH_take (i := 0) (v := ?_) (takeL rfl) (by kernel_rfl) (by kernel_rfl) (by kernel_rfl) (fun _ _ _ h => h) (Or.inl ⟨by rfl, ?_⟩) (by assumption) ?_
            rotate_left
            · (intro w hSw; (try dsimp only at hSw); first | (go_simp; done) | (go_simp; with_reducible rfl))
            try simp only [Act.put, List.setIfInBounds_toArray, List.set_cons_zero, List.set_cons_succ]
            refine wpAnyH_ready (rs := [1]) (by kernel_rfl) (by simp) ?_
            refine AllReadyH.cons (takeL rfl) (fun K hK => ?_) AllReadyH.nil
            go_simp
            refine (check_any p q true hC _).mono ?_; rintro e w4 ⟨rfl, hB4⟩
            go_wp2_with fail
            refine hK.out _ _ (KEEP.out _ hB4) (fun hHeld => ?_)
            clear hK K
            refine wpAnyH_take (i := 2) (v := ?_) (takeL rfl) (by kernel_rfl) (by kernel_rfl) (by kernel_rfl) (fun _ _ _ h => h) (Or.inl ⟨by rfl, ?_⟩) (by assumption) ?_
            rotate_left
            · (intro w hSw; (try dsimp only at hSw); first | (go_simp; done) | (go_simp; with_reducible rfl))
            try simp only [Act.put, List.setIfInBounds_toArray, List.set_cons_zero, List.set_cons_succ]
            refine wpAnyH_take (i := 3) (v := ?_) (takeL rfl) (by kernel_rfl) (by kernel_rfl) (by kernel_rfl) (fun _ _ _ h => h) (Or.inl ⟨by rfl, ?_⟩) (by assumption) ?_
            rotate_left
            · (intro w hSw; (try dsimp only at hSw); first | (go_simp; done) | (go_simp; with_reducible rfl))
            try simp only [Act.put, List.setIfInBounds_toArray, List.set_cons_zero, List.set_cons_succ]
            refine wpAnyH_take (i := 4) (v := ?_) (takeL rfl) (by kernel_rfl) (by kernel_rfl) (by kernel_rfl) (fun _ _ _ h => h) (Or.inl ⟨by rfl, ?_⟩) (by assumption) ?_
            rotate_left
            · (intro w hSw; (try dsimp only at hSw); first | (go_simp; done) | (go_simp; with_reducible rfl))
            try simp only [Act.put, List.setIfInBounds_toArray, List.set_cons_zero, List.set_cons_succ]
            refine wpAnyH_take (i := 5) (v := ?_) (takeL rfl) (by kernel_rfl) (by kernel_rfl) (by kernel_rfl) (fun _ _ _ h => h) (Or.inl ⟨by rfl, ?_⟩) (by assumption) ?_
            rotate_left
            · (intro w hSw; (try dsimp only at hSw); first | (go_simp; done) | (go_simp; with_reducible rfl))
            try simp only [Act.put, List.setIfInBounds_toArray, List.set_cons_zero, List.set_cons_succ]
            refine wpAnyH_take (i := 6) (v := ?_) (takeL rfl) (by kernel_rfl) (by kernel_rfl) (by kernel_rfl) (fun _ _ _ h => h) (Or.inl ⟨by rfl, ?_⟩) (by assumption) ?_
            rotate_left
            · (intro w hSw; (try dsimp only at hSw); first | (go_simp; done) | (go_simp; with_reducible rfl))
            try simp only [Act.put, List.setIfInBounds_toArray, List.set_cons_zero, List.set_cons_succ]
            refine wpAnyH_take (i := 7) (v := ?_) (takeL rfl) (by kernel_rfl) (by kernel_rfl) (by kernel_rfl) (fun _ _ _ h => h) (Or.inl ⟨by rfl, ?_⟩) (by assumption) ?_
            rotate_left
            · (intro w hSw; (try dsimp only at hSw); first | (go_simp; done) | (go_simp; with_reducible rfl))
            try simp only [Act.put, List.setIfInBounds_toArray, List.set_cons_zero, List.set_cons_succ]
            refine wpAnyH_take (i := 8) (v := ?_) (takeL rfl) (by kernel_rfl) (by kernel_rfl) (by kernel_rfl) (fun _ _ _ h => h) (Or.inl ⟨by rfl, ?_⟩) (by assumption) ?_
            rotate_left
            · (intro w hSw; (try dsimp only at hSw); first | (go_simp; done) | (go_simp; with_reducible rfl))
            try simp only [Act.put, List.setIfInBounds_toArray, List.set_cons_zero, List.set_cons_succ]
            refine wpAnyH_take (i := 9) (v := ?_) (takeL rfl) (by kernel_rfl) (by kernel_rfl) (by kernel_rfl) (fun _ _ _ h => h) (Or.inl ⟨by rfl, ?_⟩) (by assumption) ?_
            rotate_left
            · (intro w hSw; (try dsimp only at hSw); first | (go_simp; done) | (go_simp; with_reducible rfl))
            try simp only [Act.put, List.setIfInBounds_toArray, List.set_cons_zero, List.set_cons_succ]
            refine wpAnyH_take (i := 10) (v := ?_) (takeL rfl) (by kernel_rfl) (by kernel_rfl) (by kernel_rfl) (fun _ _ _ h => h) (Or.inl ⟨by rfl, ?_⟩) (by assumption) ?_
            rotate_left
            · (intro w hSw; (try dsimp only at hSw); first | (go_simp; done) | (go_simp; with_reducible rfl))
            try simp only [Act.put, List.setIfInBounds_toArray, List.set_cons_zero, List.set_cons_succ]
            refine wpAnyH_take (i := 11) (v := ?_) (takeL rfl) (by kernel_rfl) (by kernel_rfl) (by kernel_rfl) (fun _ _ _ h => h) (Or.inl ⟨by rfl, ?_⟩) (by assumption) ?_
            rotate_left
            · (intro w hSw; (try dsimp only at hSw); first | (go_simp; done) | (go_simp; with_reducible rfl))
            try simp only [Act.put, List.setIfInBounds_toArray, List.set_cons_zero, List.set_cons_succ]
            refine wpAnyH_take (i := 12) (v := ?_) (takeL rfl) (by kernel_rfl) (by kernel_rfl) (by kernel_rfl) (fun _ _ _ h => h) (Or.inl ⟨by rfl, ?_⟩) (by assumption) ?_
            rotate_left
            · (intro w hSw; (try dsimp only at hSw); first | (go_simp; done) | (go_simp; with_reducible rfl))
            try simp only [Act.put, List.setIfInBounds_toArray, List.set_cons_zero, List.set_cons_succ]
            refine wpAnyH_take (i := 13) (v := ?_) (takeL rfl) (by kernel_rfl) (by kernel_rfl) (by kernel_rfl) (fun _ _ _ h => h) (Or.inl ⟨by rfl, ?_⟩) (by assumption) ?_
            rotate_left
            · (intro w hSw; (try dsimp only at hSw); first | (go_simp; done) | (go_simp; with_reducible rfl))
            try simp only [Act.put, List.setIfInBounds_toArray, List.set_cons_zero, List.set_cons_succ]
            refine wpAnyH_take (i := 14) (v := ?_) (takeL rfl) (by kernel_rfl) (by kernel_rfl) (by kernel_rfl) (fun _ _ _ h => h) (Or.inl ⟨by rfl, ?_⟩) (by assumption) ?_
            rotate_left
            · (intro w hSw; (try dsimp only at hSw); first | (go_simp; done) | (go_simp; with_reducible rfl))
            try simp only [Act.put, List.setIfInBounds_toArray, List.set_cons_zero, List.set_cons_succ]
            refine wpAnyH_take (i := 15) (v := ?_) (takeL rfl) (by kernel_rfl) (by kernel_rfl) (by kernel_rfl) (fun _ _ _ h => h) (Or.inl ⟨by rfl, ?_⟩) (by assumption) ?_
            rotate_left
            · (intro w hSw; (try dsimp only at hSw); first | (go_simp; done) | (go_simp; with_reducible rfl))
            try simp only [Act.put, List.setIfInBounds_toArray, List.set_cons_zero, List.set_cons_succ]
            refine wpAnyH_take (i := 16) (v := ?_) (takeL rfl) (by kernel_rfl) (by kernel_rfl) (by kernel_rfl) (fun _ _ _ h => h) (Or.inl ⟨by rfl, ?_⟩) (by assumption) ?_
            rotate_left
            · (intro w hSw; (try dsimp only at hSw); first | (go_simp; done) | (go_simp; with_reducible rfl))
            try simp only [Act.put, List.setIfInBounds_toArray, List.set_cons_zero, List.set_cons_succ]
            refine wpAnyH_take (i := 17) (v := ?_) (takeL rfl) (by kernel_rfl) (by kernel_rfl) (by kernel_rfl) (fun _ _ _ h => h) (Or.inl ⟨by rfl, ?_⟩) (by assumption) ?_
            rotate_left
            · (intro w hSw; (try dsimp only at hSw); first | (go_simp; done) | (go_simp; with_reducible rfl))
            try simp only [Act.put, List.setIfInBounds_toArray, List.set_cons_zero, List.set_cons_succ]
            refine wpAnyH_take (i := 18) (v := ?_) (takeL rfl) (by kernel_rfl) (by kernel_rfl) (by kernel_rfl) (fun _ _ _ h => h) (Or.inl ⟨by rfl, ?_⟩) (by assumption) ?_
            rotate_left
            · (intro w hSw; (try dsimp only at hSw); first | (go_simp; done) | (go_simp; with_reducible rfl))
            try simp only [Act.put, List.setIfInBounds_toArray, List.set_cons_zero, List.set_cons_succ]
            refine wpAnyH_done (by kernel_rfl) ?_ _
            refine NoPanic.normal ?_
            go_wp2_with fail
            go_ret
            exact ⟨rfl, bNext (bDrew HB03.out) hB4⟩
    · obtain rfl : k = nb := by omega
      rename World => wE
      replace Kx := Lib.hid (Kx.out.below hB Kx.out.lt)
      replace HB0 := Lib.hid (bNext HB0.out hB)
      replace HS1 := Lib.hid (HS1.out.below hB)
      replace HS2 := Lib.hid (HS2.out.below hB)
      have HBS : Hid (Chk dotP (fun y x => y.1 ≠ x.1) bs bs.length) := by rw [hn.out]; exact hI.out
      have HBA : Hid (∀ x ∈ bs, dotP x) := HBS.out.all (Nat.le_refl _)
      have c1 : wE.cell? ⟨x, 1, none⟩ = some (.slice ac nc kc) := Kx.out.cell 1
      clear hB hI
      go_wp2_with fail
      clear c1
      go_loopw [48] (fun i wr => ∃ k : Nat, k ≤ nc ∧ i = .int .i64 (k : Int) ∧ Below wE.heap.size wE wr ∧ Hid (Chk (fun x => dotP x ∧ uptoD bs x.1 + 1 < x.2) (fun _ _ => True) cl k)) (fun i _ => nc - (intOf i).toNat)
      case atStart => exact ⟨0, by omega, rfl, Below.refl _ _, Lib.hid Chk.zero⟩
      case round =>
        obtain ⟨j, hj, rfl, hB, hI⟩ := hrel
        by_cases hlt : j < nc
        · obtain ⟨b, off, p, q, rfl, hbl, d0, d1, hp⟩ := (HS2.out.below hB).get j (by rw [hn2.out]; exact hlt)
          obtain ⟨z, hz⟩ := nm wr.heap.size
          obtain ⟨w3, hw3⟩ := nm (wr.alloc (.cells #[.int .i64 p, .int .i64 q] 31))
          have Kz : Hid (Blk w3 z #[.int .i64 p, .int .i64 q] 31) := blkN hw3.out hz.out
          have Kx3 : Hid (Blk w3 x #[.slice ab k kb, .slice (some ⟨b, off, none⟩) nc kc] 25) := by show Blk _ _ _ _; rw [hw3.out]; exact (Kx.out.below hB Kx.out.lt).alloc _
          have HB3 : Hid (Below wE.heap.size wE w3) := by rw [hw3.out]; exact bNew hB _
          have HB03 : Hid (Below w.heap.size w w3) := bNext HB0.out HB3.out
          have HSB : Hid (SlP w3 ab bs) := HS1.out.below HB3.out
          obtain ⟨C, hC⟩ := nm (okD p q)
          obtain ⟨u, hu⟩ := nm (uptoD bs p)
          have c0 : w3.cell? ⟨x, 0, none⟩ = some (.slice ab k kb) := Kx3.out.cell 0
          have c1 : w3.cell? ⟨x, 1, none⟩ = some (.slice (some ⟨b, off, none⟩) nc kc) := Kx3.out.cell 1
          have e0 : w3.cell? ⟨z, 0, none⟩ = some (.int .i64 p) := Kz.out.cell 0
          have e1 : w3.cell? ⟨z, 1, none⟩ = some (.int .i64 q) := Kz.out.cell 1
          have hub := uptoD_le (bs := bs) (z := p) HBA.out
          rw [← hu.out] at hub
          have hw1 : IntKind.i64.wrap (u + 1) = u + 1 := by rw [IntKind.wrap_i64]; omega
          clear hB hub
          have KEEP : Hid (∀ wb : World, Below w3.drew.heap.size w3.drew wb → wb.cell? ⟨x, 0, none⟩ = some (.slice ab k kb) ∧ wb.cell? ⟨x, 1, none⟩ = some (.slice (some ⟨b, off, none⟩) nc kc) ∧ wb.cell? ⟨z, 0, none⟩ = some (.int .i64 p) ∧ wb.cell? ⟨z, 1, none⟩ = some (.int .i64 q)) := by
            show ∀ wb : World, _
            intro wb h
            have h1 := Blk.below (w := w3.drew) Kx3.out h Kx3.out.lt
            have h2 := Blk.below (w := w3.drew) Kz.out h Kz.out.lt
            exact ⟨h1.cell 0, h1.cell 1, h2.cell 0, h2.cell 1⟩
          go_wp2_with fail
          rw [← hw3.out, ← hz.out]
          cases C
          · obtain rfl : r = false := notB hr.out fun h => by
              have := (h.cloud _ (List.mem_of_getElem? hp.out)).1
              rw [dotP, ← hC.out] at this
              cases this
            obtain rfl := hE.out
            refine wp_region_held_drew (S := fun w' => w'.cell? ⟨x, 0, none⟩ = some (.slice ab k kb) ∧ w'.cell? ⟨x, 1, none⟩ = some (.slice (some ⟨b, off, none⟩) nc kc) ∧ w'.cell? ⟨z, 0, none⟩ = some (.int .i64 p) ∧ w'.cell? ⟨z, 1, none⟩ = some (.int .i64 q)) (by kernel_rfl) (⟨c0, c1, e0, e1⟩) (fun hHeld => ?_)
            refine wpAnyH_take (i := 0) (v := ?_) (takeL rfl) (by kernel_rfl) (by kernel_rfl) (by kernel_rfl) (fun _ _ _ h => h) (Or.inl ⟨by rfl, ?_⟩) (by assumption) ?_
            rotate_left
            · (intro w hSw; (try dsimp only at hSw); first | (go_simp; done) | (go_simp; with_reducible rfl))
            try simp only [Act.put, List.setIfInBounds_toArray, List.set_cons_zero, List.set_cons_succ]
            refine wpAnyH_ready (rs := [1]) (by kernel_rfl) (by simp) ?_
            refine AllReadyH.cons (takeL rfl) (fun K hK => ?_) AllReadyH.nil
            go_simp
            refine (check_any p q false hC _).mono ?_; rintro e w4 ⟨rfl, hB4⟩
            go_wp2_with fail
            refine hK.out _ _ (KEEP.out _ hB4) (fun hHeld => ?_)
            clear hK K
            refine wpAnyH_take (i := 2) (v := ?_) (takeL rfl) (by kernel_rfl) (by kernel_rfl) (by kernel_rfl) (fun _ _ _ h => h) (Or.inl ⟨by rfl, ?_⟩) (by assumption) ?_
            rotate_left
            · (intro w hSw; (try dsimp only at hSw); first | (go_simp; done) | (go_simp; with_reducible rfl))
            try simp only [Act.put, List.setIfInBounds_toArray, List.set_cons_zero, List.set_cons_succ]
            refine wpAnyH_take (i := 3) (v := ?_) (takeL rfl) (by kernel_rfl) (by kernel_rfl) (by kernel_rfl) (fun _ _ _ h => h) (Or.inl ⟨by rfl, ?_⟩) (by assumption) ?_
            rotate_left
            · (intro w hSw; (try dsimp only at hSw); first | (go_simp; done) | (go_simp; with_reducible rfl))
            try simp only [Act.put, List.setIfInBounds_toArray, List.set_cons_zero, List.set_cons_succ]
            refine wpAnyH_take (i := 4) (v := undef) (takeL rfl) (by kernel_rfl) (by kernel_rfl) (by kernel_rfl) (fun _ _ _ h => h) (Or.inr ⟨by rfl, rfl⟩) (by assumption) ?_
            try simp only [Act.put, List.setIfInBounds_toArray, List.set_cons_zero, List.set_cons_succ]
            refine wpAnyH_take (i := 5) (v := undef) (takeL rfl) (by kernel_rfl) (by kernel_rfl) (by kernel_rfl) (fun _ _ _ h => h) (Or.inr ⟨by rfl, rfl⟩) (by assumption) ?_
            try simp only [Act.put, List.setIfInBounds_toArray, List.set_cons_zero, List.set_cons_succ]
            refine wpAnyH_take (i := 6) (v := undef) (takeL rfl) (by kernel_rfl) (by kernel_rfl) (by kernel_rfl) (fun _ _ _ h => h) (Or.inr ⟨by rfl, rfl⟩) (by assumption) ?_
            try simp only [Act.put, List.setIfInBounds_toArray, List.set_cons_zero, List.set_cons_succ]
            refine wpAnyH_take (i := 7) (v := undef) (takeL rfl) (by kernel_rfl) (by kernel_rfl) (by kernel_rfl) (fun _ _ _ h => h) (Or.inr ⟨by rfl, rfl⟩) (by assumption) ?_
            try simp only [Act.put, List.setIfInBounds_toArray, List.set_cons_zero, List.set_cons_succ]
            refine wpAnyH_take (i := 8) (v := undef) (takeL rfl) (by kernel_rfl) (by kernel_rfl) (by kernel_rfl) (fun _ _ _ h => h) (Or.inr ⟨by rfl, rfl⟩) (by assumption) ?_
            try simp only [Act.put, List.setIfInBounds_toArray, List.set_cons_zero, List.set_cons_succ]
            refine wpAnyH_take (i := 9) (v := undef) (takeL rfl) (by kernel_rfl) (by kernel_rfl) (by kernel_rfl) (fun _ _ _ h => h) (Or.inr ⟨by rfl, rfl⟩) (by assumption) ?_
            try simp only [Act.put, List.setIfInBounds_toArray, List.set_cons_zero, List.set_cons_succ]
            refine wpAnyH_take (i := 10) (v := undef) (takeL rfl) (by kernel_rfl) (by kernel_rfl) (by kernel_rfl) (fun _ _ _ h => h) (Or.inr ⟨by rfl, rfl⟩) (by assumption) ?_
            try simp only [Act.put, List.setIfInBounds_toArray, List.set_cons_zero, List.set_cons_succ]
            refine wpAnyH_take (i := 11) (v := undef) (takeL rfl) (by kernel_rfl) (by kernel_rfl) (by kernel_rfl) (fun _ _ _ h => h) (Or.inr ⟨by rfl, rfl⟩) (by assumption) ?_
            try simp only [Act.put, List.setIfInBounds_toArray, List.set_cons_zero, List.set_cons_succ]
            refine wpAnyH_take (i := 12) (v := ?_) (takeL rfl) (by kernel_rfl) (by kernel_rfl) (by kernel_rfl) (fun _ _ _ h => h) (Or.inl ⟨by rfl, ?_⟩) (by assumption) ?_
            rotate_left
            · (intro w hSw; (try dsimp only at hSw); first | (go_simp; done) | (go_simp; with_reducible rfl))
            try simp only [Act.put, List.setIfInBounds_toArray, List.set_cons_zero, List.set_cons_succ]
            refine wpAnyH_done (by kernel_rfl) ?_ _
            go_wp2_with fail
            go_ret
            exact ⟨rfl, bNext (bDrew HB03.out) hB4⟩
          · by_cases hq : q ≤ u + 1
            · have hqd : decide (q ≤ u + 1) = true := decide_eq_true hq
              obtain rfl : r = false := notB hr.out fun h => by
                have := (h.cloud _ (List.mem_of_getElem? hp.out)).2
                rw [← hu.out] at this
                simp only at this
                omega
              obtain rfl := hE.out
              refine wp_region_held_drew (S := fun w' => w'.cell? ⟨x, 0, none⟩ = some (.slice ab k kb) ∧ w'.cell? ⟨x, 1, none⟩ = some (.slice (some ⟨b, off, none⟩) nc kc) ∧ w'.cell? ⟨z, 0, none⟩ = some (.int .i64 p) ∧ w'.cell? ⟨z, 1, none⟩ = some (.int .i64 q)) (by kernel_rfl) (⟨c0, c1, e0, e1⟩) (fun hHeld => ?_)
              refine wpAnyH_take (i := 0) (v := ?_) (takeL rfl) (by kernel_rfl) (by kernel_rfl) (by kernel_rfl) (fun _ _ _ h => h) (Or.inl ⟨by rfl, ?_⟩) (by assumption) ?_
              rotate_left
              · (intro w hSw; (try dsimp only at hSw); first | (go_simp; done) | (go_simp; with_reducible rfl))
              try simp only [Act.put, List.setIfInBounds_toArray, List.set_cons_zero, List.set_cons_succ]
              refine wpAnyH_ready (rs := [1]) (by kernel_rfl) (by simp) ?_
              refine AllReadyH.cons (takeL rfl) (fun K hK => ?_) AllReadyH.nil
              go_simp
              refine (check_any p q true hC _).mono ?_; rintro e w4 ⟨rfl, hB4⟩
              go_wp2_with fail
              refine hK.out _ _ (KEEP.out _ hB4) (fun hHeld => ?_)
              clear hK K
              refine wpAnyH_take (i := 2) (v := ?_) (takeL rfl) (by kernel_rfl) (by kernel_rfl) (by kernel_rfl) (fun _ _ _ h => h) (Or.inl ⟨by rfl, ?_⟩) (by assumption) ?_
              rotate_left
              · (intro w hSw; (try dsimp only at hSw); first | (go_simp; done) | (go_simp; with_reducible rfl))
              try simp only [Act.put, List.setIfInBounds_toArray, List.set_cons_zero, List.set_cons_succ]
              refine wpAnyH_take (i := 3) (v := ?_) (takeL rfl) (by kernel_rfl) (by kernel_rfl) (by kernel_rfl) (fun _ _ _ h => h) (Or.inl ⟨by rfl, ?_⟩) (by assumption) ?_
              rotate_left
              · (intro w hSw; (try dsimp only at hSw); first | (go_simp; done) | (go_simp; with_reducible rfl))
              try simp only [Act.put, List.setIfInBounds_toArray, List.set_cons_zero, List.set_cons_succ]
              refine wpAnyH_take (i := 4) (v := ?_) (takeL rfl) (by kernel_rfl) (by kernel_rfl) (by kernel_rfl) (fun _ _ _ h => h) (Or.inl ⟨by rfl, ?_⟩) (by assumption) ?_
              rotate_left
              · (intro w hSw; (try dsimp only at hSw); first | (go_simp; done) | (go_simp; with_reducible rfl))
              try simp only [Act.put, List.setIfInBounds_toArray, List.set_cons_zero, List.set_cons_succ]
              refine wpAnyH_take (i := 5) (v := ?_) (takeL rfl) (by kernel_rfl) (by kernel_rfl) (by kernel_rfl) (fun _ _ _ h => h) (Or.inl ⟨by rfl, ?_⟩) (by assumption) ?_
              rotate_left
              · (intro w hSw; (try dsimp only at hSw); first | (go_simp; done) | (go_simp; with_reducible rfl))
              try simp only [Act.put, List.setIfInBounds_toArray, List.set_cons_zero, List.set_cons_succ]
              refine wpAnyH_take (i := 6) (v := ?_) (takeL rfl) (by kernel_rfl) (by kernel_rfl) (by kernel_rfl) (fun _ _ _ h => h) (Or.inl ⟨by rfl, ?_⟩) (by assumption) ?_
              rotate_left
              · (intro w hSw; (try dsimp only at hSw); first | (go_simp; done) | (go_simp; with_reducible rfl))
              try simp only [Act.put, List.setIfInBounds_toArray, List.set_cons_zero, List.set_cons_succ]
              refine wpAnyH_take (i := 7) (v := ?_) (takeL rfl) (by kernel_rfl) (by kernel_rfl) (by kernel_rfl) (fun _ _ _ h => h) (Or.inl ⟨by rfl, ?_⟩) (by assumption) ?_
              rotate_left
              · (intro w hSw; (try dsimp only at hSw); first | (go_simp; done) | (go_simp; with_reducible rfl))
              try simp only [Act.put, List.setIfInBounds_toArray, List.set_cons_zero, List.set_cons_succ]
              refine wpAnyH_take (i := 8) (v := ?_) (takeL rfl) (by kernel_rfl) (by kernel_rfl) (by kernel_rfl) (fun _ _ _ h => h) (Or.inl ⟨by rfl, ?_⟩) (by assumption) ?_
              rotate_left
              · (intro w hSw; (try dsimp only at hSw); first | (go_simp; done) | (go_simp; with_reducible rfl))
              try simp only [Act.put, List.setIfInBounds_toArray, List.set_cons_zero, List.set_cons_succ]
              refine wpAnyH_ready (rs := [9]) (by kernel_rfl) (by simp) ?_
              refine AllReadyH.cons (takeL rfl) (fun K hK => ?_) AllReadyH.nil
              go_simp
              refine (upto_any ab (some ⟨b, off, none⟩) k kb nc kc bs hn hm p u hu HA1 _ (HSB.out.below (bNext (bDrew (Below.refl _ _)) hB4))).mono ?_; rintro e w5 ⟨rfl, hB5⟩
              go_wp2_with fail
              refine hK.out _ _ (KEEP.out _ (bNext hB4 hB5)) (fun hHeld => ?_)
              clear hK K
              refine wpAnyH_take (i := 10) (v := ?_) (takeL rfl) (by kernel_rfl) (by kernel_rfl) (by kernel_rfl) (fun _ _ _ h => h) (Or.inl ⟨by rfl, ?_⟩) (by assumption) ?_
              rotate_left
              · (intro w hSw; (try dsimp only at hSw); first | (go_simp; done) | (go_simp; with_reducible rfl))
              try simp only [Act.put, List.setIfInBounds_toArray, List.set_cons_zero, List.set_cons_succ]
              refine wpAnyH_take (i := 11) (v := ?_) (takeL rfl) (by kernel_rfl) (by kernel_rfl) (by kernel_rfl) (fun _ _ _ h => h) (Or.inl ⟨by rfl, ?_⟩) (by assumption) ?_
              rotate_left
              · (intro w hSw; (try dsimp only at hSw); first | (go_simp; done) | (go_simp; with_reducible rfl))
              try simp only [Act.put, List.setIfInBounds_toArray, List.set_cons_zero, List.set_cons_succ]
              refine wpAnyH_take (i := 12) (v := ?_) (takeL rfl) (by kernel_rfl) (by kernel_rfl) (by kernel_rfl) (fun _ _ _ h => h) (Or.inl ⟨by rfl, ?_⟩) (by assumption) ?_
              rotate_left
              · (intro w hSw; (try dsimp only at hSw); first | (go_simp; done) | (go_simp; with_reducible rfl))
              try simp only [Act.put, List.setIfInBounds_toArray, List.set_cons_zero, List.set_cons_succ]
              refine wpAnyH_done (by kernel_rfl) ?_ _
              go_wp2_with fail
              go_ret
              exact ⟨rfl, bNext (bDrew HB03.out) (bNext hB4 hB5)⟩
            · have hqd : decide (q ≤ u + 1) = false := decide_eq_false hq
              have HI : Hid (Chk (fun x => dotP x ∧ uptoD bs x.1 + 1 < x.2) (fun _ _ => True) cl (j + 1)) := by
                intro i y hi hy
                rcases Nat.lt_or_ge i j with h1 | h1
                · exact hI.out i y h1 hy
                · obtain rfl : i = j := by omega
                  rw [hp.out] at hy
                  obtain rfl := Option.some.inj hy
                  exact ⟨⟨hC.out.symm, by rw [← hu.out]; omega⟩, fun _ _ _ _ => trivial⟩
              refine wp_region_held_drew (S := fun w' => w'.cell? ⟨x, 0, none⟩ = some (.slice ab k kb) ∧ w'.cell? ⟨x, 1, none⟩ = some (.slice (some ⟨b, off, none⟩) nc kc) ∧ w'.cell? ⟨z, 0, none⟩ = some (.int .i64 p) ∧ w'.cell? ⟨z, 1, none⟩ = some (.int .i64 q)) (by kernel_rfl) (⟨c0, c1, e0, e1⟩) (fun hHeld => ?_)
              refine wpAnyH_take (i := 0) (v := ?_) (takeL rfl) (by kernel_rfl) (by kernel_rfl) (by kernel_rfl) (fun _ _ _ h => h) (Or.inl ⟨by rfl, ?_⟩) (by assumption) ?_
              rotate_left
              · (intro w hSw; (try dsimp only at hSw); first | (go_simp; done) | (go_simp; with_reducible rfl))
              try simp only [Act.put, List.setIfInBounds_toArray, List.set_cons_zero, List.set_cons_succ]
              refine wpAnyH_ready (rs := [1]) (by kernel_rfl) (by simp) ?_
              refine AllReadyH.cons (takeL rfl) (fun K hK => ?_) AllReadyH.nil
              go_simp
              refine (check_any p q true hC _).mono ?_; rintro e w4 ⟨rfl, hB4⟩
              go_wp2_with fail
              refine hK.out _ _ (KEEP.out _ hB4) (fun hHeld => ?_)
              clear hK K
              refine wpAnyH_take (i := 2) (v := ?_) (takeL rfl) (by kernel_rfl) (by kernel_rfl) (by kernel_rfl) (fun _ _ _ h => h) (Or.inl ⟨by rfl, ?_⟩) (by assumption) ?_
              rotate_left
              · (intro w hSw; (try dsimp only at hSw); first | (go_simp; done) | (go_simp; with_reducible rfl))
              try simp only [Act.put, List.setIfInBounds_toArray, List.set_cons_zero, List.set_cons_succ]
              refine wpAnyH_take (i := 3) (v := ?_) (takeL rfl) (by kernel_rfl) (by kernel_rfl) (by kernel_rfl) (fun _ _ _ h => h) (Or.inl ⟨by rfl, ?_⟩) (by assumption) ?_
              rotate_left
              · (intro w hSw; (try dsimp only at hSw); first | (go_simp; done) | (go_simp; with_reducible rfl))
              try simp only [Act.put, List.setIfInBounds_toArray, List.set_cons_zero, List.set_cons_succ]
              refine wpAnyH_take (i := 4) (v := ?_) (takeL rfl) (by kernel_rfl) (by kernel_rfl) (by kernel_rfl) (fun _ _ _ h => h) (Or.inl ⟨by rfl, ?_⟩) (by assumption) ?_
              rotate_left
              · (intro w hSw; (try dsimp only at hSw); first | (go_simp; done) | (go_simp; with_reducible rfl))
              try simp only [Act.put, List.setIfInBounds_toArray, List.set_cons_zero, List.set_cons_succ]
              refine wpAnyH_take (i := 5) (v := ?_) (takeL rfl) (by kernel_rfl) (by kernel_rfl) (by kernel_rfl) (fun _ _ _ h => h) (Or.inl ⟨by rfl, ?_⟩) (by assumption) ?_
              rotate_left
              · (intro w hSw; (try dsimp only at hSw); first | (go_simp; done) | (go_simp; with_reducible rfl))
              try simp only [Act.put, List.setIfInBounds_toArray, List.set_cons_zero, List.set_cons_succ]
              refine wpAnyH_take (i := 6) (v := ?_) (takeL rfl) (by kernel_rfl) (by kernel_rfl) (by kernel_rfl) (fun _ _ _ h => h) (Or.inl ⟨by rfl, ?_⟩) (by assumption) ?_
              rotate_left
              · (intro w hSw; (try dsimp only at hSw); first | (go_simp; done) | (go_simp; with_reducible rfl))
              try simp only [Act.put, List.setIfInBounds_toArray, List.set_cons_zero, List.set_cons_succ]
              refine wpAnyH_take (i := 7) (v := ?_) (takeL rfl) (by kernel_rfl) (by kernel_rfl) (by kernel_rfl) (fun _ _ _ h => h) (Or.inl ⟨by rfl, ?_⟩) (by assumption) ?_
              rotate_left
              · (intro w hSw; (try dsimp only at hSw); first | (go_simp; done) | (go_simp; with_reducible rfl))
              try simp only [Act.put, List.setIfInBounds_toArray, List.set_cons_zero, List.set_cons_succ]
              refine wpAnyH_take (i := 8) (v := ?_) (takeL rfl) (by kernel_rfl) (by kernel_rfl) (by kernel_rfl) (fun _ _ _ h => h) (Or.inl ⟨by rfl, ?_⟩) (by assumption) ?_
              rotate_left
              · (intro w hSw; (try dsimp only at hSw); first | (go_simp; done) | (go_simp; with_reducible rfl))
              try simp only [Act.put, List.setIfInBounds_toArray, List.set_cons_zero, List.set_cons_succ]
              refine wpAnyH_ready (rs := [9]) (by kernel_rfl) (by simp) ?_
              refine AllReadyH.cons (takeL rfl) (fun K hK => ?_) AllReadyH.nil
              go_simp
              refine (upto_any ab (some ⟨b, off, none⟩) k kb nc kc bs hn hm p u hu HA1 _ (HSB.out.below (bNext (bDrew (Below.refl _ _)) hB4))).mono ?_; rintro e w5 ⟨rfl, hB5⟩
              go_wp2_with fail
              refine hK.out _ _ (KEEP.out _ (bNext hB4 hB5)) (fun hHeld => ?_)
              clear hK K
              refine wpAnyH_take (i := 10) (v := ?_) (takeL rfl) (by kernel_rfl) (by kernel_rfl) (by kernel_rfl) (fun _ _ _ h => h) (Or.inl ⟨by rfl, ?_⟩) (by assumption) ?_
              rotate_left
              · (intro w hSw; (try dsimp only at hSw); first | (go_simp; done) | (go_simp; with_reducible rfl))
              try simp only [Act.put, List.setIfInBounds_toArray, List.set_cons_zero, List.set_cons_succ]
              refine wpAnyH_take (i := 11) (v := ?_) (takeL rfl) (by kernel_rfl) (by kernel_rfl) (by kernel_rfl) (fun _ _ _ h => h) (Or.inl ⟨by rfl, ?_⟩) (by assumption) ?_
              rotate_left
              · (intro w hSw; (try dsimp only at hSw); first | (go_simp; done) | (go_simp; with_reducible rfl))
              try simp only [Act.put, List.setIfInBounds_toArray, List.set_cons_zero, List.set_cons_succ]
              refine wpAnyH_take (i := 12) (v := ?_) (takeL rfl) (by kernel_rfl) (by kernel_rfl) (by kernel_rfl) (fun _ _ _ h => h) (Or.inl ⟨by rfl, ?_⟩) (by assumption) ?_
              rotate_left
              · (intro w hSw; (try dsimp only at hSw); first | (go_simp; done) | (go_simp; with_reducible rfl))
              try simp only [Act.put, List.setIfInBounds_toArray, List.set_cons_zero, List.set_cons_succ]
              refine wpAnyH_done (by kernel_rfl) ?_ _
              go_wp2_with fail
              go_roundw
              case rel => exact ⟨j + 1, by omega, by go_num, bNext (bDrew HB3.out) (bNext hB4 hB5), HI⟩
              case measure => simp [intOf]; omega
        · obtain rfl : j = nc := by omega
          obtain rfl : r = true := hr.out.2 ⟨HA1.out, HA2.out, HBS.out, fun y hy => hI.out.all (by rw [hn2.out]; exact Nat.le_refl _) y hy⟩
          obtain rfl := hE.out
          go_wp2_with fail
          go_ret
          exact ⟨rfl, bNext HB0.out hB⟩
end Go.Proofs.Ytfpjdmplepepjaa

/-! WireEq: slices.Equal over rows of names. -/
namespace Go.Proofs.Ytfpjdmplepepjaa
open Go.RowKit

theorem take_snocE {α : Type} {ps : List α} {k : Nat} {p : α} (h : ps[k]? = some p) : ps.take (k + 1) = ps.take k ++ [p] := by
  obtain ⟨h1, h2⟩ := List.getElem?_eq_some_iff.1 h
  rw [List.take_succ_eq_append_getElem h1, h2]
end Go.Proofs.Ytfpjdmplepepjaa

/-! WireEqC: slices.Equal over rows of tags. -/
namespace Go.Proofs.Ytfpjdmplepepjaa
open Go.RowKit


end Go.Proofs.Ytfpjdmplepepjaa

