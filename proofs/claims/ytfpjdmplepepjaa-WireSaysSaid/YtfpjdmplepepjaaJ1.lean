/- Small facts on worlds, texts and lists that all walks of this claim use. (and what stands on it: 17 texts in one) -/
import Derived.Test.YtfpjdmplepepjaaChecked
import Derived.WalkKit
import Derived.WalkSpells
import Derived.WalkLawsBesides
import Derived.Lib.Hide
import Derived.Test.YtfpjdmplepepjaaRows
import Derived.ProofKit
import Derived.OpenShut
import Derived.Deep.DeepHandedRow
import Derived.Lib.LaidTab
import Derived.SliceStrings
import Derived.Deep.Grids
import Derived.Lib.SmallJoins
import Derived.Deep.AppendLies
import Derived.OwnWalk
import Derived.Deep.Slices
import Derived.Deep.Strs
import Derived.Deep.Draws
import Derived.Lib.Small
import Derived.Test.YtfpjdmplepepjaaProg
import Derived.Laws.StructEq
import Derived.Lib.BitFns
import Derived.Deep.RegionHeld3
import Derived.Shelf.SlicesG.Cmp
import Derived.Shelf.Strconv.Itoa0
import Derived.Shelf.Bits.Mul64
/-! Base: Small facts on worlds, texts and lists that all walks of this claim use. -/
namespace Go.Proofs.Ytfpjdmplepepjaa
open Go.RowKit

/-- A name for a value, its equation kept from the walk. -/
theorem nm {α : Type} (v : α) : ∃ d : α, Hid (d = v) := ⟨v, rfl⟩

/-- A text's bytes; the text of some bytes. -/
def bl (s : ByteArray) : List UInt8 := s.data.toList
def ofL (l : List UInt8) : ByteArray := ⟨l.toArray⟩
theorem bl_ofL (l : List UInt8) : bl (ofL l) = l := rfl
theorem ofL_bl (s : ByteArray) : ofL (bl s) = s := rfl
theorem bl_append (a b : ByteArray) : bl (a ++ b) = bl a ++ bl b := by simp [bl, ByteArray.data_append]
theorem bl_length (s : ByteArray) : (bl s).length = s.size := by show s.data.toList.length = s.data.size; simp
theorem ofL_size (l : List UInt8) : (ofL l).size = l.length := by simp [ofL, ByteArray.size]
theorem ofL_append (a b : List UInt8) : ofL a ++ ofL b = ofL (a ++ b) := ByteArray.mk_append_mk a b
theorem bl_extract (s : ByteArray) (a b : Nat) : bl (s.extract a b) = ((bl s).drop a).take (b - a) := by
  unfold bl
  have : (s.extract a b).data = s.data.extract a b := ByteArray.data_extract
  rw [this, Array.toList_extract]
theorem bl_inj {a b : ByteArray} (h : bl a = bl b) : a = b := by
  rw [← ofL_bl a, ← ofL_bl b, h]

/-- Some bytes as the cells of a row. -/
def byteCells (l : List UInt8) : Array Value := (l.map fun b => Value.int .u8 (b.toNat : Int)).toArray
theorem byteCells_size (l : List UInt8) : (byteCells l).size = l.length := by simp [byteCells]
theorem byteCells_get (l : List UInt8) (i : Nat) : (byteCells l)[i]? = (l[i]?).map fun b => Value.int .u8 (b.toNat : Int) := by simp [byteCells]

theorem strOfNums_bytes (l : List UInt8) : strOfNums (l.map fun b => (b.toNat : Int)) = ofL l := by
  have h : ((l.map fun b => (b.toNat : Int)).map fun n => UInt8.ofNat n.toNat) = l := by
    rw [List.map_map]
    conv => rhs; rw [← List.map_id l]
    apply List.map_congr_left
    intro b _
    simp
  unfold strOfNums ofL
  rw [h]

/-- 'string(b)' of a row whose cells are known. -/
theorem conv_str {P : Program} (w : World) (src e dst : TypeId) (hs : P.underlying src = some (.slice e)) (he : P.underlying e = some (.int .u8)) (hd : P.underlying dst = some .string)
    (b off len cap : Nat) (l : List UInt8) (hlen : l.length = len) (hcell : ∀ i, i < len → w.cell? ⟨b, off + i, none⟩ = (l[i]?).map fun b => Value.int .u8 (b.toNat : Int)) :
    (convert src dst (.slice (some ⟨b, off, none⟩) len cap)).run P w = .ok (.string (ofL l)) w := by
  rw [← strOfNums_bytes l]
  refine run_convert_bytes_arg w src e hs he b off len cap _ (by simpa using hlen) (fun i hi => ?_) dst hd
  rw [hcell i hi]
  have : i < l.length := by omega
  simp [this]

/-- 'string(b)' of a row that was just made. -/
theorem conv_new {P : Program} (w : World) (src e dst t : TypeId) (hs : P.underlying src = some (.slice e)) (he : P.underlying e = some (.int .u8)) (hd : P.underlying dst = some .string)
    (len cap : Nat) (l : List UInt8) (c : Array Value) (hlen : l.length = len) (hc : c = byteCells l) :
    (convert src dst (.slice (some ⟨w.heap.size, 0, none⟩) len cap)).run P (w.alloc (.cells c t)) = .ok (.string (ofL l)) (w.alloc (.cells c t)) := by
  subst hc
  refine conv_str _ src e dst hs he hd _ 0 len cap l hlen fun i _ => ?_
  rw [Nat.zero_add, World.cell?_alloc_at _ _ _ _ rfl, byteCells_get]

theorem toList_ofL (l : List UInt8) : (ofL l).toList = l := ByteArray.toList_mk l
theorem toList_bl (s : ByteArray) : s.toList = bl s := ByteArray.toList_eq s

/-- What a call has made of a later world; a block more. -/
theorem bNext {w a b : World} (h : Below w.heap.size w a) (k : Below a.heap.size a b) : Below w.heap.size w b := h.trans (k.mono h.size)
theorem bNew {w a : World} (h : Below w.heap.size w a) (o : Obj) : Below w.heap.size w (a.alloc o) := h.alloc h.size o

theorem below_cell {W w1 : World} {B : Nat} (hb : Below B W w1) : (∀ b o, b < B → w1.cell? ⟨b, o, none⟩ = W.cell? ⟨b, o, none⟩) ∧ (∀ b o, b < B → w1.frozen? ⟨b, o, none⟩ = W.frozen? ⟨b, o, none⟩) :=
  ⟨fun b o h => hb.cell (p := ⟨b, o, none⟩) h, fun b o h => hb.frozen (p := ⟨b, o, none⟩) h⟩

end Go.Proofs.Ytfpjdmplepepjaa

/-! Law: What every law of this claim needs at its end: its arguments read as they did, since nothing that was there has turned. -/
namespace Go.Proofs.Ytfpjdmplepepjaa
open Go.ChangeShapes Go.WideShapes Go.ChangeAt Go.RowKit

section
variable {H : Type} {enc : TypeId × Value → H} {P : Program}

theorem trodAll_below (hl : laidOutB P = true) {W W' : World} (hb : Below W.heap.size W W') :
    ∀ {ts : List TypeId} {vs : List Value} {ds : List (DataW H)} {ps : List MemPlace}, (∀ t ∈ ts, P.readableRec t = true ∧ t < P.types.size) →
      DataW.TrodAll enc P W 0 (fun _ => true) true ts vs ds ps → (∀ x ∈ ps, x.block < W.heap.size) →
      DataW.TrodAll enc P W' 0 (fun b => decide (b < W.heap.size)) true ts vs ds ps
  | [], _, _, _, _, h, _ => by
    obtain ⟨rfl, rfl, rfl⟩ := trodAll_nil h
    exact rfl
  | t :: ts, _, _, _, hr, h, hlt => by
    obtain ⟨v, vs', d, ds', p, q, rfl, rfl, rfl, h0, h1⟩ := trodAll_cons h
    refine trodAll_cons_mk (Below.trod hl (hr t (by simp)).1 (hr t (by simp)).2 h0 hb fun x hx => hlt x (by simp [hx])) ?_
    exact trodAll_below hl hb (fun u hu => hr u (by simp [hu])) h1 fun x hx => hlt x (by simp [hx])

/-- The end of a law: true, and every argument as before. -/
theorem law_post (hl : laidOutB P = true) {f : Func} {s : ChangeSpec} {tb : TypeId} (htb : P.underlying tb = some .bool) {W W' : World} {args : Array Value} {ds gs : List (DataW H)} {before : List MemPlace}
    (hr : f.resultTypes = #[tb]) (hp : (f.params.toList.all fun t => P.readableRec t && decide (t < P.types.size)) = true) (hv : s.vars = [])
    (hs1 : (s.fn H ds).results = [.lit (.bool true)]) (hs2 : (s.fn H ds).args = ds) (hs3 : (s.fn H ds).vars = [])
    (hW : DataW.Whole enc P f.params.toList s.vars false W args.toList ds gs before) (hb : Below W.heap.size W W') :
    s.post enc P f false true false false W args (.bool true) W' := by
  have hlt := hW.lt
  have hW' := hW
  obtain ⟨p, q, hA, hV, rfl, _, _⟩ := hW
  rw [hv] at hV
  obtain ⟨rfl, rfl⟩ := trodVars_none hV
  refine ⟨ds, [], _, [], p, [], hW', ?_, ?_, ?_, hb.frame _, fun h => by cases h⟩
  · rw [List.append_nil, hs1, hr]
    exact trodAll_cons_mk (shut_bool htb true) trodAll_mk0
  · rw [List.append_nil, hs2]
    refine trodAll_below hl hb (fun t ht => ?_) hA (fun x hx => hlt x (by simp [hx]))
    have := List.all_eq_true.1 hp t ht
    simpa using this
  · rw [List.append_nil, hs3, hv]
    exact rfl
end

theorem own : ownKnob Try.prog.godebug = none := by kernel_rfl
theorem laidOut : laidOutB Try.prog = true := by kernel_rfl
end Go.Proofs.Ytfpjdmplepepjaa

/-! Slices: Slices that came in, as a walk wants them: each element's cell, if there is one. -/
namespace Go.Proofs.Ytfpjdmplepepjaa
open Go.ChangeShapes Go.WideShapes Go.ChangeAt Go.RowKit

/-- A slice that came in: its elements are xs. -/
def SlAt (w : World) (ao : Option Addr) (xs : List Value) : Prop := ∀ k, k < xs.length → ∃ b off, ao = some ⟨b, off, none⟩ ∧ b < w.heap.size ∧ ∀ j, j < xs.length → w.cell? ⟨b, off + j, none⟩ = xs[j]?

section
variable {H : Type} {enc : TypeId × Value → H} {P : Program} {w : World} {base : Nat} {spare : Nat → Bool} {held : Bool}

theorem slAt_of {α : Type} {a : Addr} (f : α → Value) (zs : List α) (d : α) (h : ∀ i, i < zs.length → w.cell? (a.add i) = some (f (zs.getD i d))) : SlAt w (some a) (zs.map f) := by
  intro k hk
  rw [List.length_map] at hk
  obtain ⟨b, off, spot⟩ := a
  have hspot : spot = none := by simpa [Addr.add] using World.cell?_spot (h 0 (by omega))
  subst hspot
  have hc : ∀ j, j < zs.length → w.cell? ⟨b, off + j, none⟩ = some (f (zs.getD j d)) := fun j hj => by rw [← Go.WideShapes.add_plain]; exact h j hj
  refine ⟨b, off, rfl, World.block_lt_of_cell? _ _ (hc k hk), fun j hj => ?_⟩
  rw [List.length_map] at hj
  rw [hc j hj]
  simp [hj]

theorem SlAt.take {ao : Option Addr} {xs : List Value} (n : Nat) (h : SlAt w ao xs) : SlAt w ao (xs.take n) := by
  intro k hk
  rw [List.length_take] at hk
  obtain ⟨b, off, h1, h2, h3⟩ := h k (by omega)
  refine ⟨b, off, h1, h2, fun j hj => ?_⟩
  rw [List.length_take] at hj
  rw [h3 j (by omega), List.getElem?_take, if_pos (by omega)]

theorem SlAt.below {w' : World} {ao : Option Addr} {xs : List Value} (h : SlAt w ao xs) (hb : Below w.heap.size w w') : SlAt w' ao xs := by
  intro k hk
  obtain ⟨b, off, h1, h2, h3⟩ := h k hk
  exact ⟨b, off, h1, Nat.lt_of_lt_of_le h2 hb.size, fun j hj => (hb.cell (p := ⟨b, off + j, none⟩) h2).trans (h3 j hj)⟩

theorem open_strs {t e : TypeId} {v : Value} {d : DataW H} {ps : List MemPlace} (ht : P.underlying t = some (.slice e)) (he : P.underlying e = some .string) (hc : P.cellsOf e = 1)
    (h : DataW.Trod enc P w base spare held t v d ps) (hv : ∃ a len cap, v = .slice a len cap) :
    ∃ (ao : Option Addr) (len cap : Nat) (ss : List ByteArray), v = .slice ao len cap ∧ ss.length = len ∧ len ≤ cap ∧ cap ≤ maxLen ∧ SlAt w ao (ss.map Value.string) := by
  obtain ⟨ao, len, cap, rfl⟩ := hv
  obtain ⟨fuel, hf⟩ := h
  rcases open_strings ht he hc hf with ⟨hcs, _⟩ | ⟨a, len', cap', ss, hcs, _, hl, hm, hz, _, hcell, _⟩
  · simp [Value.cells] at hcs
    obtain ⟨rfl, rfl, rfl⟩ := hcs
    exact ⟨none, 0, 0, [], rfl, rfl, Nat.le_refl _, Nat.zero_le _, fun k hk => by simp at hk⟩
  · simp [Value.cells] at hcs
    obtain ⟨rfl, rfl, rfl⟩ := hcs
    have hle : len ≤ ss.length := by rw [hz]; split <;> omega
    refine ⟨some a, len, cap, ss.take len, rfl, by rw [List.length_take]; omega, hl, hm, ?_⟩
    rw [List.map_take]
    exact (slAt_of Value.string ss ByteArray.empty hcell).take len

theorem open_ints2 {t e : TypeId} {k : IntKind} {v : Value} {d : DataW H} {ps : List MemPlace} (ht : P.underlying t = some (.slice e)) (he : P.underlying e = some (.int k)) (hc : P.cellsOf e = 1)
    (h : DataW.Trod enc P w base spare held t v d ps) (hv : ∃ a len cap, v = .slice a len cap) :
    ∃ (ao : Option Addr) (len cap : Nat) (zs : List Int), v = .slice ao len cap ∧ zs.length = len ∧ len ≤ cap ∧ cap ≤ maxLen ∧ SlAt w ao (zs.map (Value.int k)) ∧ ∀ n ∈ zs, (Lit.int k n).wf = true := by
  obtain ⟨ao, len, cap, rfl⟩ := hv
  obtain ⟨fuel, hf⟩ := h
  rcases open_ints ht he hc hf with ⟨hcs, _⟩ | ⟨a, len', cap', zs, hcs, _, hl, hm, hz, _, hcell, hwf⟩
  · simp [Value.cells] at hcs
    obtain ⟨rfl, rfl, rfl⟩ := hcs
    exact ⟨none, 0, 0, [], rfl, rfl, Nat.le_refl _, Nat.zero_le _, (fun k hk => by simp at hk), fun n hn => by simp at hn⟩
  · simp [Value.cells] at hcs
    obtain ⟨rfl, rfl, rfl⟩ := hcs
    have hle : len ≤ zs.length := by rw [hz]; split <;> omega
    refine ⟨some a, len, cap, zs.take len, rfl, by rw [List.length_take]; omega, hl, hm, ?_, fun n hn => hwf n (List.mem_of_mem_take hn)⟩
    rw [List.map_take]
    exact (slAt_of (Value.int k) zs 0 hcell).take len

theorem open_bools2 {t e : TypeId} {v : Value} {d : DataW H} {ps : List MemPlace} (ht : P.underlying t = some (.slice e)) (he : P.underlying e = some .bool) (hc : P.cellsOf e = 1)
    (h : DataW.Trod enc P w base (fun _ => true) held t v d ps) (hv : ∃ a len cap, v = .slice a len cap) :
    ∃ (ao : Option Addr) (len cap : Nat) (bs : List Bool), v = .slice ao len cap ∧ bs.length = len ∧ len ≤ cap ∧ cap ≤ maxLen ∧ SlAt w ao (bs.map Value.bool) := by
  obtain ⟨ao, len, cap, rfl⟩ := hv
  obtain ⟨fuel, hf⟩ := h
  rcases Deep.open_bools ht he hc hf with ⟨hcs, _⟩ | ⟨a, len', cap', B, hcs, _, hl, hm, _, hcell⟩
  · simp [Value.cells] at hcs
    obtain ⟨rfl, rfl, rfl⟩ := hcs
    exact ⟨none, 0, 0, [], rfl, rfl, Nat.le_refl _, Nat.zero_le _, (fun k hk => by simp at hk)⟩
  · simp [Value.cells] at hcs
    obtain ⟨rfl, rfl, rfl⟩ := hcs
    refine ⟨some a, len, cap, (List.range len).map B, rfl, by simp, hl, hm, ?_⟩
    refine slAt_of Value.bool _ false fun i hi => ?_
    rw [List.length_map, List.length_range] at hi
    rw [hcell i (by omega)]
    simp [hi]

theorem okWide_array2 {r : Reach} {b0 : Nat} {n : Nat} {t e : TypeId} {v : Value} (ht : P.underlying t = some (.array n e)) (h : Value.okWide P w r b0 t v) : ∃ cs, v = .agg cs ∧ cs.size = P.cellsOf t := by
  simp only [Value.okWide, ht] at h
  obtain ⟨cs, h1, h2, _⟩ := h
  exact ⟨cs, h1, h2⟩

/-- An array of two integers, by value. -/
theorem open_two {r : Reach} {b0 : Nat} {t e : TypeId} {k : IntKind} {v : Value} {d : DataW H} {p : List MemPlace} (ht : P.underlying t = some (.array 2 e)) (he : P.underlying e = some (.int k)) (hC : P.cellsOf t = 2) (hE : P.cellsOf e = 1)
    (hv : Value.okWide P w r b0 t v) (h : DataW.Trod enc P w base spare held t v d p) :
    ∃ q0 q1 : Int, v = .agg #[.int k q0, .int k q1] ∧ (Lit.int k q0).wf = true ∧ (Lit.int k q1).wf = true := by
  obtain ⟨cs, rfl, hsz⟩ := okWide_array2 ht hv
  obtain ⟨c0, c1, rfl⟩ := Joins.array2 (hsz.trans hC)
  obtain ⟨fuel, hf⟩ := h
  obtain ⟨xs, m, _, _, _, hx, hi⟩ := DataW.trod_array ht hf
  have h0 := hi 0 (by omega)
  have h1 := hi 1 (by omega)
  rw [hE] at h0 h1
  obtain ⟨y0, hy0⟩ : ∃ y, xs[0]? = some y := ⟨xs[0]'(by omega), by simp⟩
  obtain ⟨y1, hy1⟩ : ∃ y, xs[1]? = some y := ⟨xs[1]'(by omega), by simp⟩
  rw [hy0] at h0
  rw [hy1] at h1
  obtain ⟨a, e0, _, wa⟩ := DataW.trod_int he h0
  obtain ⟨b, e1, _, wb⟩ := DataW.trod_int he h1
  simp [Value.cells] at e0 e1
  exact ⟨a, b, by rw [e0, e1], wa, wb⟩
end
end Go.Proofs.Ytfpjdmplepepjaa

/-! OwnV: A row of strings that a call owns, as a slice; are two lists of texts the same? -/
namespace Go.Proofs.Ytfpjdmplepepjaa
open Go.RowKit

theorem SlAt.ownV {w : World} {base : Nat} {t : TypeId} {v : Value} {xs : List Value} (h : w.ownsRow base t 1 v xs.length xs) :
    ∃ ao cap, v = .slice ao xs.length cap ∧ xs.length ≤ cap ∧ SlAt w ao xs := by
  rcases h.2 with ⟨rfl, h0⟩ | ⟨g, cap, cur, rfl, _, hg, hc, _, _, ht⟩
  · exact ⟨none, 0, by rw [h0], by omega, fun k hk => by omega⟩
  · refine ⟨some ⟨g, 0, none⟩, cap, rfl, hc, fun k _ => ⟨g, 0, rfl, lt_of_block hg, fun j hj => ?_⟩⟩
    rw [Nat.zero_add, ← ht, List.getElem?_take, if_pos (by omega)]
    simp [World.cell?, hg]

theorem SlAt.ownN {w : World} {base : Nat} {t : TypeId} {v : Value} {xs : List Value} (h : w.ownsRow base t 1 v xs.length xs) :
    ∃ ao cap, v = .slice ao xs.length cap ∧ xs.length ≤ cap ∧ SlAt w ao xs ∧ ∀ a, ao = some a → base ≤ a.block := by
  rcases h.2 with ⟨rfl, h0⟩ | ⟨g, cap, cur, rfl, hb, hg, hc, _, _, ht⟩
  · exact ⟨none, 0, by rw [h0], by omega, (fun k hk => by omega), fun a ha => by cases ha⟩
  · refine ⟨some ⟨g, 0, none⟩, cap, rfl, hc, (fun k _ => ⟨g, 0, rfl, lt_of_block hg, fun j hj => ?_⟩), fun a ha => by cases ha; exact hb⟩
    rw [Nat.zero_add, ← ht, List.getElem?_take, if_pos (by omega)]
    simp [World.cell?, hg]
/-- A row that lies above what may turn is as it was. -/
theorem SlAt.above {w w' : World} {ao : Option Addr} {xs : List Value} {B : Nat} (h : SlAt w ao xs) (hn : ∀ a, ao = some a → B ≤ a.block) (hs : w.heap.size ≤ w'.heap.size) (hk : ∀ k, k < w.heap.size → B ≤ k → w'.heap[k]? = w.heap[k]?) : SlAt w' ao xs := by
  intro k hk'
  obtain ⟨b, off, h1, h2, h3⟩ := h k hk'
  refine ⟨b, off, h1, Nat.lt_of_lt_of_le h2 hs, fun j hj => ?_⟩
  rw [← h3 j hj]
  simp only [World.cell?, hk b h2 (hn _ h1)]

/-- A slice of strings that came in. -/
theorem SlAt.str {w : World} {ao : Option Addr} {ss : List ByteArray} (h : SlAt w ao (ss.map Value.string)) (k : Nat) (hk : k < ss.length) :
    ∃ b off, ao = some ⟨b, off, none⟩ ∧ b < w.heap.size ∧ w.cell? ⟨b, off + k, none⟩ = some (.string ss[k]) := by
  obtain ⟨b, off, h1, h2, h3⟩ := h k (by simpa using hk)
  refine ⟨b, off, h1, h2, ?_⟩
  rw [h3 k (by simpa using hk)]
  simp [hk]

theorem own_below {w w' : World} {base : Nat} {e : TypeId} {sz : Nat} {v : Value} {n : Nat} {xs : List Value} (h : w.ownsRow base e sz v n xs) (hb : Below w.heap.size w w') : w'.ownsRow base e sz v n xs :=
  h.kept (row := none) ⟨hb.os, hb.tape, hb.output, hb.size, fun k hk _ => hb.block k hk⟩ (by cases v.ownBlock <;> simp)

theorem infoStr : (Try.prog.info? 9).map (fun i => (i.zero, i.size, i.bytes)) = some (some (.string .empty), 1, 16) := by kernel_rfl
end Go.Proofs.Ytfpjdmplepepjaa

/-! OpenRows: Slices of structs that came in: each row's cells. -/
namespace Go.Proofs.Ytfpjdmplepepjaa
open Go.ChangeShapes Go.WideShapes Go.ChangeAt Go.RowKit
section
variable {H : Type} {enc : TypeId × Value → H} {P : Program} {w : World} {base : Nat} {spare : Nat → Bool} {held : Bool}

/-- A slice of rows of c cells, opened: each row's cells. -/
theorem open_rows {t e : TypeId} {c : Nat} {v : Value} {d : DataW H} {ps : List MemPlace} (ht : P.underlying t = some (.slice e)) (hc : P.cellsOf e = c) (hc0 : 0 < c)
    (h : DataW.Trod enc P w base spare held t v d ps) (hv : ∃ a len cap, v = .slice a len cap) :
    ∃ (ao : Option Addr) (len cap : Nat) (Cs : Nat → List Value), v = .slice ao len cap ∧ len ≤ cap ∧ cap ≤ maxLen ∧ ∀ k, k < len → ∃ b off, ao = some ⟨b, off, none⟩ ∧ b < w.heap.size ∧ (Cs k).length = c ∧
      (∀ j, j < c → w.cell? ⟨b, off + (k * c + j), none⟩ = (Cs k)[j]?) ∧ ∃ n x, DataW.trod enc P w base spare held n e (Cs k) = some x := by
  obtain ⟨ao, len, cap, rfl⟩ := hv
  obtain ⟨fuel, hf⟩ := h
  rcases Deep.open_slice ht hf with ⟨hcs, _⟩ | ⟨a, len', cap', m, n, D, Pl, hcs, _, hl, hm, hmm, _, hx⟩
  · simp [Value.cells] at hcs
    obtain ⟨rfl, rfl, rfl⟩ := hcs
    exact ⟨none, 0, 0, fun _ => [], rfl, Nat.le_refl _, Nat.zero_le _, fun k hk => absurd hk (Nat.not_lt_zero _)⟩
  · simp [Value.cells] at hcs
    obtain ⟨rfl, rfl, rfl⟩ := hcs
    have hlm : len ≤ m := by rw [hmm]; split <;> omega
    obtain ⟨Cs, hCs⟩ := Deep.choose_lt (fun i (hi : i < m) => hx i hi)
    refine ⟨some a, len, cap, Cs, rfl, hl, hm, fun k hk => ?_⟩
    obtain ⟨h1, h2⟩ := hCs k (by omega)
    rw [hc] at h1
    obtain ⟨_, hlen, hcell⟩ := World.cells?_some h1
    obtain ⟨b, off, spot⟩ := a
    have e0 := hcell 0 hc0
    rw [Deep.add_add] at e0
    have hg : (Cs k)[0]? = some ((Cs k)[0]'(by omega)) := by simp
    have hspot : spot = none := by
      obtain ⟨g1, _⟩ := hCs 0 (by omega)
      rw [hc] at g1
      obtain ⟨_, gl, gc⟩ := World.cells?_some g1
      have g0 := gc 0 hc0
      rw [Deep.add_add, show (Cs 0)[0]? = some ((Cs 0)[0]'(by omega)) from by simp] at g0
      simpa [Addr.add] using World.cell?_spot g0
    subst hspot
    refine ⟨b, off, rfl, ?_, hlen, fun j hj => ?_, _, _, h2⟩
    · rw [hg] at e0
      exact World.block_lt_of_cell? _ _ (by rw [add_plain] at e0; exact e0)
    · have := hcell j hj
      rw [Deep.add_add, add_plain] at this
      exact this
end
end Go.Proofs.Ytfpjdmplepepjaa

/-! Blk: A block whose cells are known whole; what stays of old memory where one block is written. No program in sight. -/
namespace Go.Proofs.Ytfpjdmplepepjaa
open Go.RowKit

/-- Block b has these cells, none of them frozen. -/
def Blk (w : World) (b : Nat) (c : Array Value) (t : TypeId) : Prop := w.heap[b]? = some (.cells c t (0, 0))

theorem Blk.cell {w : World} {b : Nat} {c : Array Value} {t : TypeId} (h : Blk w b c t) (i : Nat) : w.cell? ⟨b, i, none⟩ = c[i]? := by
  unfold Blk at h; simp [World.cell?, h]
theorem Blk.free {w : World} {b : Nat} {c : Array Value} {t : TypeId} (h : Blk w b c t) (i : Nat) : w.frozen? ⟨b, i, none⟩ = false := by
  unfold Blk at h; simp [World.frozen?, h]
theorem Blk.lt {w : World} {b : Nat} {c : Array Value} {t : TypeId} (h : Blk w b c t) : b < w.heap.size := lt_of_block h
theorem Blk.set {w : World} {b : Nat} {c : Array Value} {t : TypeId} (h : Blk w b c t) (i : Nat) (v : Value) : Blk (w.setCell ⟨b, i, none⟩ v) b (c.setIfInBounds i v) t := by
  have hlt := h.lt
  have h' : w.heap[b] = .cells c t (0, 0) := by unfold Blk at h; simpa [Array.getElem?_eq_getElem hlt] using h
  show (w.heap.modify b _)[b]? = _
  rw [Array.getElem?_eq_getElem (by simpa using hlt), Array.getElem_modify_self, h']
  rfl
theorem Blk.setOther {w : World} {b : Nat} {c : Array Value} {t : TypeId} (h : Blk w b c t) {a : Addr} (ha : b ≠ a.block) (v : Value) : Blk (w.setCell a v) b c t :=
  (Below.heap_setCell w a v b ha).trans h
theorem Blk.alloc {w : World} {b : Nat} {c : Array Value} {t : TypeId} (h : Blk w b c t) (o : Obj) : Blk (w.alloc o) b c t :=
  (Below.heap_alloc w o b h.lt).trans h
theorem Blk.drew {w : World} {b : Nat} {c : Array Value} {t : TypeId} (h : Blk w b c t) : Blk w.drew b c t := h
theorem Blk.drewN {w : World} {b : Nat} {c : Array Value} {t : TypeId} (h : Blk w b c t) (n : Nat) : Blk (w.drewN n) b c t := h
theorem Blk.new (w : World) (c : Array Value) (t : TypeId) : Blk (w.alloc (.cells c t)) w.heap.size c t := by
  show (w.heap.push _)[w.heap.size]? = _
  simp
theorem Blk.below {w w' : World} {b : Nat} {c : Array Value} {t : TypeId} (h : Blk w b c t) {B : Nat} (hb : Below B w w') (hB : b < B) : Blk w' b c t := (hb.block b hB).trans h

/-- Of what was there only block b may have turned. -/
structure Kept (b : Nat) (w w' : World) : Prop where
  os : w'.os = w.os
  tape : w'.tape = w.tape
  output : w'.output = w.output
  size : w.heap.size ≤ w'.heap.size
  block : ∀ k, k < w.heap.size → k ≠ b → w'.heap[k]? = w.heap[k]?

theorem Kept.refl (b : Nat) (w : World) : Kept b w w := ⟨rfl, rfl, rfl, Nat.le_refl _, fun _ _ _ => rfl⟩
theorem Kept.trans {b : Nat} {w v u : World} (h : Kept b w v) (k : Kept b v u) : Kept b w u :=
  ⟨k.os.trans h.os, k.tape.trans h.tape, k.output.trans h.output, Nat.le_trans h.size k.size, fun i hi hb => (k.block i (Nat.lt_of_lt_of_le hi h.size) hb).trans (h.block i hi hb)⟩
theorem Kept.drew {b : Nat} {w v : World} (h : Kept b w v) : Kept b w v.drew := ⟨h.os, h.tape, h.output, h.size, h.block⟩
theorem Kept.drewN {b : Nat} {w v : World} (h : Kept b w v) (n : Nat) : Kept b w (v.drewN n) := ⟨h.os, h.tape, h.output, h.size, h.block⟩
theorem Kept.alloc {b : Nat} {w v : World} (h : Kept b w v) (o : Obj) : Kept b w (v.alloc o) :=
  h.trans ⟨rfl, rfl, rfl, by simp, fun k hk _ => Below.heap_alloc _ _ _ hk⟩
theorem Kept.set {b : Nat} {w v : World} (h : Kept b w v) (i : Nat) (u : Value) : Kept b w (v.setCell ⟨b, i, none⟩ u) :=
  h.trans ⟨rfl, rfl, rfl, by simp [World.setCell], fun k _ hb => Below.heap_setCell _ _ _ _ hb⟩
theorem Kept.setNew {b : Nat} {w v : World} (h : Kept b w v) {a : Addr} (ha : w.heap.size ≤ a.block) (u : Value) : Kept b w (v.setCell a u) :=
  ⟨h.os, h.tape, h.output, by simpa [World.setCell] using h.size, fun k hk hb => (Below.heap_setCell _ _ _ _ (by omega)).trans (h.block k hk hb)⟩
theorem Kept.ofBelow {b : Nat} {w v : World} (h : Below w.heap.size w v) : Kept b w v := ⟨h.os, h.tape, h.output, h.size, fun k hk _ => h.block k hk⟩
theorem Kept.below {b : Nat} {w v : World} (h : Kept b w v) {B : Nat} (hB : B ≤ b) (hs : B ≤ w.heap.size) : Below B w v :=
  ⟨h.os, h.tape, h.output, h.size, fun k hk => h.block k (by omega) (by omega)⟩
theorem Kept.blk {b b' : Nat} {w v : World} {c : Array Value} {t : TypeId} (h : Kept b w v) (hk : Blk w b' c t) (hne : b' ≠ b) : Blk v b' c t := (h.block b' hk.lt hne).trans hk
end Go.Proofs.Ytfpjdmplepepjaa

/-! WOrd: Names in order: by their node, then by their number; the row that rises. No program in sight. -/
namespace Go.Proofs.Ytfpjdmplepepjaa
open Go.RowKit Go.Lib

/-- Two pairs, compared: by the first, then by the second. -/
def cmpD (x y : Int × Int) : Int := if Lib.compareInt x.1 y.1 = 0 then Lib.compareInt x.2 y.2 else Lib.compareInt x.1 y.1
theorem cmpInt_neg (a b : Int) : Lib.compareInt a b < 0 ↔ a < b := by
  unfold Lib.compareInt
  by_cases h1 : a < b
  · simp [h1]
  · by_cases h2 : b < a <;> simp [h1, h2]
theorem cmpInt_zero (a b : Int) : Lib.compareInt a b = 0 ↔ a = b := by
  unfold Lib.compareInt
  by_cases h1 : a < b
  · simp [h1]; omega
  · by_cases h2 : b < a
    · simp [h1, h2]; omega
    · simp [h1, h2]; omega
def ltP (x y : Int × Int) : Prop := x.1 < y.1 ∨ x.1 = y.1 ∧ x.2 < y.2
instance (x y : Int × Int) : Decidable (ltP x y) := by unfold ltP; exact inferInstance
theorem cmpD_neg (x y : Int × Int) : cmpD x y < 0 ↔ ltP x y := by
  unfold cmpD ltP
  split
  · rename_i h
    have := (cmpInt_zero _ _).1 h
    rw [cmpInt_neg]
    omega
  · rename_i h
    have h2 : x.1 ≠ y.1 := fun e => h ((cmpInt_zero _ _).2 e)
    rw [cmpInt_neg]
    omega
theorem ltP_irrefl (x : Int × Int) : ¬ ltP x x := by unfold ltP; omega
theorem ltP_trans {x y z : Int × Int} (h1 : ltP x y) (h2 : ltP y z) : ltP x z := by unfold ltP at *; omega
theorem ltP_asymm {x y : Int × Int} (h1 : ltP x y) : ¬ ltP y x := fun h => ltP_irrefl x (ltP_trans h1 h)
theorem ltP_total (x y : Int × Int) : ltP x y ∨ x = y ∨ ltP y x := by
  by_cases h : x = y
  · exact .inr (.inl h)
  · obtain ⟨a, b⟩ := x
    obtain ⟨c, d⟩ := y
    have : ¬ (a = c ∧ b = d) := fun ⟨h1, h2⟩ => h (by rw [h1, h2])
    unfold ltP
    simp only
    omega
theorem ltP_ntrans {x y z : Int × Int} (h1 : ¬ ltP x y) (h2 : ¬ ltP y z) : ¬ ltP x z := by unfold ltP at *; omega
/-- A row that rises. -/
def Asc (l : List (Int × Int)) : Prop := l.Pairwise ltP
instance (l : List (Int × Int)) : Decidable (Asc l) := by unfold Asc; exact inferInstance
theorem asc_unique : ∀ {a b : List (Int × Int)}, Asc a → Asc b → (∀ x, x ∈ a ↔ x ∈ b) → a = b
  | [], [], _, _, _ => rfl
  | [], y :: b, _, _, h => by have := (h y).2 (by simp); simp at this
  | x :: a, [], _, _, h => by have := (h x).1 (by simp); simp at this
  | x :: a, y :: b, ha, hb, h => by
    have ha' := List.pairwise_cons.1 ha
    have hb' := List.pairwise_cons.1 hb
    have e : x = y := by
      rcases List.mem_cons.1 ((h x).1 (by simp)) with e | e
      · exact e
      · rcases List.mem_cons.1 ((h y).2 (by simp)) with e2 | e2
        · exact e2.symm
        · exact absurd (hb'.1 x e) (ltP_asymm (ha'.1 y e2))
    subst e
    have : a = b := by
      refine asc_unique ha'.2 hb'.2 fun z => ⟨fun hz => ?_, fun hz => ?_⟩
      · rcases List.mem_cons.1 ((h z).1 (by simp [hz])) with e | e
        · subst e; exact absurd (ha'.1 z hz) (ltP_irrefl z)
        · exact e
      · rcases List.mem_cons.1 ((h z).2 (by simp [hz])) with e | e
        · subst e; exact absurd (hb'.1 z hz) (ltP_irrefl z)
        · exact e
    rw [this]

/-- A pair at its place in a row that rises. -/
def insD (l : List (Int × Int)) (x : Int × Int) : List (Int × Int) := if x ∈ l then l else l.filter (fun y => decide (ltP y x)) ++ x :: l.filter (fun y => !decide (ltP y x))
theorem mem_insD (l : List (Int × Int)) (x z : Int × Int) : z ∈ insD l x ↔ z = x ∨ z ∈ l := by
  unfold insD
  split
  · rename_i h
    exact ⟨fun hz => .inr hz, fun hz => by rcases hz with rfl | hz <;> assumption⟩
  · simp only [List.mem_append, List.mem_filter, List.mem_cons]
    by_cases hl : ltP z x <;> simp [hl]
    · constructor
      · rintro (h | h)
        · exact .inr h
        · exact .inl h
      · rintro (h | h)
        · exact .inr h
        · exact .inl h
theorem asc_insD {l : List (Int × Int)} (h : Asc l) (x : Int × Int) : Asc (insD l x) := by
  unfold insD
  split
  · exact h
  · rename_i hx
    refine List.pairwise_append.2 ⟨h.filter _, List.pairwise_cons.2 ⟨fun y hy => ?_, h.filter _⟩, fun a ha b hb => ?_⟩
    · rw [List.mem_filter] at hy
      rcases ltP_total y x with e | e | e
      · simp [e] at hy
      · subst e; exact absurd hy.1 hx
      · exact e
    · rw [List.mem_filter] at ha
      have ha2 : ltP a x := by simpa using ha.2
      rcases List.mem_cons.1 hb with rfl | hb
      · exact ha2
      · rw [List.mem_filter] at hb
        have hb2 : ¬ ltP b x := by simpa using hb.2
        rcases ltP_total b x with e | e | e
        · exact absurd e hb2
        · subst e; exact ha2
        · exact ltP_trans ha2 e

/-- Of any pairs the row that rises. -/
def sortD (l : List (Int × Int)) : List (Int × Int) := l.foldl insD []
theorem foldl_insD : ∀ (l acc : List (Int × Int)), Asc acc → Asc (l.foldl insD acc) ∧ ∀ z, z ∈ l.foldl insD acc ↔ z ∈ acc ∨ z ∈ l
  | [], acc, h => ⟨h, fun z => by simp⟩
  | x :: l, acc, h => by
    obtain ⟨h1, h2⟩ := foldl_insD l (insD acc x) (asc_insD h x)
    refine ⟨h1, fun z => ?_⟩
    rw [List.foldl_cons, h2, mem_insD, List.mem_cons]
    constructor
    · rintro ((h | h) | h)
      · exact .inr (.inl h)
      · exact .inl h
      · exact .inr (.inr h)
    · rintro (h | h | h)
      · exact .inl (.inr h)
      · exact .inl (.inl h)
      · exact .inr h
theorem asc_sortD (l : List (Int × Int)) : Asc (sortD l) := (foldl_insD l [] List.Pairwise.nil).1
theorem mem_sortD (l : List (Int × Int)) (z : Int × Int) : z ∈ sortD l ↔ z ∈ l := by
  have := (foldl_insD l [] List.Pairwise.nil).2 z
  simpa [sortD] using this
theorem sortD_of_asc {l : List (Int × Int)} (h : Asc l) : sortD l = l := asc_unique (asc_sortD l) h (mem_sortD l)
theorem asc_nodup {l : List (Int × Int)} (h : Asc l) : l.Nodup := List.Pairwise.imp (S := fun a b => a ≠ b) (fun {a b} (hab : ltP a b) (e : a = b) => ltP_irrefl b (by rw [e] at hab; exact hab)) h
theorem insD_length (l : List (Int × Int)) (x : Int × Int) : (insD l x).length ≤ l.length + 1 := by
  unfold insD
  split
  · omega
  · have key : ∀ l : List (Int × Int), (l.filter (fun y => decide (ltP y x))).length + (l.filter (fun y => !decide (ltP y x))).length = l.length := by
      intro l
      induction l with
      | nil => rfl
      | cons a l ih =>
        by_cases h : ltP a x
        · simp only [List.filter_cons, h, decide_true, if_true, Bool.not_true, List.length_cons]
          simp only [Bool.false_eq_true, if_false]
          omega
        · simp only [List.filter_cons, h, decide_false, Bool.not_false, if_true, List.length_cons]
          simp only [Bool.false_eq_true, if_false]
          omega
    have := key l
    simp only [List.length_append, List.length_cons]
    omega
theorem foldl_insD_length : ∀ (l acc : List (Int × Int)), (l.foldl insD acc).length ≤ acc.length + l.length
  | [], _ => by simp
  | x :: l, acc => by
    have h1 := foldl_insD_length l (insD acc x)
    have h2 := insD_length acc x
    simp only [List.foldl_cons, List.length_cons]
    omega
theorem sortD_length (l : List (Int × Int)) : (sortD l).length ≤ l.length := by
  have := foldl_insD_length l []
  simpa [sortD] using this

/-- How many of a row are less than a pair. -/
def lowD (l : List (Int × Int)) (x : Int × Int) : Nat := (l.filter fun y => decide (ltP y x)).length
theorem lowD_le (l : List (Int × Int)) (x : Int × Int) : lowD l x ≤ l.length := List.length_filter_le _ _
/-- Of a row that rises: the place at which all before are less and none behind is. -/
theorem lowD_of (l : List (Int × Int)) (x : Int × Int) : ∀ k, k ≤ l.length → (∀ i, i < k → ltP l[i]! x) → (∀ i, k ≤ i → i < l.length → ¬ ltP l[i]! x) → k = lowD l x := by
  intro k hk h1 h2
  have e : l = l.take k ++ l.drop k := (List.take_append_drop k l).symm
  unfold lowD
  conv => rhs; rw [e]
  rw [List.filter_append, List.length_append]
  have e1 : (l.take k).filter (fun y => decide (ltP y x)) = l.take k := by
    refine List.filter_eq_self.2 fun y hy => ?_
    obtain ⟨i, hi, rfl⟩ := List.mem_iff_getElem.1 hy
    have hi' : i < k ∧ i < l.length := by rw [List.length_take] at hi; omega
    have := h1 i hi'.1
    rw [getElem!_pos l i hi'.2] at this
    simpa using this
  have e2 : (l.drop k).filter (fun y => decide (ltP y x)) = [] := by
    refine List.filter_eq_nil_iff.2 fun y hy => ?_
    obtain ⟨i, hi, rfl⟩ := List.mem_iff_getElem.1 hy
    have hi' : i < l.length - k := by simpa using hi
    have := h2 (k + i) (by omega) (by omega)
    rw [getElem!_pos l (k + i) (by omega)] at this
    simpa using this
  rw [e1, e2]
  simp; omega
end Go.Proofs.Ytfpjdmplepepjaa

/-! WPair: Slices of pairs of numbers: as they came in, as a call owns them. -/
namespace Go.Proofs.Ytfpjdmplepepjaa
open Go.ChangeShapes Go.WideShapes Go.ChangeAt Go.RowKit Go.Lib

/-- A pair's two cells. -/
def encD (x : Int × Int) : List Value := [.int .i64 x.1, .int .i64 x.2]
def flatD (ps : List (Int × Int)) : List Value := ps.flatMap encD
theorem flatD_length (ps : List (Int × Int)) : (flatD ps).length = ps.length * 2 := by
  induction ps with
  | nil => rfl
  | cons p ps ih => show (encD p ++ flatD ps).length = _; rw [List.length_append, ih]; simp [encD]; omega
theorem flatD_append (a b : List (Int × Int)) : flatD (a ++ b) = flatD a ++ flatD b := by simp [flatD]
theorem flatD_one (x y : Int) : flatD [(x, y)] = [.int .i64 x, .int .i64 y] := rfl
theorem flatD_get : ∀ (ps : List (Int × Int)) (j : Nat) (p : Int × Int), ps[j]? = some p → (flatD ps)[j * 2]? = some (.int .i64 p.1) ∧ (flatD ps)[j * 2 + 1]? = some (.int .i64 p.2)
  | [], j, p, h => by simp at h
  | q :: ps, 0, p, h => by
    obtain rfl : q = p := by simpa using h
    exact ⟨rfl, rfl⟩
  | q :: ps, j + 1, p, h => by
    have := flatD_get ps j p (by simpa using h)
    show (encD q ++ flatD ps)[(j + 1) * 2]? = _ ∧ (encD q ++ flatD ps)[(j + 1) * 2 + 1]? = _
    rw [List.getElem?_append_right (by simp [encD]; omega), List.getElem?_append_right (by simp [encD]; omega)]
    simp only [encD, List.length_cons, List.length_nil]
    rw [show (j + 1) * 2 - (0 + 1 + 1) = j * 2 from by omega, show (j + 1) * 2 + 1 - (0 + 1 + 1) = j * 2 + 1 from by omega]
    exact this
theorem flatD_cell (ps : List (Int × Int)) : ∀ u ∈ flatD ps, u.oneCell' = true := by
  intro u hu
  obtain ⟨p, _, hp⟩ := List.mem_flatMap.1 hu
  simp [encD] at hp
  rcases hp with rfl | rfl <;> rfl

/-- A slice of pairs: its elements are ps. -/
def SlP (w : World) (ao : Option Addr) (ps : List (Int × Int)) : Prop :=
  ∀ k, k < ps.length → ∃ b off, ao = some ⟨b, off, none⟩ ∧ b < w.heap.size ∧ ∀ j p, ps[j]? = some p → w.cell? ⟨b, off + j * 2, none⟩ = some (.int .i64 p.1) ∧ w.cell? ⟨b, off + j * 2 + 1, none⟩ = some (.int .i64 p.2)

theorem SlP.nil (w : World) (ao : Option Addr) : SlP w ao [] := fun _ hk => absurd hk (Nat.not_lt_zero _)
/-- One element. -/
theorem SlP.get {w : World} {ao : Option Addr} {ps : List (Int × Int)} (h : SlP w ao ps) (k : Nat) (hk : k < ps.length) :
    ∃ b off x y, ao = some ⟨b, off, none⟩ ∧ b < w.heap.size ∧ w.cell? ⟨b, off + k * 2, none⟩ = some (.int .i64 x) ∧ w.cell? ⟨b, off + k * 2 + 1, none⟩ = some (.int .i64 y) ∧ Hid (ps[k]? = some (x, y)) := by
  obtain ⟨b, off, h1, h2, h3⟩ := h k hk
  have e : ps[k]? = some ps[k] := by simp [hk]
  obtain ⟨c0, c1⟩ := h3 k _ e
  exact ⟨b, off, ps[k].1, ps[k].2, h1, h2, c0, c1, e⟩
theorem SlP.at {w : World} {b off : Nat} {ps : List (Int × Int)} (h : SlP w (some ⟨b, off, none⟩) ps) (k : Nat) (hk : k < ps.length) :
    b < w.heap.size ∧ ∃ x y, w.cell? ⟨b, off + k * 2, none⟩ = some (.int .i64 x) ∧ w.cell? ⟨b, off + k * 2 + 1, none⟩ = some (.int .i64 y) ∧ Hid (ps[k]? = some (x, y)) := by
  obtain ⟨b', off', x, y, h1, h2, h3⟩ := h.get k hk
  cases h1
  exact ⟨h2, x, y, h3⟩
theorem SlP.base {w : World} {ao : Option Addr} {ps : List (Int × Int)} (h : SlP w ao ps) (hk : 0 < ps.length) : ∃ b off, ao = some ⟨b, off, none⟩ ∧ b < w.heap.size := by
  obtain ⟨b, off, h1, h2, _⟩ := h 0 hk
  exact ⟨b, off, h1, h2⟩
theorem SlP.take {w : World} {ao : Option Addr} {ps : List (Int × Int)} (n : Nat) (h : SlP w ao ps) : SlP w ao (ps.take n) := by
  intro k hk
  rw [List.length_take] at hk
  obtain ⟨b, off, h1, h2, h3⟩ := h k (by omega)
  refine ⟨b, off, h1, h2, fun j p hj => h3 j p ?_⟩
  rw [List.getElem?_take] at hj
  split at hj
  · exact hj
  · cases hj
theorem SlP.below {w w' : World} {ao : Option Addr} {ps : List (Int × Int)} (h : SlP w ao ps) (hb : Below w.heap.size w w') : SlP w' ao ps := by
  intro k hk
  obtain ⟨b, off, h1, h2, h3⟩ := h k hk
  refine ⟨b, off, h1, Nat.lt_of_lt_of_le h2 hb.size, fun j p hj => ?_⟩
  rw [hb.cell (p := ⟨b, off + j * 2, none⟩) h2, hb.cell (p := ⟨b, off + j * 2 + 1, none⟩) h2]
  exact h3 j p hj
/-- A row that lies above what may turn is as it was. -/
theorem SlP.above {w w' : World} {ao : Option Addr} {ps : List (Int × Int)} {B : Nat} (h : SlP w ao ps) (hn : ∀ a, ao = some a → B ≤ a.block) (hs : w.heap.size ≤ w'.heap.size) (hk : ∀ k, k < w.heap.size → B ≤ k → w'.heap[k]? = w.heap[k]?) : SlP w' ao ps := by
  intro k hk'
  obtain ⟨b, off, h1, h2, h3⟩ := h k hk'
  refine ⟨b, off, h1, Nat.lt_of_lt_of_le h2 hs, fun j p hj => ?_⟩
  have e : ∀ o, w'.cell? ⟨b, o, none⟩ = w.cell? ⟨b, o, none⟩ := fun o => by simp only [World.cell?, hk b h2 (hn _ h1)]
  rw [e, e]
  exact h3 j p hj
theorem SlP.drop {w : World} {b off : Nat} {ps : List (Int × Int)} (n : Nat) (h : SlP w (some ⟨b, off, none⟩) ps) : SlP w (some ⟨b, off + n * 2, none⟩) (ps.drop n) := by
  intro k hk
  rw [List.length_drop] at hk
  obtain ⟨b', off', h1, h2, h3⟩ := h (n + k) (by omega)
  cases h1
  refine ⟨b, off + n * 2, rfl, h2, fun j p hj => ?_⟩
  have := h3 (n + j) p (by rw [List.getElem?_drop] at hj; exact hj)
  rw [show off + (n + j) * 2 = off + n * 2 + j * 2 from by omega] at this
  exact this
theorem SlP.drewN {w : World} {ao : Option Addr} {ps : List (Int × Int)} (h : SlP w ao ps) (n : Nat) : SlP (w.drewN n) ao ps := h
theorem SlP.drew {w : World} {ao : Option Addr} {ps : List (Int × Int)} (h : SlP w ao ps) : SlP w.drew ao ps := h

/-- A row of pairs that a call owns. -/
def OwnP (w : World) (base : Nat) (t : TypeId) (v : Value) (ps : List (Int × Int)) : Prop := w.ownsRow base t 2 v ps.length (flatD ps)
theorem OwnP.nil (w : World) (base : Nat) (t : TypeId) : OwnP w base t (.slice none 0 0) [] := ⟨rfl, .inl ⟨rfl, rfl⟩⟩
theorem OwnP.sl {w : World} {base : Nat} {t : TypeId} {v : Value} {ps : List (Int × Int)} (h : OwnP w base t v ps) :
    ∃ ao cap, v = .slice ao ps.length cap ∧ ps.length ≤ cap ∧ cap ≤ maxLen ∧ SlP w ao ps ∧ ∀ a, ao = some a → base ≤ a.block := by
  rcases h.2 with ⟨rfl, h0⟩ | ⟨g, cap, cur, rfl, hb, hg, hc, hm, _, ht⟩
  · exact ⟨none, 0, by rw [h0], by omega, Nat.zero_le _, (fun k hk => by omega), fun a ha => by cases ha⟩
  · refine ⟨some ⟨g, 0, none⟩, cap, rfl, hc, hm, (fun k _ => ⟨g, 0, rfl, lt_of_block hg, fun j p hj => ?_⟩), fun a ha => by cases ha; exact hb⟩
    obtain ⟨e1, e2⟩ := flatD_get ps j p hj
    have hlt : j < ps.length := by
      rcases Nat.lt_or_ge j ps.length with h | h
      · exact h
      · rw [List.getElem?_eq_none h] at hj; cases hj
    rw [← ht, List.getElem?_take, if_pos (by omega)] at e1 e2
    rw [Nat.zero_add]
    simp only [Array.getElem?_toList] at e1 e2
    simp [World.cell?, hg, e1, e2]
theorem OwnP.alloc {w : World} {base : Nat} {t : TypeId} {v : Value} {ps : List (Int × Int)} (h : OwnP w base t v ps) (o : Obj) : OwnP (w.alloc o) base t v ps := World.ownsRow.alloc h o
theorem OwnP.below {w w' : World} {base : Nat} {t : TypeId} {v : Value} {ps : List (Int × Int)} (h : OwnP w base t v ps) (hb : Below w.heap.size w w') : OwnP w' base t v ps := own_below h hb
theorem OwnP.base {w : World} {base base' : Nat} {t : TypeId} {v : Value} {ps : List (Int × Int)} (h : OwnP w base t v ps) (hb : base' ≤ base) : OwnP w base' t v ps := by
  refine ⟨h.1, ?_⟩
  rcases h.2 with h2 | ⟨g, cap, cur, h1, h2, h3⟩
  · exact .inl h2
  · exact .inr ⟨g, cap, cur, h1, Nat.le_trans hb h2, h3⟩
theorem OwnP.kept {w w' : World} {base : Nat} {t : TypeId} {v : Value} {ps : List (Int × Int)} {row : Option Nat} (h : OwnP w base t v ps) (hg : w.grownBy w' row) (hr : v.ownBlock = none ∨ v.ownBlock ≠ row) : OwnP w' base t v ps := World.ownsRow.kept h hg hr
/-- The cells of a piece of a row, as an append wants them. -/
theorem SlP.news {w : World} {b off : Nat} {ps : List (Int × Int)} (h : SlP w (some ⟨b, off, none⟩) ps) : ∀ j u, (flatD ps)[j]? = some u → w.cell? ((⟨b, off, none⟩ : Addr).add j) = some u := by
  intro j u hj
  have hlt : j < ps.length * 2 := by
    rcases Nat.lt_or_ge j (ps.length * 2) with h | h
    · exact h
    · rw [List.getElem?_eq_none (by rw [flatD_length]; exact h)] at hj; cases hj
  obtain ⟨b', off', h1, _, h3⟩ := h (j / 2) (by omega)
  cases h1
  have e : ps[j / 2]? = some (ps[j / 2]'(by omega)) := List.getElem?_eq_getElem _
  obtain ⟨g0, g1⟩ := flatD_get ps (j / 2) _ e
  obtain ⟨c0, c1⟩ := h3 (j / 2) _ e
  rw [add_plain]
  rcases Nat.mod_two_eq_zero_or_one j with hm | hm
  · rw [show j / 2 * 2 = j from by omega] at g0 c0
    rw [c0, ← hj, g0]
  · rw [show j / 2 * 2 + 1 = j from by omega] at g1
    rw [show off + j / 2 * 2 + 1 = off + j from by omega] at c1
    rw [c1, ← hj, g1]

section
variable {H : Type} {enc : TypeId × Value → H} {P : Program} {w : World} {base : Nat} {spare : Nat → Bool} {held : Bool}
/-- A slice of structs of two numbers that came in. -/
theorem open_pairs {t e ti : TypeId} {f0 f1 : Field} {v : Value} {d : DataW H} {ps : List MemPlace} (ht : P.underlying t = some (.slice e)) (he : P.underlying e = some (.struct #[f0, f1])) (hc : P.cellsOf e = 2)
    (e0 : f0.type = ti ∧ f0.offset = 0) (e1 : f1.type = ti ∧ f1.offset = 1) (hi : P.underlying ti = some (.int .i64)) (ci : P.cellsOf ti = 1)
    (h : DataW.Trod enc P w base spare held t v d ps) (hv : ∃ a len cap, v = .slice a len cap) :
    ∃ (ao : Option Addr) (len cap : Nat) (l : List (Int × Int)), v = .slice ao len cap ∧ l.length = len ∧ len ≤ cap ∧ cap ≤ maxLen ∧ SlP w ao l ∧ ∀ p ∈ l, -9223372036854775808 ≤ p.1 ∧ p.1 ≤ 9223372036854775807 ∧ -9223372036854775808 ≤ p.2 ∧ p.2 ≤ 9223372036854775807 := by
  obtain ⟨ao, len, cap, Cs, rfl, hl, hm, hx⟩ := open_rows ht hc (by omega) h hv
  have each : ∀ k, k < len → ∃ q : Int × Int, Cs k = [.int .i64 q.1, .int .i64 q.2] ∧ -9223372036854775808 ≤ q.1 ∧ q.1 ≤ 9223372036854775807 ∧ -9223372036854775808 ≤ q.2 ∧ q.2 ≤ 9223372036854775807 := by
    intro k hk
    obtain ⟨b, off, _, _, hlen, _, n, x, hy⟩ := hx k hk
    obtain ⟨y0, y1, m, _, _, t0, t1⟩ := ChangeShapes.trod_struct2 he hy
    match hcs : Cs k, hlen with
    | [c0, c1], _ =>
      rw [e0.1, e0.2, ci, hcs] at t0
      rw [e1.1, e1.2, ci, hcs] at t1
      obtain ⟨i0, g0, _, w0⟩ := DataW.trod_int hi t0
      obtain ⟨i1, g1, _, w1⟩ := DataW.trod_int hi t1
      simp at g0 g1
      refine ⟨(i0, i1), by rw [g0, g1], ?_⟩
      have a := Go.bounds_i64 w0
      have b := Go.bounds_i64 w1
      exact ⟨a.1, a.2, b.1, b.2⟩
  obtain ⟨q, hq⟩ := Deep.choose_lt each
  refine ⟨ao, len, cap, (List.range len).map q, rfl, by simp, hl, hm, fun k hk => ?_, fun p hp => ?_⟩
  · rw [List.length_map, List.length_range] at hk
    obtain ⟨b, off, h1, h2, _⟩ := hx k hk
    refine ⟨b, off, h1, h2, fun j p hj => ?_⟩
    have hjl : j < len ∧ p = q j := by
      rw [List.getElem?_map] at hj
      rcases Nat.lt_or_ge j len with hlt | hge
      · rw [List.getElem?_range hlt] at hj
        simp at hj
        exact ⟨hlt, hj.symm⟩
      · rw [List.getElem?_eq_none (by simpa using hge)] at hj
        cases hj
    obtain ⟨hjl, rfl⟩ := hjl
    obtain ⟨b', off', h1', _, _, h3, _⟩ := hx j hjl
    rw [h1] at h1'
    cases h1'
    obtain ⟨g1, _⟩ := hq j hjl
    have t0 := h3 0 (by omega)
    have t1 := h3 1 (by omega)
    rw [g1] at t0 t1
    exact ⟨by simpa using t0, by simpa [Nat.add_assoc] using t1⟩
  · obtain ⟨j, hj, rfl⟩ := List.mem_map.1 hp
    exact (hq j (List.mem_range.1 hj)).2
end
end Go.Proofs.Ytfpjdmplepepjaa

/-! PairEq: '==' and '!=' between two pairs. -/
namespace Go.Proofs.Ytfpjdmplepepjaa
open Go.RowKit

theorem pairEq (x1 x2 y1 y2 : Int) : ((x1, x2) = (y1, y2)) = (x1 = y1 ∧ x2 = y2) := by simp

theorem guardD (op : BinOp) (a b : Operand) (xs ys : Array Value) (w : World) : Sem.run Try.prog (eqGuard op 31 a b (.agg xs) (.agg ys)) w = .ok () w := run_eqGuard_agg w op _ a b xs ys (by kernel_rfl)
theorem equalD (x1 x2 y1 y2 : Int) (w : World) : (Op.equalIn 10000 31 (.agg #[.int .i64 x1, .int .i64 x2]) (.agg #[.int .i64 y1, .int .i64 y2])).run Try.prog w = .ok (decide ((x1, x2) = (y1, y2))) w := by
  rw [run_equalIn_agg w 9999 _ _ _ (by kernel_rfl) (by kernel_rfl)]
  by_cases h1 : x1 = y1
  · by_cases h2 : x2 = y2
    · simp [go_sem, Try.underlying31, Try.underlying3, h1, h2]
      done
    · simp [go_sem, Try.underlying31, Try.underlying3, h1, h2]
      done
  · simp [go_sem, Try.underlying31, Try.underlying3, h1]
    done
theorem eqlD (x1 x2 y1 y2 : Int) (b : Bool) (hb : decide ((x1, x2) = (y1, y2)) = b) (w : World) : Sem.run Try.prog (binOp .eql 31 (.agg #[.int .i64 x1, .int .i64 x2]) (.agg #[.int .i64 y1, .int .i64 y2])) w = .ok (.bool b) w := by
  rw [run_eql_struct, equalD, hb]; rfl
theorem neqD (x1 x2 y1 y2 : Int) (b : Bool) (hb : decide ((x1, x2) = (y1, y2)) = b) (w : World) : Sem.run Try.prog (binOp .neq 31 (.agg #[.int .i64 x1, .int .i64 x2]) (.agg #[.int .i64 y1, .int .i64 y2])) w = .ok (.bool (!b)) w := by
  rw [run_neq_struct, equalD, hb]; rfl
end Go.Proofs.Ytfpjdmplepepjaa

/-! PlainA: Plain arithmetic of the layer mint: the digits of a number in base 128. No program in sight. -/
namespace Go.Proofs.Ytfpjdmplepepjaa.Pl

/-- The k lowest digits of m, the greatest first, each with the mark 128. -/
def dg : Nat → Nat → List UInt8
  | 0, _ => []
  | k + 1, m => UInt8.ofNat (128 + m / 128 ^ k % 128) :: dg k m

theorem dg_length : ∀ k m, (dg k m).length = k
  | 0, _ => rfl
  | k + 1, m => by simp [dg, dg_length k m]

/-- How many digits a number has, at least one (up to ten are told). -/
def ndF : Nat → Nat → Nat
  | 0, _ => 1
  | f + 1, n => if n < 128 then 1 else ndF f (n / 128) + 1
def nd (n : Nat) : Nat := ndF 10 n

theorem ndF_pos : ∀ f n, 1 ≤ ndF f n
  | 0, _ => Nat.le_refl _
  | f + 1, n => by unfold ndF; split <;> omega
theorem nd_pos (n : Nat) : 1 ≤ nd n := ndF_pos 10 n

theorem ndF_spec : ∀ f n, n < 128 ^ (f + 1) → n < 128 ^ ndF f n ∧ (ndF f n = 1 ∨ 128 ^ (ndF f n - 1) ≤ n)
  | 0, n, h => by simpa [ndF] using h
  | f + 1, n, h => by
    unfold ndF
    split
    · next h1 => exact ⟨by simpa using h1, Or.inl rfl⟩
    · next h1 =>
      have h2 : n / 128 < 128 ^ (f + 1) := by
        rw [Nat.div_lt_iff_lt_mul (by decide)]; simpa [Nat.pow_succ] using h
      obtain ⟨a, b⟩ := ndF_spec f (n / 128) h2
      have hp := ndF_pos f (n / 128)
      refine ⟨?_, Or.inr ?_⟩
      · rw [Nat.pow_succ]
        exact (Nat.div_lt_iff_lt_mul (by decide)).1 a
      · rw [Nat.add_sub_cancel]
        rcases b with b | b
        · rw [b]; omega
        · obtain ⟨q, hq⟩ : ∃ q, ndF f (n / 128) = q + 1 := ⟨ndF f (n / 128) - 1, by omega⟩
          rw [hq] at b ⊢
          rw [Nat.add_sub_cancel] at b
          rw [Nat.pow_succ]
          exact (Nat.le_div_iff_mul_le (by decide)).1 b

theorem nd_spec (n : Nat) (h : n < 18446744073709551616) : n < 128 ^ nd n ∧ (nd n = 1 ∨ 128 ^ (nd n - 1) ≤ n) :=
  ndF_spec 10 n (Nat.lt_of_lt_of_le h (by decide))

theorem nd_unique (n k : Nat) (h : n < 18446744073709551616) (hk : 1 ≤ k) (h1 : n < 128 ^ k) (h2 : k = 1 ∨ 128 ^ (k - 1) ≤ n) : k = nd n := by
  obtain ⟨a, b⟩ := nd_spec n h
  have hp := nd_pos n
  rcases Nat.lt_trichotomy k (nd n) with hlt | heq | hgt
  · rcases b with b | b
    · omega
    · have : 128 ^ k ≤ 128 ^ (nd n - 1) := Nat.pow_le_pow_right (by decide) (by omega)
      omega
  · exact heq
  · rcases h2 with h2 | h2
    · omega
    · have : 128 ^ nd n ≤ 128 ^ (k - 1) := Nat.pow_le_pow_right (by decide) (by omega)
      omega

theorem nd_le (n : Nat) (h : n < 18446744073709551616) : nd n ≤ 10 := by
  have hp := nd_pos n
  rcases (nd_spec n h).2 with b | b
  · omega
  · rcases Nat.lt_or_ge 10 (nd n) with hgt | hle
    · have : 128 ^ 10 ≤ 128 ^ (nd n - 1) := Nat.pow_le_pow_right (by decide) (by omega)
      have h10 : (128 : Nat) ^ 10 = 1180591620717411303424 := by decide
      omega
    · exact hle

/-- A number's bytes (P1.1). -/
def num (n : Nat) : List UInt8 := dg (nd n - 1) (n / 128) ++ [UInt8.ofNat (n % 128)]

theorem num_length (n : Nat) : (num n).length = nd n := by
  have := nd_pos n
  simp [num, dg_length]; omega
theorem num_length_le (n : Nat) (h : n < 18446744073709551616) : (num n).length ≤ 10 := by rw [num_length]; exact nd_le n h

theorem num_small (n : Nat) (h : n < 128) : num n = [UInt8.ofNat n] := by
  have h1 : nd n = 1 := by simp [nd, ndF, h]
  simp [num, h1, dg, Nat.mod_eq_of_lt h]

/-- How many bytes the program makes room for. -/
theorem bitLen_lt (n : Nat) (h : n < 18446744073709551616) : n < 2 ^ Lib.bitLen n ∧ (n = 0 ∨ 2 ^ (Lib.bitLen n - 1) ≤ n) := by
  have key : ∀ f x, x < 2 ^ f → x < 2 ^ Lib.bitLenAux f x ∧ (x = 0 ∨ 2 ^ (Lib.bitLenAux f x - 1) ≤ x) := by
    intro f
    induction f with
    | zero =>
      intro x hx
      have h0 : x = 0 := by simpa using hx
      subst h0; simp [Lib.bitLenAux]
    | succ f ih =>
      intro x hx
      unfold Lib.bitLenAux
      split
      · next h0 => subst h0; simp
      · next h0 =>
        have hx2 : x / 2 < 2 ^ f := by rw [Nat.pow_succ] at hx; omega
        obtain ⟨a, b⟩ := ih (x / 2) hx2
        refine ⟨by rw [Nat.pow_add]; omega, Or.inr ?_⟩
        rw [Nat.add_sub_cancel_left]
        by_cases h3 : Lib.bitLenAux f (x / 2) = 0
        · rw [h3]; simp; omega
        · obtain ⟨q, hq⟩ : ∃ q, Lib.bitLenAux f (x / 2) = q + 1 := ⟨Lib.bitLenAux f (x / 2) - 1, by omega⟩
          rw [hq] at a b ⊢
          rw [Nat.add_sub_cancel] at b
          rcases b with b | b
          · rw [b] at hq
            exfalso
            cases f <;> simp [Lib.bitLenAux] at hq
          · rw [Nat.pow_succ]; omega
  exact key 64 n h

theorem many_eq (n : Nat) (h : n < 18446744073709551616) : max ((Lib.bitLen n + 6) / 7) 1 = nd n := by
  obtain ⟨a, b⟩ := bitLen_lt n h
  have e : ∀ k, (128 : Nat) ^ k = 2 ^ (7 * k) := fun k => by rw [Nat.pow_mul]
  refine nd_unique n _ h (by omega) ?_ ?_
  · rw [e]
    refine Nat.lt_of_lt_of_le a (Nat.pow_le_pow_right (by decide) ?_)
    omega
  · rcases b with b | b
    · subst b; left; decide
    · by_cases h1 : (Lib.bitLen n + 6) / 7 ≤ 1
      · left; omega
      · right
        rw [e]
        refine Nat.le_trans (Nat.pow_le_pow_right (by decide) ?_) b
        omega

theorem bitLen_le (n : Nat) : Lib.bitLen n ≤ 64 := by
  have key : ∀ f x, Lib.bitLenAux f x ≤ f := by
    intro f
    induction f with
    | zero => intro x; simp [Lib.bitLenAux]
    | succ f ih => intro x; have := ih (x / 2); unfold Lib.bitLenAux; split <;> omega
  exact key 64 n

/-- The cells behind i rounds: the i last bytes hold a digit with its mark. -/
def cellN (many n i j : Nat) : Nat := if many - 1 - j < i then 128 + n / 128 ^ (many - 1 - j) % 128 else 0

theorem dg_get : ∀ k m j, j < k → (dg k m)[j]? = some (UInt8.ofNat (128 + m / 128 ^ (k - 1 - j) % 128))
  | 0, _, _, h => by omega
  | k + 1, m, 0, _ => by simp [dg]
  | k + 1, m, j + 1, h => by
    simp only [dg, List.getElem?_cons_succ]
    rw [dg_get k m j (by omega), show k + 1 - 1 - (j + 1) = k - 1 - j from by omega]

/-- Told from behind: a digit more. -/
theorem dg_snoc : ∀ k m, dg (k + 1) m = dg k (m / 128) ++ [UInt8.ofNat (128 + m % 128)]
  | 0, m => by simp [dg]
  | k + 1, m => by
    rw [dg, dg_snoc k m]
    simp only [dg, List.cons_append]
    congr 3
    rw [Nat.div_div_eq_div_mul, Nat.pow_succ, Nat.mul_comm 128]

/-- A step of the document's loop. -/
theorem ref_step (n k m : Nat) (hn : n < 18446744073709551616) (hm : m = n / 128 ^ k) (h : 128 ≤ m) :
    m / 128 = n / 128 ^ (k + 1) ∧ dg (k + 1) (n / 128) = UInt8.ofNat (128 + m / 128 % 128) :: dg k (n / 128) ∧ 128 ^ (k + 1) ≤ n ∧ k + 1 ≤ 10 := by
  have e : n / 128 / 128 ^ k = m / 128 := by rw [hm, Nat.div_div_eq_div_mul, Nat.div_div_eq_div_mul, Nat.mul_comm]
  have h3 : 128 ^ (k + 1) ≤ n := by
    rw [Nat.pow_succ, Nat.mul_comm]
    rw [hm] at h
    exact (Nat.le_div_iff_mul_le (Nat.pow_pos (by decide))).1 h
  refine ⟨by rw [hm, Nat.div_div_eq_div_mul, Nat.pow_succ], by rw [dg, e], h3, ?_⟩
  rcases Nat.lt_or_ge 10 (k + 1) with hgt | hle
  · have : (128 : Nat) ^ 10 ≤ 128 ^ (k + 1) := Nat.pow_le_pow_right (by decide) (by omega)
    have h10 : (128 : Nat) ^ 10 = 1180591620717411303424 := by decide
    omega
  · exact hle
theorem ref_end (n k m : Nat) (hn : n < 18446744073709551616) (hm : m = n / 128 ^ k) (h : m < 128) (h2 : k = 0 ∨ 128 ^ k ≤ n) :
    dg k (n / 128) ++ [UInt8.ofNat (n % 128)] = num n := by
  have : k + 1 = nd n := by
    refine nd_unique n (k + 1) hn (by omega) ?_ ?_
    · rw [Nat.pow_succ, Nat.mul_comm]
      rw [hm] at h
      exact (Nat.div_lt_iff_lt_mul (Nat.pow_pos (by decide))).1 h
    · rcases h2 with h2 | h2
      · left; omega
      · right; simpa using h2
  rw [num, ← this]; rfl

/-- A number is read: so many digits at most; whether this is the first; what was read; the bytes. -/
def rdG : Nat → Bool → Nat → List UInt8 → Option (Nat × List UInt8)
  | 0, _, _, _ => none
  | _ + 1, _, _, [] => none
  | f + 1, first, n, c :: l =>
    if 144115188075855872 ≤ n ∨ (first = true ∧ c = 128) then none
    else if c < 128 then some (n * 128 + c.toNat % 128, l) else rdG f false (n * 128 + c.toNat % 128) l
def rdNum (l : List UInt8) : Option (Nat × List UInt8) := rdG 10 true 0 l

theorem mark_toNat (x : Nat) (h : x < 128) : (UInt8.ofNat (128 + x)).toNat = 128 + x := by
  rw [UInt8.toNat_ofNat']; omega
theorem plain_toNat (x : Nat) (h : x < 128) : (UInt8.ofNat x).toNat = x := by
  rw [UInt8.toNat_ofNat']; omega

theorem rdG_num (n : Nat) (hn : n < 18446744073709551616) (r : List UInt8) : ∀ (k f : Nat) (first : Bool), k + 1 ≤ f → (first = true → k = 0 ∨ n / 128 ^ k % 128 ≠ 0) →
    rdG f first (n / 128 ^ (k + 1)) (dg k (n / 128) ++ UInt8.ofNat (n % 128) :: r) = some (n, r)
  | 0, f, first, hf, _ => by
    obtain ⟨g, rfl⟩ : ∃ g, f = g + 1 := ⟨f - 1, by omega⟩
    have h1 : (UInt8.ofNat (n % 128)).toNat = n % 128 := plain_toNat _ (by omega)
    have h2 : UInt8.ofNat (n % 128) < 128 := by rw [UInt8.lt_iff_toNat_lt, h1]; exact Nat.mod_lt _ (by decide)
    simp only [dg, List.nil_append, rdG, Nat.zero_add, Nat.pow_one]
    rw [if_neg, if_pos h2, h1]
    · congr 2; omega
    · rintro (h3 | ⟨_, h3⟩)
      · omega
      · rw [h3] at h2; exact absurd h2 (by decide)
  | k + 1, f, first, hf, hz => by
    obtain ⟨g, rfl⟩ : ∃ g, f = g + 1 := ⟨f - 1, by omega⟩
    have e0 : n / 128 / 128 ^ k = n / 128 ^ (k + 1) := by rw [Nat.div_div_eq_div_mul, Nat.pow_succ, Nat.mul_comm]
    have e1 : n / 128 ^ (k + 1 + 1) = n / 128 ^ (k + 1) / 128 := by rw [Nat.div_div_eq_div_mul, Nat.pow_succ]
    have h1 : (UInt8.ofNat (128 + n / 128 ^ (k + 1) % 128)).toNat = 128 + n / 128 ^ (k + 1) % 128 := mark_toNat _ (by omega)
    have h2 : ¬ UInt8.ofNat (128 + n / 128 ^ (k + 1) % 128) < 128 := by
      rw [UInt8.lt_iff_toNat_lt, h1]
      show ¬ _ < 128
      omega
    have h4 : n / 128 ^ (k + 1) ≤ n / 128 := Nat.div_le_div_left (by rw [Nat.pow_succ]; exact Nat.le_mul_of_pos_left _ (Nat.pow_pos (by decide))) (by decide)
    simp only [dg, List.cons_append, rdG, e0]
    rw [if_neg, if_neg h2, h1, e1]
    · rw [show n / 128 ^ (k + 1) / 128 * 128 + (128 + n / 128 ^ (k + 1) % 128) % 128 = n / 128 ^ (k + 1) from by omega]
      exact rdG_num n hn r k g false (by omega) (fun h => by cases h)
    · rintro (h3 | ⟨hfi, h3⟩)
      · omega
      · rcases hz hfi with h5 | h5
        · omega
        · have := congrArg UInt8.toNat h3
          rw [h1] at this
          have e : (128 : UInt8).toNat = 128 := rfl
          omega

/-- What was written is read again, and what stands behind it is left. -/
theorem rd_num (n : Nat) (hn : n < 18446744073709551616) (r : List UInt8) : rdNum (num n ++ r) = some (n, r) := by
  obtain ⟨a, b⟩ := nd_spec n hn
  have hp := nd_pos n
  have hle := nd_le n hn
  have h := rdG_num n hn r (nd n - 1) 10 true (by omega) (fun _ => by
    rcases b with b | b
    · left; omega
    · right
      have hq : 0 < 128 ^ (nd n - 1) := Nat.pow_pos (by decide)
      have h1 : n / 128 ^ (nd n - 1) < 128 := by
        rw [Nat.div_lt_iff_lt_mul hq, Nat.mul_comm, ← Nat.pow_succ, show Nat.succ (nd n - 1) = nd n from by omega]; exact a
      have h2 : 1 ≤ n / 128 ^ (nd n - 1) := (Nat.le_div_iff_mul_le hq).2 (by omega)
      omega)
  rw [show nd n - 1 + 1 = nd n from by omega, Nat.div_eq_of_lt a] at h
  rw [rdNum, num, List.append_assoc]
  exact h

/-- No number's bytes begin another one's. -/
theorem num_inj {a b : Nat} {r t : List UInt8} (ha : a < 18446744073709551616) (hb : b < 18446744073709551616) (h : num a ++ r = num b ++ t) : a = b ∧ r = t := by
  have h1 := rd_num a ha r
  rw [h, rd_num b hb t] at h1
  cases h1
  exact ⟨rfl, rfl⟩

end Go.Proofs.Ytfpjdmplepepjaa.Pl

/-! WireSmall: Small facts on worlds for the texts of wire. -/
namespace Go.Proofs.Ytfpjdmplepepjaa
open Go.RowKit

theorem bOld {w : World} (o : Obj) : Below w.heap.size w (w.alloc o) := (Below.refl _ _).alloc (Nat.le_refl _) _
theorem cell_al {w : World} {a : Addr} {v : Value} {o : Obj} (h : w.cell? a = some v) : (w.alloc o).cell? a = some v := by
  rw [World.cell?_alloc_some _ _ _ (by rw [h]; rfl)]; exact h
theorem blk_at {w : World} {c : Array Value} {t : TypeId} {k : Nat} (h : w.heap.size = k) : Blk (w.alloc (.cells c t)) k c t := h ▸ Blk.new w c t
theorem bDrewN {B : Nat} {w a : World} (h : Below B w a) (n : Nat) : Below B w (a.drewN n) := ⟨h.os, h.tape, h.output, h.size, h.block⟩
theorem bDrew {B : Nat} {w a : World} (h : Below B w a) : Below B w a.drew := ⟨h.os, h.tape, h.output, h.size, h.block⟩
theorem cell_dr {w : World} {a : Addr} {v : Value} (h : w.cell? a = some v) : w.drew.cell? a = some v := h
theorem num0 : Pl.num 0 = [0] := Pl.num_small 0 (by decide)
end Go.Proofs.Ytfpjdmplepepjaa

/-! CmpShelf: The laying of cmp.Compare at ints at this dump, in plain words (written by the shelf's tool, turned into a template). -/
namespace Go.Proofs.Ytfpjdmplepepjaa
open Go.Shelf
def Try.cmpInt_ren : Go.Shelf.Ren := ⟨fun | 5 => 113 | 7 => 116 | n => n, fun | 22 => 3 | 3 => 3 | 4 => 4 | n => n, fun | n => n⟩
theorem Try.cmpInt : Go.Proofs.SlLaysC2.n5 Try.prog Try.cmpInt_ren := {
  mixed := by kernel_rfl
  f5 := ⟨Try.f113.name, by decide, Try.func113.trans (congrArg some (by kernel_rfl))⟩
  f7 := ⟨Try.f116.name, by decide, Try.func116.trans (congrArg some (by kernel_rfl))⟩
  t3 := Try.underlying3
  a3 := Try.isAgg3
  z3 := Try.sizeOf3
  v3 := Try.zeroValue3
  t4 := Try.underlying4
  a4 := Try.isAgg4
  z4 := Try.sizeOf4
  v4 := Try.zeroValue4
  t22 := Try.underlying3
  a22 := Try.isAgg3
  z22 := Try.sizeOf3
  v22 := Try.zeroValue3 }
end Go.Proofs.Ytfpjdmplepepjaa

/-! BaseB: Rows of bytes that are made, and made texts of. -/
namespace Go.Proofs.Ytfpjdmplepepjaa
open Go.RowKit

/-- 'make([]byte, m)'. -/
theorem infoByte : (Try.prog.info? 5).map (fun i => (i.zero, i.size, i.bytes)) = some (some (.int .u8 0), 1, 1) := by kernel_rfl
theorem make_bytes (m : Nat) (h : m ≤ 281474976710656) (w : World) :
    (Instr.makeSlice 36 (.int .i64 (m : Int)) (.int .i64 (m : Int))).run Try.prog w = .ok (.slice (some ⟨w.heap.size, 0, none⟩) m m) (w.alloc (.cells (madeCells #[.int .u8 0] m) 5)) := by
  obtain ⟨i0, hi, hz0, hz1, hz2⟩ := info_parts infoByte
  have h := run_make (P := Try.prog) w 36 5 i0 (.int .u8 0) Try.underlying36 hi hz0 .i64 .i64 (m : Int) (m : Int) (by omega) (Int.le_refl _) (by rw [hz2]; omega) (by omega)
  simpa [hz1, Value.cells] using h

/-- 'string([]byte{x})'. -/
theorem conv_byte (x : Int) (b : UInt8) (hx : x = (b.toNat : Int)) (w : World) :
    (convert 36 9 (.slice (some ⟨w.heap.size, 0, none⟩) 1 1)).run Try.prog (w.alloc (.cells #[.int .u8 x] 5)) = .ok (.string (ofL [b])) (w.alloc (.cells #[.int .u8 x] 5)) := by
  subst hx
  exact conv_new w _ _ _ _ Try.underlying36 Try.underlying5 Try.underlying9 1 1 [b] _ rfl rfl

end Go.Proofs.Ytfpjdmplepepjaa

/-! Shelf: The contracts of math/bits.Len64 and math/bits.Mul64 at this dump, in plain words (written by the shelf's tool, turned into a template). -/
namespace Go.Proofs.Ytfpjdmplepepjaa
open Go.Shelf
def Try.lays129_ren : Go.Shelf.Ren := ⟨fun | 129 => 92 | n => n, fun | 53 => 98 | 3 => 3 | 4 => 4 | 46 => 132 | 5 => 5 | 9 => 9 | n => n, fun | n => n⟩
theorem Try.lays129 : Go.Proofs.Lays.n129 Try.prog Try.lays129_ren := {
  mixed := by kernel_rfl
  f129 := Try.func92.trans (congrArg some (by kernel_rfl))
  t3 := Try.underlying3
  a3 := Try.isAgg3
  z3 := Try.sizeOf3
  v3 := Try.zeroValue3
  t4 := Try.underlying4
  a4 := Try.isAgg4
  z4 := Try.sizeOf4
  v4 := Try.zeroValue4
  t5 := Try.underlying5
  a5 := Try.isAgg5
  z5 := Try.sizeOf5
  v5 := Try.zeroValue5
  t9 := Try.underlying9
  a9 := Try.isAgg9
  z9 := Try.sizeOf9
  v9 := Try.zeroValue9
  t46 := Try.underlying132
  a46 := Try.isAgg132
  z46 := Try.sizeOf132
  v46 := Try.zeroValue132
  t53 := Try.underlying98
  a53 := Try.isAgg98
  z53 := Try.sizeOf98
  v53 := Try.zeroValue98 }
/-- Len64 tells how many bits a number has. -/
theorem Try.bits_Len64 (x : Int) (w : World) (h0 : 0 ≤ x) (h1 : x ≤ 18446744073709551615) :
    Calls Try.prog 92 #[.int .u64 x] w fun e w' => e = .returned (.int .i64 (Lib.bitLen x.toNat)) ∧ w' = w := Any.bits_Len64 Try.lays129 x w h0 h1
def Try.lays264_ren : Go.Shelf.Ren := ⟨fun | 264 => 114 | n => n, fun | 53 => 98 | 46 => 132 | n => n, fun | n => n⟩
theorem Try.lays264 : Go.Proofs.Lays.n264 Try.prog Try.lays264_ren := {
  mixed := by kernel_rfl
  f264 := Try.func114.trans (congrArg some (by kernel_rfl))
  t46 := Try.underlying132
  a46 := Try.isAgg132
  z46 := Try.sizeOf132
  v46 := Try.zeroValue132
  t53 := Try.underlying98
  a53 := Try.isAgg98
  z53 := Try.sizeOf98
  v53 := Try.zeroValue98 }
open Go.RowKit Go.Lib in
theorem Try.bits_Mul64 (x y : Nat) (hx : x < 18446744073709551616) (hy : y < 18446744073709551616) (w : World) :
    Calls Try.prog 114 #[.int .u64 x, .int .u64 y] w fun e w' => e = .returned (.tuple #[.int .u64 ((x * y / 18446744073709551616 : Nat) : Int), .int .u64 ((x * y % 18446744073709551616 : Nat) : Int)]) ∧ w' = w := Any.bits_Mul64 Try.lays264 x y hx hy w
theorem len64_any (n : Nat) (w : World) (h : n < 18446744073709551616) :
    Calls Try.prog 92 #[.int .u64 n] w fun e w' => e = .returned (.int .i64 (Lib.bitLen n)) ∧ w = w' :=
  (Try.bits_Len64 n w (by omega) (by omega)).mono fun _ _ ⟨a, b⟩ => ⟨a, b.symm⟩
theorem mul64_any (x y : Nat) (w : World) (hx : x < 18446744073709551616) (hy : y < 18446744073709551616) :
    Calls Try.prog 114 #[.int .u64 x, .int .u64 y] w fun e w' => e = .returned (.tuple #[.int .u64 ((x * y / 18446744073709551616 : Nat) : Int), .int .u64 ((x * y % 18446744073709551616 : Nat) : Int)]) ∧ w = w' :=
  (Try.bits_Mul64 x y hx hy w).mono fun _ _ ⟨a, b⟩ => ⟨a, b.symm⟩
end Go.Proofs.Ytfpjdmplepepjaa

/-! Bytes: Small facts on texts as byte arrays, and on masks. -/
namespace Go.Proofs.Ytfpjdmplepepjaa
open Go.RowKit

theorem nil_append (t : ByteArray) : (⟨#[]⟩ : ByteArray) ++ t = t := bl_inj (by rw [bl_append]; rfl)
theorem append_nil (t : ByteArray) : t ++ (⟨#[]⟩ : ByteArray) = t := bl_inj (by rw [bl_append]; exact List.append_nil _)
theorem nil_size : (⟨#[]⟩ : ByteArray).size = 0 := rfl
theorem lit_size (l : Array UInt8) : (ByteArray.mk l).size = l.size := rfl
theorem nil_extract (a b : Nat) : (⟨#[]⟩ : ByteArray).extract a b = ⟨#[]⟩ := bl_inj (by rw [bl_extract]; simp [bl])
theorem app_size (a b : ByteArray) : (a ++ b).size = a.size + b.size := ByteArray.size_append
theorem app_assoc (a b c : ByteArray) : a ++ b ++ c = a ++ (b ++ c) := bl_inj (by simp [bl_append])
theorem app_extract_le (a b : ByteArray) (n : Nat) (h : n ≤ a.size) : (a ++ b).extract 0 n = a.extract 0 n := by
  refine bl_inj ?_
  rw [bl_extract, bl_extract, bl_append]
  simp only [List.drop_zero, Nat.sub_zero]
  exact List.take_append_of_le_length (by rw [bl_length]; exact h)
theorem app_extract_ge (a b : ByteArray) (n : Nat) (h : a.size ≤ n) : (a ++ b).extract 0 n = a ++ b.extract 0 (n - a.size) := by
  refine bl_inj ?_
  rw [bl_extract, bl_append, bl_append, bl_extract]
  simp only [List.drop_zero, Nat.sub_zero]
  rw [List.take_append, bl_length, List.take_of_length_le (by rw [bl_length]; exact h)]
theorem extract_all (a : ByteArray) (n : Nat) (h : a.size ≤ n) : a.extract 0 n = a := by
  refine bl_inj ?_
  rw [bl_extract]
  simp only [List.drop_zero, Nat.sub_zero]
  exact List.take_of_length_le (by rw [bl_length]; exact h)

/-- A text, cut. -/
def cutB (s : ByteArray) (n : Nat) : ByteArray := if n < s.size then s.extract 0 n else s
theorem cutB_le (s : ByteArray) (n : Nat) : (cutB s n).size ≤ n := by
  unfold cutB
  split
  · rw [ByteArray.size_extract]; omega
  · omega
theorem cutB_cases (s : ByteArray) (n : Nat) : (n < s.size ∧ s.extract 0 n = cutB s n) ∨ (¬ n < s.size ∧ s = cutB s n) := by
  unfold cutB
  by_cases h : n < s.size
  · exact .inl ⟨h, by rw [if_pos h]⟩
  · exact .inr ⟨h, by rw [if_neg h]⟩

/-- A number's lowest bits. -/
theorem and_mask (x : Int) (m : Nat) (hm : m < 9223372036854775808) : ∃ K : Nat, K ≤ m ∧ bits .and .i64 x (m : Int) = (K : Int) := by
  refine ⟨(BitVec.ofInt 64 x).toNat &&& m, Nat.and_le_right, ?_⟩
  have h2 : (BitVec.ofInt 64 (m : Int)).toNat = m := by
    rw [BitVec.ofInt_natCast, BitVec.toNat_ofNat]; exact Nat.mod_eq_of_lt (by omega)
  have hx : (BitVec.ofInt 64 x).toNat &&& m ≤ m := Nat.and_le_right
  show IntKind.i64.wrap ((BitVec.ofInt 64 x &&& BitVec.ofInt 64 (m : Int)).toNat : Int) = _
  rw [BitVec.toNat_and, h2, IntKind.wrap_i64]
  omega
theorem zeroCells (n : Nat) : madeCells #[Value.int IntKind.u8 0] n = byteCells (List.replicate n 0) := by
  apply Array.ext_getElem?
  intro j
  rw [byteCells_get]
  by_cases hj : j < n
  · simp [madeCells, hj, Nat.mod_one]
  · rw [Array.getElem?_eq_none_iff.2 (by rw [size_madeCells]; omega), List.getElem?_eq_none (by simp; omega)]; rfl

end Go.Proofs.Ytfpjdmplepepjaa

/-! RowsE: Slices of structs of any few cells: as they come in, as they are read. -/
namespace Go.Proofs.Ytfpjdmplepepjaa
open Go.ChangeShapes Go.WideShapes Go.ChangeAt Go.RowKit

/-- A slice: its elements are xs, each of k cells. -/
def SlE {α : Type} (enc : α → List Value) (k : Nat) (w : World) (ao : Option Addr) (xs : List α) : Prop :=
  ∀ i, i < xs.length → ∃ b off, ao = some ⟨b, off, none⟩ ∧ b < w.heap.size ∧ ∀ (j : Nat) (x : α), xs[j]? = some x → ∀ (c : Nat) (u : Value), (enc x)[c]? = some u → w.cell? ⟨b, off + j * k + c, none⟩ = some u
theorem SlE.nil {α : Type} (enc : α → List Value) (k : Nat) (w : World) (ao : Option Addr) : SlE enc k w ao [] := fun _ h => absurd h (Nat.not_lt_zero _)
theorem SlE.below {α : Type} {enc : α → List Value} {k : Nat} {w w' : World} {ao : Option Addr} {xs : List α} (h : SlE enc k w ao xs) (hb : Below w.heap.size w w') : SlE enc k w' ao xs := by
  intro i hi
  obtain ⟨b, off, h1, h2, h3⟩ := h i hi
  refine ⟨b, off, h1, Nat.lt_of_lt_of_le h2 hb.size, fun j x hj c u hu => ?_⟩
  rw [hb.cell (p := ⟨b, off + j * k + c, none⟩) h2]
  exact h3 j x hj c u hu
theorem SlE.take {α : Type} {enc : α → List Value} {k : Nat} {w : World} {ao : Option Addr} {xs : List α} (n : Nat) (h : SlE enc k w ao xs) : SlE enc k w ao (xs.take n) := by
  intro i hi
  rw [List.length_take] at hi
  obtain ⟨b, off, h1, h2, h3⟩ := h i (by omega)
  refine ⟨b, off, h1, h2, fun j x hj => h3 j x ?_⟩
  rw [List.getElem?_take] at hj
  split at hj
  · exact hj
  · cases hj
/-- One element: its place, and what each of its cells holds. -/
theorem SlE.get {α : Type} {enc : α → List Value} {k : Nat} {w : World} {ao : Option Addr} {xs : List α} (h : SlE enc k w ao xs) (i : Nat) (hi : i < xs.length) :
    ∃ b off x, ao = some ⟨b, off, none⟩ ∧ b < w.heap.size ∧ Hid (xs[i]? = some x) ∧ ∀ (c : Nat) (u : Value), (enc x)[c]? = some u → w.cell? ⟨b, off + i * k + c, none⟩ = some u := by
  obtain ⟨b, off, h1, h2, h3⟩ := h i hi
  exact ⟨b, off, xs[i], h1, h2, List.getElem?_eq_getElem hi, h3 i _ (List.getElem?_eq_getElem hi)⟩
section
variable {H : Type} {enc0 : TypeId × Value → H} {P : Program} {w : World} {base : Nat} {spare : Nat → Bool} {held : Bool}
/-- A slice that came in, where each element's cells are some x's. -/
theorem open_rowsE {α : Type} {enc : α → List Value} {k : Nat} {t e : TypeId} {v : Value} {d : DataW H} {ps : List MemPlace} (ht : P.underlying t = some (.slice e)) (hc : P.cellsOf e = k) (hk : 0 < k)
    (hx : ∀ (n : Nat) (cs : List Value) (y : DataW H × List MemPlace), cs.length = k → DataW.trod enc0 P w base spare held n e cs = some y → ∃ x, cs = enc x)
    (h : DataW.Trod enc0 P w base spare held t v d ps) (hv : ∃ a len cap, v = .slice a len cap) :
    ∃ (ao : Option Addr) (len cap : Nat) (l : List α), v = .slice ao len cap ∧ l.length = len ∧ len ≤ cap ∧ cap ≤ maxLen ∧ SlE enc k w ao l := by
  obtain ⟨ao, len, cap, Cs, rfl, hl, hm, hr⟩ := open_rows ht hc hk h hv
  have each : ∀ i, i < len → ∃ x : α, Cs i = enc x := by
    intro i hi
    obtain ⟨b, off, _, _, hlen, _, n, y, hy⟩ := hr i hi
    exact hx n _ y hlen hy
  by_cases h0 : len = 0
  · subst h0
    exact ⟨ao, 0, cap, [], rfl, rfl, hl, hm, SlE.nil _ _ _ _⟩
  obtain ⟨l, hll, hlq⟩ : ∃ l : List α, l.length = len ∧ ∀ j x, l[j]? = some x → ∃ h : j < len, enc x = Cs j := by
    have hg : ∀ m, m ≤ len → ∃ l : List α, l.length = m ∧ ∀ j x, l[j]? = some x → ∃ h : j < len, enc x = Cs j := by
      intro m
      induction m with
      | zero => exact fun _ => ⟨[], rfl, fun j x h => by simp at h⟩
      | succ m ih =>
        intro hm
        obtain ⟨l, h1, h2⟩ := ih (by omega)
        obtain ⟨x, hx⟩ := each m (by omega)
        refine ⟨l ++ [x], by simp [h1], fun j y hj => ?_⟩
        rcases Nat.lt_or_ge j l.length with h | h
        · rw [List.getElem?_append_left h] at hj
          exact h2 j y hj
        · rw [List.getElem?_append_right h] at hj
          have hj0 : j = l.length := by
            rcases Nat.lt_or_ge 0 (j - l.length) with h3 | h3
            · rw [List.getElem?_eq_none (by simp; omega)] at hj; cases hj
            · omega
          subst hj0
          rw [Nat.sub_self] at hj
          obtain rfl : x = y := by simpa using hj
          exact ⟨by omega, by rw [h1]; exact hx.symm⟩
    exact hg len (Nat.le_refl _)
  refine ⟨ao, len, cap, l, rfl, hll, hl, hm, fun i hi => ?_⟩
  obtain ⟨b, off, h1, h2, _⟩ := hr i (by omega)
  refine ⟨b, off, h1, h2, fun j x hj c u hu => ?_⟩
  obtain ⟨hjl, hxe⟩ := hlq j x hj
  obtain ⟨b', off', h1', _, hlen, hcell, _⟩ := hr j hjl
  rw [h1] at h1'
  cases h1'
  rw [hxe] at hu
  have hck : c < k := by
    rw [← hlen]
    rcases Nat.lt_or_ge c (Cs j).length with h | h
    · exact h
    · rw [List.getElem?_eq_none h] at hu; cases hu
  have := hcell c hck
  rw [← Nat.add_assoc] at this
  rw [this]; exact hu
/-- The same, of a field's one cell. -/
theorem open_cellE {α : Type} {enc : α → List Value} {k n : Nat} {t e : TypeId} {c : Value} {y : DataW H × List MemPlace} (ht : P.underlying t = some (.slice e)) (hc : P.cellsOf e = k) (hk : 0 < k)
    (hx : ∀ (n : Nat) (cs : List Value) (y : DataW H × List MemPlace), cs.length = k → DataW.trod enc0 P w base spare held n e cs = some y → ∃ x, cs = enc x)
    (h : DataW.trod enc0 P w base spare held n t [c] = some y) :
    ∃ (ao : Option Addr) (len cap : Nat) (l : List α), c = .slice ao len cap ∧ l.length = len ∧ len ≤ cap ∧ cap ≤ maxLen ∧ SlE enc k w ao l := by
  have hf : ∃ a len cap, c = .slice a len cap := by
    rcases DataW.trod_slice ht h with ⟨e, _⟩ | ⟨a, len, cap, _, _, _, _, e, _⟩
    · simp at e; exact ⟨none, 0, 0, e⟩
    · simp at e; exact ⟨some a, len, cap, e⟩
  obtain ⟨a, len, cap, rfl⟩ := hf
  obtain ⟨d, p⟩ := y
  exact open_rowsE ht hc hk hx (d := d) (ps := p) ⟨n, by simpa [Value.cells] using h⟩ ⟨a, len, cap, rfl⟩
end
end Go.Proofs.Ytfpjdmplepepjaa

/-! WireOpen: What may be said, as it comes in: a struct by value, with its rows. -/
namespace Go.Proofs.Ytfpjdmplepepjaa
open Go.ChangeShapes Go.WideShapes Go.ChangeAt Go.RowKit

/-- A name, a tag, a peer, a message: their cells. -/
abbrev Dot2 := Int × Int
abbrev Tag2 := ByteArray × Int
abbrev Peer3 := Int × Int × Int
structure Msg5 where
  node : Int
  n : Int
  queue : ByteArray
  body : ByteArray
  count : Int
def eDot (x : Dot2) : List Value := [.int .i64 x.1, .int .i64 x.2]
def eTag (x : Tag2) : List Value := [.string x.1, .int .i64 x.2]
def ePeer (x : Peer3) : List Value := [.int .i64 x.1, .int .i64 x.2.1, .int .i64 x.2.2]
def eMsg (x : Msg5) : List Value := [.int .i64 x.node, .int .i64 x.n, .string x.queue, .string x.body, .int .i64 x.count]
section
variable {H : Type} {enc0 : TypeId × Value → H} {w : World} {base : Nat} {spare : Nat → Bool} {held : Bool}
theorem cellsI : Try.prog.cellsOf 3 = 1 := by kernel_rfl
theorem cellsS : Try.prog.cellsOf 9 = 1 := by kernel_rfl
theorem in_dot (n : Nat) (cs : List Value) (y : DataW H × List MemPlace) (hl : cs.length = 2) (h : DataW.trod enc0 Try.prog w base spare held n 31 cs = some y) : ∃ x, cs = eDot x := by
  match cs, hl with
  | [c0, c1], _ =>
    obtain ⟨xs, m, _, _, _, hx, hf⟩ := DataW.trod_struct Try.underlying31 h
    have h0 : DataW.trod enc0 Try.prog w base spare held m 3 [c0] = xs[0]? := by simpa [cellsI] using hf 0 _ rfl
    have h1 : DataW.trod enc0 Try.prog w base spare held m 3 [c1] = xs[1]? := by simpa [cellsI] using hf 1 _ rfl
    obtain ⟨y0, hy0⟩ : ∃ y, xs[0]? = some y := ⟨xs[0]'(by rw [hx]; decide), by simp⟩
    rw [hy0] at h0
    obtain ⟨a0, e0, _⟩ := DataW.trod_int Try.underlying3 h0
    simp at e0
    obtain ⟨y1, hy1⟩ : ∃ y, xs[1]? = some y := ⟨xs[1]'(by rw [hx]; decide), by simp⟩
    rw [hy1] at h1
    obtain ⟨a1, e1, _⟩ := DataW.trod_int Try.underlying3 h1
    simp at e1
    exact ⟨(a0, a1), by rw [e0, e1]; rfl⟩
theorem in_tag (n : Nat) (cs : List Value) (y : DataW H × List MemPlace) (hl : cs.length = 2) (h : DataW.trod enc0 Try.prog w base spare held n 57 cs = some y) : ∃ x, cs = eTag x := by
  match cs, hl with
  | [c0, c1], _ =>
    obtain ⟨xs, m, _, _, _, hx, hf⟩ := DataW.trod_struct Try.underlying57 h
    have h0 : DataW.trod enc0 Try.prog w base spare held m 9 [c0] = xs[0]? := by simpa [cellsS] using hf 0 _ rfl
    have h1 : DataW.trod enc0 Try.prog w base spare held m 3 [c1] = xs[1]? := by simpa [cellsI] using hf 1 _ rfl
    obtain ⟨y0, hy0⟩ : ∃ y, xs[0]? = some y := ⟨xs[0]'(by rw [hx]; decide), by simp⟩
    rw [hy0] at h0
    obtain ⟨a0, e0, _⟩ := DataW.trod_string Try.underlying9 h0
    simp at e0
    obtain ⟨y1, hy1⟩ : ∃ y, xs[1]? = some y := ⟨xs[1]'(by rw [hx]; decide), by simp⟩
    rw [hy1] at h1
    obtain ⟨a1, e1, _⟩ := DataW.trod_int Try.underlying3 h1
    simp at e1
    exact ⟨(a0, a1), by rw [e0, e1]; rfl⟩
theorem in_peer (n : Nat) (cs : List Value) (y : DataW H × List MemPlace) (hl : cs.length = 3) (h : DataW.trod enc0 Try.prog w base spare held n 82 cs = some y) : ∃ x, cs = ePeer x := by
  match cs, hl with
  | [c0, c1, c2], _ =>
    obtain ⟨xs, m, _, _, _, hx, hf⟩ := DataW.trod_struct Try.underlying82 h
    have h0 : DataW.trod enc0 Try.prog w base spare held m 3 [c0] = xs[0]? := by simpa [cellsI] using hf 0 _ rfl
    have h1 : DataW.trod enc0 Try.prog w base spare held m 3 [c1] = xs[1]? := by simpa [cellsI] using hf 1 _ rfl
    have h2 : DataW.trod enc0 Try.prog w base spare held m 3 [c2] = xs[2]? := by simpa [cellsI] using hf 2 _ rfl
    obtain ⟨y0, hy0⟩ : ∃ y, xs[0]? = some y := ⟨xs[0]'(by rw [hx]; decide), by simp⟩
    rw [hy0] at h0
    obtain ⟨a0, e0, _⟩ := DataW.trod_int Try.underlying3 h0
    simp at e0
    obtain ⟨y1, hy1⟩ : ∃ y, xs[1]? = some y := ⟨xs[1]'(by rw [hx]; decide), by simp⟩
    rw [hy1] at h1
    obtain ⟨a1, e1, _⟩ := DataW.trod_int Try.underlying3 h1
    simp at e1
    obtain ⟨y2, hy2⟩ : ∃ y, xs[2]? = some y := ⟨xs[2]'(by rw [hx]; decide), by simp⟩
    rw [hy2] at h2
    obtain ⟨a2, e2, _⟩ := DataW.trod_int Try.underlying3 h2
    simp at e2
    exact ⟨(a0, a1, a2), by rw [e0, e1, e2]; rfl⟩
theorem cellsD : Try.prog.cellsOf 31 = 2 := by kernel_rfl
theorem in_msg (n : Nat) (cs : List Value) (y : DataW H × List MemPlace) (hl : cs.length = 5) (h : DataW.trod enc0 Try.prog w base spare held n 48 cs = some y) : ∃ x, cs = eMsg x := by
  match cs, hl with
  | [c0, c1, c2, c3, c4], _ =>
    obtain ⟨xs, m, _, _, _, hx, hf⟩ := DataW.trod_struct Try.underlying48 h
    have h0 : DataW.trod enc0 Try.prog w base spare held m 31 [c0, c1] = xs[0]? := by simpa [cellsD] using hf 0 _ rfl
    obtain ⟨y0, hy0⟩ : ∃ y, xs[0]? = some y := ⟨xs[0]'(by rw [hx]; decide), by simp⟩
    rw [hy0] at h0
    obtain ⟨⟨p, q⟩, e0⟩ := in_dot m _ _ rfl h0
    obtain ⟨e00, e01⟩ : c0 = .int .i64 p ∧ c1 = .int .i64 q := by simpa [eDot] using e0
    have h1 : DataW.trod enc0 Try.prog w base spare held m 9 [c2] = xs[1]? := by simpa [cellsS] using hf 1 _ rfl
    obtain ⟨y1, hy1⟩ : ∃ y, xs[1]? = some y := ⟨xs[1]'(by rw [hx]; decide), by simp⟩
    rw [hy1] at h1
    obtain ⟨a1, e1, _⟩ := DataW.trod_string Try.underlying9 h1
    simp at e1
    have h2 : DataW.trod enc0 Try.prog w base spare held m 9 [c3] = xs[2]? := by simpa [cellsS] using hf 2 _ rfl
    obtain ⟨y2, hy2⟩ : ∃ y, xs[2]? = some y := ⟨xs[2]'(by rw [hx]; decide), by simp⟩
    rw [hy2] at h2
    obtain ⟨a2, e2, _⟩ := DataW.trod_string Try.underlying9 h2
    simp at e2
    have h3 : DataW.trod enc0 Try.prog w base spare held m 3 [c4] = xs[3]? := by simpa [cellsI] using hf 3 _ rfl
    obtain ⟨y3, hy3⟩ : ∃ y, xs[3]? = some y := ⟨xs[3]'(by rw [hx]; decide), by simp⟩
    rw [hy3] at h3
    obtain ⟨a3, e3, _⟩ := DataW.trod_int Try.underlying3 h3
    simp at e3
    exact ⟨⟨p, q, a1, a2, a3⟩, by rw [e00, e01, e1, e2, e3]; rfl⟩
theorem cellsB : Try.prog.cellsOf 27 = 3 := by kernel_rfl
theorem cellsC : Try.prog.cellsOf 25 = 2 := by kernel_rfl
theorem cellsTs : Try.prog.cellsOf 28 = 1 := by kernel_rfl
theorem cellsVs : Try.prog.cellsOf 29 = 1 := by kernel_rfl
theorem cellsMs : Try.prog.cellsOf 22 = 1 := by kernel_rfl
theorem cellsDs : Try.prog.cellsOf 23 = 1 := by kernel_rfl
set_option maxRecDepth 100000 in
set_option maxHeartbeats 1000000 in
/-- What may be said, by value, as it came in. -/
theorem open_wire {r : Reach} {b0 : Nat} {v : Value} {d : DataW H} {ps : List MemPlace} (hv : Value.okWide Try.prog w r b0 33 v) (h : DataW.Trod enc0 Try.prog w base spare held 33 v d ps) :
    ∃ (k f s p fl d0 d1 rc lg : Int) (mark : ByteArray) (am ab ac ag av : Option Addr) (nm km nb kb nc kc ng kg nv kv : Nat) (live : List Msg5) (bs cl : List Dot2) (tags : List Tag2) (view : List Peer3),
      v = .agg #[.int .i64 k, .int .i64 f, .int .i64 s, .int .i64 p, .int .i64 fl, .string mark, .slice am nm km, .slice ab nb kb, .slice ac nc kc, .slice ag ng kg, .slice av nv kv, .int .i64 d0, .int .i64 d1, .int .i64 rc, .int .i64 lg] ∧
      (live.length = nm ∧ nm ≤ km ∧ km ≤ maxLen ∧ SlE eMsg 5 w am live) ∧ (bs.length = nb ∧ nb ≤ kb ∧ kb ≤ maxLen ∧ SlE eDot 2 w ab bs) ∧ (cl.length = nc ∧ nc ≤ kc ∧ kc ≤ maxLen ∧ SlE eDot 2 w ac cl) ∧
      (tags.length = ng ∧ ng ≤ kg ∧ kg ≤ maxLen ∧ SlE eTag 2 w ag tags) ∧ (view.length = nv ∧ nv ≤ kv ∧ kv ≤ maxLen ∧ SlE ePeer 3 w av view) := by
  obtain ⟨⟨l⟩, rfl, hsz⟩ := okWide_struct Try.underlying33 hv
  rw [show Try.prog.cellsOf 33 = 15 by kernel_rfl] at hsz
  match l, hsz with
  | [c0, c1, c2, c3, c4, c5, c6, c7, c8, c9, c10, c11, c12, c13, c14], _ =>
    obtain ⟨fuel, hfu⟩ := h
    obtain ⟨xs, m, _, _, _, hx, hf⟩ := DataW.trod_struct Try.underlying33 hfu
    have h0 : DataW.trod enc0 Try.prog w base spare held m 3 [c0] = xs[0]? := by simpa [cellsI, Value.cells] using hf 0 _ rfl
    obtain ⟨y0, hy0⟩ : ∃ y, xs[0]? = some y := ⟨xs[0]'(by rw [hx]; decide), by simp⟩
    rw [hy0] at h0
    obtain ⟨a0, e0, _⟩ := DataW.trod_int Try.underlying3 h0
    simp at e0
    subst e0
    have h1 : DataW.trod enc0 Try.prog w base spare held m 3 [c1] = xs[1]? := by simpa [cellsI, Value.cells] using hf 1 _ rfl
    obtain ⟨y1, hy1⟩ : ∃ y, xs[1]? = some y := ⟨xs[1]'(by rw [hx]; decide), by simp⟩
    rw [hy1] at h1
    obtain ⟨a1, e1, _⟩ := DataW.trod_int Try.underlying3 h1
    simp at e1
    subst e1
    have h2 : DataW.trod enc0 Try.prog w base spare held m 3 [c2] = xs[2]? := by simpa [cellsI, Value.cells] using hf 2 _ rfl
    obtain ⟨y2, hy2⟩ : ∃ y, xs[2]? = some y := ⟨xs[2]'(by rw [hx]; decide), by simp⟩
    rw [hy2] at h2
    obtain ⟨a2, e2, _⟩ := DataW.trod_int Try.underlying3 h2
    simp at e2
    subst e2
    have h3 : DataW.trod enc0 Try.prog w base spare held m 3 [c3] = xs[3]? := by simpa [cellsI, Value.cells] using hf 3 _ rfl
    obtain ⟨y3, hy3⟩ : ∃ y, xs[3]? = some y := ⟨xs[3]'(by rw [hx]; decide), by simp⟩
    rw [hy3] at h3
    obtain ⟨a3, e3, _⟩ := DataW.trod_int Try.underlying3 h3
    simp at e3
    subst e3
    have h4 : DataW.trod enc0 Try.prog w base spare held m 3 [c4] = xs[4]? := by simpa [cellsI, Value.cells] using hf 4 _ rfl
    obtain ⟨y4, hy4⟩ : ∃ y, xs[4]? = some y := ⟨xs[4]'(by rw [hx]; decide), by simp⟩
    rw [hy4] at h4
    obtain ⟨a4, e4, _⟩ := DataW.trod_int Try.underlying3 h4
    simp at e4
    subst e4
    have h5 : DataW.trod enc0 Try.prog w base spare held m 9 [c5] = xs[5]? := by simpa [cellsS, Value.cells] using hf 5 _ rfl
    obtain ⟨y5, hy5⟩ : ∃ y, xs[5]? = some y := ⟨xs[5]'(by rw [hx]; decide), by simp⟩
    rw [hy5] at h5
    obtain ⟨a5, e5, _⟩ := DataW.trod_string Try.underlying9 h5
    simp at e5
    subst e5
    have h6 : DataW.trod enc0 Try.prog w base spare held m 27 [c6, c7, c8] = xs[6]? := by simpa [cellsB, Value.cells] using hf 6 _ rfl
    obtain ⟨y6, hy6⟩ : ∃ y, xs[6]? = some y := ⟨xs[6]'(by rw [hx]; decide), by simp⟩
    rw [hy6] at h6
    have h7 : DataW.trod enc0 Try.prog w base spare held m 28 [c9] = xs[7]? := by simpa [cellsTs, Value.cells] using hf 7 _ rfl
    obtain ⟨y7, hy7⟩ : ∃ y, xs[7]? = some y := ⟨xs[7]'(by rw [hx]; decide), by simp⟩
    rw [hy7] at h7
    have h8 : DataW.trod enc0 Try.prog w base spare held m 29 [c10] = xs[8]? := by simpa [cellsVs, Value.cells] using hf 8 _ rfl
    obtain ⟨y8, hy8⟩ : ∃ y, xs[8]? = some y := ⟨xs[8]'(by rw [hx]; decide), by simp⟩
    rw [hy8] at h8
    have h9 : DataW.trod enc0 Try.prog w base spare held m 31 [c11, c12] = xs[9]? := by simpa [cellsD, Value.cells] using hf 9 _ rfl
    obtain ⟨y9, hy9⟩ : ∃ y, xs[9]? = some y := ⟨xs[9]'(by rw [hx]; decide), by simp⟩
    rw [hy9] at h9
    have h10 : DataW.trod enc0 Try.prog w base spare held m 3 [c13] = xs[10]? := by simpa [cellsI, Value.cells] using hf 10 _ rfl
    obtain ⟨y10, hy10⟩ : ∃ y, xs[10]? = some y := ⟨xs[10]'(by rw [hx]; decide), by simp⟩
    rw [hy10] at h10
    obtain ⟨a10, e10, _⟩ := DataW.trod_int Try.underlying3 h10
    simp at e10
    subst e10
    have h11 : DataW.trod enc0 Try.prog w base spare held m 3 [c14] = xs[11]? := by simpa [cellsI, Value.cells] using hf 11 _ rfl
    obtain ⟨y11, hy11⟩ : ∃ y, xs[11]? = some y := ⟨xs[11]'(by rw [hx]; decide), by simp⟩
    rw [hy11] at h11
    obtain ⟨a11, e11, _⟩ := DataW.trod_int Try.underlying3 h11
    simp at e11
    subst e11
    obtain ⟨⟨d0, d1⟩, e9⟩ := in_dot m _ _ rfl h9
    obtain ⟨rfl, rfl⟩ : c11 = .int .i64 d0 ∧ c12 = .int .i64 d1 := by simpa [eDot] using e9
    obtain ⟨ag, ng, kg, tags, rfl, t1, t2, t3, t4⟩ := open_cellE (enc := eTag) Try.underlying28 (show Try.prog.cellsOf 57 = 2 by kernel_rfl) (by decide) in_tag h7
    obtain ⟨av, nv, kv, view, rfl, v1, v2, v3, v4⟩ := open_cellE (enc := ePeer) Try.underlying29 (show Try.prog.cellsOf 82 = 3 by kernel_rfl) (by decide) in_peer h8
    obtain ⟨zs, m2, _, _, _, hz, hg⟩ := DataW.trod_struct Try.underlying27 h6
    have g0 : DataW.trod enc0 Try.prog w base spare held m2 22 [c6] = zs[0]? := by simpa [cellsMs] using hg 0 _ rfl
    have g1 : DataW.trod enc0 Try.prog w base spare held m2 25 [c7, c8] = zs[1]? := by simpa [cellsC] using hg 1 _ rfl
    obtain ⟨u0, hu0⟩ : ∃ y, zs[0]? = some y := ⟨zs[0]'(by rw [hz]; decide), by simp⟩
    obtain ⟨u1, hu1⟩ : ∃ y, zs[1]? = some y := ⟨zs[1]'(by rw [hz]; decide), by simp⟩
    rw [hu0] at g0
    rw [hu1] at g1
    obtain ⟨am, nm, km, live, rfl, m1, m2', m3, m4⟩ := open_cellE (enc := eMsg) Try.underlying22 (show Try.prog.cellsOf 48 = 5 by kernel_rfl) (by decide) in_msg g0
    obtain ⟨ws, m5, _, _, _, hw, hq⟩ := DataW.trod_struct Try.underlying25 g1
    have q0 : DataW.trod enc0 Try.prog w base spare held m5 23 [c7] = ws[0]? := by simpa [cellsDs] using hq 0 _ rfl
    have q1 : DataW.trod enc0 Try.prog w base spare held m5 23 [c8] = ws[1]? := by simpa [cellsDs] using hq 1 _ rfl
    obtain ⟨s0, hs0⟩ : ∃ y, ws[0]? = some y := ⟨ws[0]'(by rw [hw]; decide), by simp⟩
    obtain ⟨s1, hs1⟩ : ∃ y, ws[1]? = some y := ⟨ws[1]'(by rw [hw]; decide), by simp⟩
    rw [hs0] at q0
    rw [hs1] at q1
    obtain ⟨ab, nb, kb, bs, rfl, b1, b2, b3, b4⟩ := open_cellE (enc := eDot) Try.underlying23 cellsD (by decide) in_dot q0
    obtain ⟨ac, nc, kc, cl, rfl, l1, l2, l3, l4⟩ := open_cellE (enc := eDot) Try.underlying23 cellsD (by decide) in_dot q1
    exact ⟨a0, a1, a2, a3, a4, d0, d1, a10, a11, a5, am, ab, ac, ag, av, nm, km, nb, kb, nc, kc, ng, kg, nv, kv, live, bs, cl, tags, view, rfl, ⟨m1, m2', m3, m4⟩, ⟨b1, b2, b3, b4⟩, ⟨l1, l2, l3, l4⟩, ⟨t1, t2, t3, t4⟩, ⟨v1, v2, v3, v4⟩⟩
end
end Go.Proofs.Ytfpjdmplepepjaa

