/- Rows of structs of any few cells that a call owns; append onto them. (and what stands on it: 4 texts in one) -/
import Derived.Laws.AppendOwnNone
import Derived.Laws.Cover3
import Derived.Laws.Tables
import Derived.Laws.CopyOwn
import Derived.Deep.CutBlock
import Derived.Outline
import Derived.Deep.DeepCutAuto
import Derived.Deep.AppendLies
import Derived.Test.YtfpjdmplepepjaaJ1
import Derived.Test.YtfpjdmplepepjaaJ5
/-! OwnE: Rows of structs of any few cells that a call owns; append onto them. -/
namespace Go.Proofs.Ytfpjdmplepepjaa
open Go.RowKit Go.WideShapes

/-- All rows' cells, one row behind another. -/
def flatE {α : Type} (enc : α → List Value) (xs : List α) : List Value := xs.flatMap enc
/-- Each row has k cells, each of them one cell. -/
structure EncOk {α : Type} (enc : α → List Value) (k : Nat) : Prop where
  pos : 0 < k
  len : ∀ x, (enc x).length = k
  one : ∀ x, ∀ u ∈ enc x, u.oneCell' = true
section
variable {α : Type} {enc : α → List Value} {k : Nat}
theorem EncOk.flat (h : EncOk enc k) : ∀ xs : List α, (flatE enc xs).length = xs.length * k
  | [] => by simp [flatE]
  | x :: xs => by
    show (enc x ++ flatE enc xs).length = _
    rw [List.length_append, h.len, h.flat xs, List.length_cons, Nat.add_mul, Nat.one_mul, Nat.add_comm]
theorem flatE_append (xs ys : List α) : flatE enc (xs ++ ys) = flatE enc xs ++ flatE enc ys := by simp [flatE]
theorem flatE_one (x : α) : flatE enc [x] = enc x := by simp [flatE]
theorem EncOk.flat_one (h : EncOk enc k) (xs : List α) : ∀ u ∈ flatE enc xs, u.oneCell' = true := by
  intro u hu
  obtain ⟨x, _, hx⟩ := List.mem_flatMap.1 hu
  exact h.one x u hx
theorem EncOk.get (h : EncOk enc k) : ∀ (xs : List α) (j : Nat) (x : α) (c : Nat) (u : Value), xs[j]? = some x → (enc x)[c]? = some u → (flatE enc xs)[j * k + c]? = some u
  | [], j, x, c, u, h1, _ => by simp at h1
  | y :: ys, 0, x, c, u, h1, h2 => by
    obtain rfl : y = x := by simpa using h1
    show (enc y ++ flatE enc ys)[0 * k + c]? = _
    rw [Nat.zero_mul, Nat.zero_add]
    have hc : c < (enc y).length := by
      rcases Nat.lt_or_ge c (enc y).length with g | g
      · exact g
      · rw [List.getElem?_eq_none g] at h2; cases h2
    rw [List.getElem?_append_left hc]; exact h2
  | y :: ys, j + 1, x, c, u, h1, h2 => by
    have := h.get ys j x c u (by simpa using h1) h2
    show (enc y ++ flatE enc ys)[(j + 1) * k + c]? = _
    rw [List.getElem?_append_right (by rw [h.len, Nat.add_mul, Nat.one_mul]; omega), h.len, Nat.add_mul, Nat.one_mul, show j * k + k + c - k = j * k + c from by omega]
    exact this
theorem EncOk.at (h : EncOk enc k) : ∀ (xs : List α) (i : Nat) (u : Value), (flatE enc xs)[i]? = some u → ∃ x, xs[i / k]? = some x ∧ (enc x)[i % k]? = some u
  | [], i, u, h1 => by simp [flatE] at h1
  | y :: ys, i, u, h1 => by
    change (enc y ++ flatE enc ys)[i]? = _ at h1
    have hp := h.pos
    rcases Nat.lt_or_ge i k with g | g
    · rw [List.getElem?_append_left (by rw [h.len]; exact g)] at h1
      exact ⟨y, by rw [Nat.div_eq_of_lt g]; rfl, by rw [Nat.mod_eq_of_lt g]; exact h1⟩
    · rw [List.getElem?_append_right (by rw [h.len]; exact g), h.len] at h1
      obtain ⟨x, g1, g2⟩ := h.at ys (i - k) u h1
      refine ⟨x, ?_, ?_⟩
      · rw [Nat.div_eq_sub_div hp g]
        simpa using g1
      · rw [Nat.mod_eq_sub_mod g]; exact g2
theorem SlE.ofBlk (h : EncOk enc k) {w : World} {b : Nat} {t : TypeId} {xs : List α} (hb : Blk w b (flatE enc xs).toArray t) : SlE enc k w (some ⟨b, 0, none⟩) xs := by
  intro i _
  refine ⟨b, 0, rfl, hb.lt, fun j x hj c u hu => ?_⟩
  rw [hb.cell, Nat.zero_add]
  simpa using h.get xs j x c u hj hu
theorem SlE.none_len {w : World} {xs : List α} (h : SlE enc k w none xs) : xs.length = 0 := by
  rcases Nat.eq_zero_or_pos xs.length with h0 | h0
  · exact h0
  · obtain ⟨b, off, h1, _⟩ := h 0 h0; cases h1
/-- The cells of a row, as an append wants them. -/
theorem SlE.news (h : EncOk enc k) {w : World} {a : Addr} {xs : List α} (hs : SlE enc k w (some a) xs) : ∀ j u, (flatE enc xs)[j]? = some u → w.cell? (a.add j) = some u := by
  intro j u hj
  obtain ⟨x, g1, g2⟩ := h.at xs j u hj
  have hlt : j / k < xs.length := by
    rcases Nat.lt_or_ge (j / k) xs.length with g | g
    · exact g
    · rw [List.getElem?_eq_none g] at g1; cases g1
  obtain ⟨b, off, e, _, hc⟩ := hs (j / k) hlt
  cases e
  rw [add_plain]
  have := hc _ x g1 _ u g2
  rwa [Nat.add_assoc, Nat.div_add_mod'] at this

/-- A row that a call owns. -/
def OwnE (enc : α → List Value) (k : Nat) (w : World) (base : Nat) (t : TypeId) (v : Value) (xs : List α) : Prop := w.ownsRow base t k v xs.length (flatE enc xs)
theorem OwnE.nil (w : World) (base : Nat) (t : TypeId) : OwnE enc k w base t (.slice none 0 0) [] := ⟨by simp [flatE], .inl ⟨rfl, rfl⟩⟩
theorem OwnE.sl (h : EncOk enc k) {w : World} {base : Nat} {t : TypeId} {v : Value} {xs : List α} (ho : OwnE enc k w base t v xs) :
    ∃ ao cap, v = .slice ao xs.length cap ∧ xs.length ≤ cap ∧ cap ≤ maxLen ∧ SlE enc k w ao xs ∧ (ao = none → cap = 0) ∧ ∀ a, ao = some a → base ≤ a.block := by
  rcases ho.2 with ⟨rfl, h0⟩ | ⟨g, cap, cur, rfl, hb, hg, hc, hm, _, ht⟩
  · exact ⟨none, 0, by rw [h0], by omega, Nat.zero_le _, (fun i hi => by omega), fun _ => rfl, fun a ha => by cases ha⟩
  · refine ⟨some ⟨g, 0, none⟩, cap, rfl, hc, hm, (fun i _ => ⟨g, 0, rfl, lt_of_block hg, fun j x hj c u hu => ?_⟩), fun e => (by cases e), fun a ha => by cases ha; exact hb⟩
    have e1 := h.get xs j x c u hj hu
    have hlt : j * k + c < xs.length * k := by
      rcases Nat.lt_or_ge (j * k + c) (xs.length * k) with g | g
      · exact g
      · rw [List.getElem?_eq_none (by rw [h.flat]; exact g)] at e1; cases e1
    rw [← ht, List.getElem?_take, if_pos hlt] at e1
    rw [Nat.zero_add]
    simp only [Array.getElem?_toList] at e1
    simp [World.cell?, hg, e1]
theorem OwnE.alloc {w : World} {base : Nat} {t : TypeId} {v : Value} {xs : List α} (h : OwnE enc k w base t v xs) (o : Obj) : OwnE enc k (w.alloc o) base t v xs := World.ownsRow.alloc h o
theorem OwnE.below {w w' : World} {base : Nat} {t : TypeId} {v : Value} {xs : List α} (h : OwnE enc k w base t v xs) (hb : Below w.heap.size w w') : OwnE enc k w' base t v xs := own_below h hb
theorem OwnE.drew {w : World} {base : Nat} {t : TypeId} {v : Value} {xs : List α} (h : OwnE enc k w base t v xs) : OwnE enc k w.drew base t v xs := h
theorem OwnE.keptBy {w w' : World} {base : Nat} {t : TypeId} {v : Value} {xs : List α} {row : Option Nat} (h : OwnE enc k w base t v xs) (hg : w.grownBy w' row) (hr : v.ownBlock = none ∨ v.ownBlock ≠ row) : OwnE enc k w' base t v xs := World.ownsRow.kept h hg hr
theorem OwnE.kept {b base : Nat} {w w' : World} {t : TypeId} {v : Value} {xs : List α} (h : OwnE enc k w base t v xs) (hk : Kept b w w') (hb : b < base) : OwnE enc k w' base t v xs := by
  have hg : w.grownBy w' (some b) := ⟨hk.os, hk.tape, hk.output, hk.size, fun i hi hne => hk.block i hi (fun e => hne (by rw [e]))⟩
  refine h.keptBy hg ?_
  cases hv : v.ownBlock with
  | none => exact .inl rfl
  | some g =>
    right
    intro e
    have := (World.ownsRow.lt h g hv).1
    cases e
    omega
theorem OwnE.grownK {b base : Nat} {w a c : World} {t : TypeId} {v : Value} {xs : List α} (h : OwnE enc k a base t v xs) (hk : Kept b w a) (hb : w.heap.size ≤ base) (hg : a.grownBy c v.ownBlock) : Kept b w c :=
  ⟨hg.os.trans hk.os, hg.tape.trans hk.tape, hg.output.trans hk.output, Nat.le_trans hk.size hg.size, fun i hi hne => by
    rw [hg.block i (Nat.lt_of_lt_of_le hi hk.size) (by intro e; have := (World.ownsRow.lt h i e.symm).1; omega)]
    exact hk.block i hi hne⟩
theorem OwnE.grownB {base : Nat} {w a b : World} {t : TypeId} {v : Value} {xs : List α} (hown : OwnE enc k a base t v xs) (hB : Below w.heap.size w a) (hb : w.heap.size ≤ base) (hg : a.grownBy b v.ownBlock) : Below w.heap.size w b :=
  hB.grown hg hB.size (fun i hi => Nat.le_trans hb (World.ownsRow.lt hown i hi).1)
theorem OwnE.blk {a c : World} {base i : Nat} {cs : Array Value} {t t' : TypeId} {v : Value} {xs : List α} (h : OwnE enc k a base t v xs) (hb : Blk a i cs t') (hk : i < base) (hg : a.grownBy c v.ownBlock) : Blk c i cs t' :=
  (hg.block i hb.lt (by intro e; have := (World.ownsRow.lt h i e.symm).1; omega)).trans hb

/-- append of rows onto a row that a call owns. -/
theorem app_E (h : EncOk enc k) {st t : TypeId} {z : Value} {bytes : Nat} (hu : Try.prog.underlying st = some (.slice t)) (hinfo : (Try.prog.info? t).map (fun i => (i.zero, i.size, i.bytes)) = some (some z, k, bytes)) (hz : z.cells.size = k) (hby : bytes ≤ 64)
    {w : World} {ops : Array Oper} {rest : List Oper} {o : Oper} {a : Act} {Q : Exit → Act → World → Prop} (hgd : o.guard = none) (s x : Operand)
    (ho : o.op = .call { callee := .builtin .append, args := #[s, x], argTypes := #[st, st] })
    (base : Nat) (v : Value) (xs : List α) (hs : a.eval s = v) (hown : OwnE enc k w base t v xs)
    (ao : Option Addr) (m c : Nat) (ys : List α) (hx : a.eval x = .slice ao m c) (hq : ys.length = m) (hc : ao = none → c = 0) (hsl : SlE enc k w ao ys) (hb : xs.length + m ≤ 1000000000) (hbase : base ≤ w.heap.size)
    (hn : ∀ v' w', OwnE enc k w' base t v' (xs ++ ys) → w.grownBy w' v.ownBlock → wpList Try.prog ops Q rest (a.put o.dst v') w') : wpList Try.prog ops Q (o :: rest) a w := by
  obtain ⟨i0, hi, hz0, hz1, hz2⟩ := info_parts hinfo
  cases ao with
  | none =>
    have h0 := hsl.none_len
    obtain rfl := hc rfl
    obtain rfl : m = 0 := hq.symm.trans h0
    obtain rfl := List.length_eq_zero_iff.1 h0
    refine wpList_append_own_none hgd s x _ ho base t i0 k hu hi v xs.length (flatE enc xs) hs hown hx ?_
    exact hn v w (by rw [List.append_nil]; exact hown) ⟨rfl, rfl, rfl, Nat.le_refl _, fun _ _ _ => rfl⟩
  | some ad =>
    have h2 : (xs.length + m) * bytes ≤ 140737488355328 := Nat.le_trans (Nat.mul_le_mul hb hby) (by decide)
    refine wpList_append_own w hgd s x _ ho base t i0 _ k bytes hu hi hz0 hz1 hz2 hz h.pos v xs.length (flatE enc xs) hs hown ad m c (flatE enc ys) hx (by rw [h.flat, hq]) (hsl.news h) (h.flat_one ys) (by unfold maxLen; omega) h2 hbase ?_
    intro v' w' h1 h2 _
    refine hn v' w' ?_ h2
    show w'.ownsRow _ _ _ _ _ _
    rw [flatE_append, List.length_append, hq]
    exact h1
end
end Go.Proofs.Ytfpjdmplepepjaa

/-! WireRead: Wire's Read, of what has no lists. -/
namespace Go.Proofs.Ytfpjdmplepepjaa
open Go.RowKit

theorem infoWire : (Try.prog.info? 33).map (·.size) = some 15 := by kernel_rfl

set_option maxRecDepth 100000 in
set_option maxHeartbeats 16000000 in
theorem read_ok (k f s p fl d0 d1 rc lg : Int) (h : 1 ≤ k ∧ k ≤ 8 ∧ 1 ≤ f ∧ f ≤ 1099511627776 ∧ 0 ≤ s ∧ s ≤ 1099511627776 ∧ 0 ≤ p ∧ p ≤ 15 ∧ 0 ≤ fl ∧ fl ≤ 1 ∧ 0 ≤ rc ∧ rc ≤ 1099511627776 ∧ 0 ≤ lg ∧ lg ≤ 1073741824) (hd : d0 = 0 ∧ d1 = 0 ∨ (1 ≤ d0 ∧ d0 ≤ 1099511627776) ∧ 1 ≤ d1 ∧ d1 ≤ 1099511627776) (w : World) :
    Calls Try.prog 14 #[.string (ofL (wireL [k, f, s, p, fl, d0, d1, rc, lg]))] w fun e w' => e = .returned (.tuple #[.agg #[.int .i64 k, .int .i64 f, .int .i64 s, .int .i64 p, .int .i64 fl, .string ⟨#[]⟩, .slice none 0 0, .slice none 0 0, .slice none 0 0, .slice none 0 0, .slice none 0 0, .int .i64 d0, .int .i64 d1, .int .i64 rc, .int .i64 lg], .int .i64 0]) ∧ Below w.heap.size w w' := by
  obtain ⟨w0, hw0⟩ := nm (w.alloc (.cells #[.int .i64 0, .int .i64 0, .int .i64 0, .int .i64 0, .int .i64 0, .string ⟨#[]⟩, .slice none 0 0, .slice none 0 0, .slice none 0 0, .slice none 0 0, .slice none 0 0, .int .i64 0, .int .i64 0, .int .i64 0, .int .i64 0] 33))
  obtain ⟨x, hx⟩ := nm w.heap.size
  have Kx : Hid (Blk w0 x #[.int .i64 0, .int .i64 0, .int .i64 0, .int .i64 0, .int .i64 0, .string ⟨#[]⟩, .slice none 0 0, .slice none 0 0, .slice none 0 0, .slice none 0 0, .slice none 0 0, .int .i64 0, .int .i64 0, .int .i64 0, .int .i64 0] 33) := by show Blk _ _ _ _; rw [hw0.out, hx.out]; exact Blk.new _ _ _
  have HB : Hid (Below w.heap.size w w0) := by show Below _ _ _; rw [hw0.out]; exact bOld _
  have hxw : Hid (w.heap.size ≤ x) := by show _ ≤ _; rw [hx.out]; exact Nat.le_refl _
  have HCK : Hid (∀ w, Calls Try.prog 12 #[.agg #[.int .i64 k, .int .i64 f, .int .i64 s, .int .i64 p, .int .i64 fl, .string ⟨#[]⟩, .slice none 0 0, .slice none 0 0, .slice none 0 0, .slice none 0 0, .slice none 0 0, .int .i64 d0, .int .i64 d1, .int .i64 rc, .int .i64 lg]] w fun e w' => e = .returned (.int .i64 0) ∧ Below w.heap.size w w') := fun w => check_ok k f s p fl d0 d1 rc lg h hd w
  have hz : ∀ z ∈ ([k, f, s, p, fl, d0, d1, rc, lg] : List Int), 0 ≤ z ∧ z ≤ 1099511627776 ∧ z < 18446744073709551616 := by
    intro z hz
    simp only [List.mem_cons, List.not_mem_nil, or_false] at hz
    rcases hz with rfl | rfl | rfl | rfl | rfl | rfl | rfl | rfl | rfl <;> omega
  obtain ⟨zs, hzs⟩ := nm ([k, f, s, p, fl, d0, d1, rc, lg] : List Int)
  have hzl : Hid (zs.length = 9) := by show _ = _; rw [hzs.out]; rfl
  rw [← hzs.out] at hz ⊢
  have hnb := Rd.nums_back 1099511627776 9 zs [0, 0, 0, 0, 0, 0] (by rw [hzl.out]; decide) (by rw [hzl.out]; decide) hz
  have hsz : (ofL (wireL zs)).size ≤ 200 := by
    rw [ofL_size]
    unfold wireL numsL
    rw [List.length_append, List.length_append, hzl.out]
    have g1 := Pl.num_length_le 9 (by decide)
    have g2 := intsL_le zs (fun z h => by have := hz z h; omega)
    rw [hzl.out] at g2
    simp only [List.length_cons, List.length_nil]
    omega
  rw [show numsL zs ++ ([0, 0, 0, 0, 0, 0] : List UInt8) = wireL zs from rfl] at hnb
  obtain ⟨S, hS⟩ := nm (ofL (wireL zs))
  rw [← hS.out] at hnb hsz ⊢
  obtain ⟨b, hb⟩ := nm w0.heap.size
  have hxb : x < b := by rw [hb.out]; exact Kx.out.lt
  have hrd := read_any S w0
  rw [← hb.out] at hrd
  have HRD := Lib.hid hrd
  have HNB := Lib.hid hnb
  clear h hd hz hrd hnb
  go_enter Try.func14, Try.ntmps14
  go_upto_region 1 with fail
  rw [← hw0.out, ← hx.out]
  go_wp2_with fail
  refine HRD.out.mono ?_; rintro e w1 ⟨rfl, hw1⟩
  have HR : Hid (IsRd w1 b ⟨S, false⟩) := by show IsRd _ _ _; rw [hw1, hb.out]; exact Blk.new _ _ _
  replace Kx : Hid (Blk w1 x #[.int .i64 0, .int .i64 0, .int .i64 0, .int .i64 0, .int .i64 0, .string ⟨#[]⟩, .slice none 0 0, .slice none 0 0, .slice none 0 0, .slice none 0 0, .slice none 0 0, .int .i64 0, .int .i64 0, .int .i64 0, .int .i64 0] 33) := by show Blk _ _ _ _; rw [hw1]; exact Kx.out.alloc _
  replace HB : Hid (Below w.heap.size w w1) := by show Below _ _ _; rw [hw1]; exact bNew HB.out _
  have hwb : Hid (w.heap.size ≤ b) := by show _ ≤ _; rw [← hx.out]; omega
  have hnm := rnums_any b ⟨S, false⟩ 9 1099511627776 w1 HR.out (by simp only; omega) (by decide) (by decide)
  rw [HNB.out, hzl.out] at hnm
  have HNM := Lib.hid hnm
  clear hw1 hnm
  go_wp2_with fail
  refine HNM.out.mono ?_; rintro e w2 ⟨ao, cap, rfl, hcap, hsl, h2, hk⟩
  replace HR := Lib.hid h2
  replace Kx := Lib.hid (hk.blk Kx.out (by omega))
  replace HB := Lib.hid (HB.out.trans (hk.below hwb.out HB.out.size))
  obtain ⟨g, off, rfl, hg, hat⟩ := hsl 0 (by rw [List.length_map, hzl.out]; decide)
  rw [hzs.out] at hat
  have c0 : w2.cell? ⟨g, off, none⟩ = some (.int .i64 k) := hat 0 (by simp)
  have c1 : w2.cell? ⟨g, off + 1, none⟩ = some (.int .i64 f) := hat 1 (by simp)
  have c2 : w2.cell? ⟨g, off + 2, none⟩ = some (.int .i64 s) := hat 2 (by simp)
  have c3 : w2.cell? ⟨g, off + 3, none⟩ = some (.int .i64 p) := hat 3 (by simp)
  have c4 : w2.cell? ⟨g, off + 4, none⟩ = some (.int .i64 fl) := hat 4 (by simp)
  have c5 : w2.cell? ⟨g, off + 5, none⟩ = some (.int .i64 d0) := hat 5 (by simp)
  have c6 : w2.cell? ⟨g, off + 6, none⟩ = some (.int .i64 d1) := hat 6 (by simp)
  have c7 : w2.cell? ⟨g, off + 7, none⟩ = some (.int .i64 rc) := hat 7 (by simp)
  have c8 : w2.cell? ⟨g, off + 8, none⟩ = some (.int .i64 lg) := hat 8 (by simp)
  obtain ⟨v, hv⟩ := nm (w2.heap.size + 1)
  obtain ⟨w3, hw3⟩ := nm ((w2.alloc (.cells #[.int .i64 k, .int .i64 f, .int .i64 s, .int .i64 p, .int .i64 fl, .int .i64 d0, .int .i64 d1, .int .i64 rc, .int .i64 lg] 54)).alloc (.cells #[.int .i64 k, .int .i64 f, .int .i64 s, .int .i64 p, .int .i64 fl, .string ⟨#[]⟩, .slice none 0 0, .slice none 0 0, .slice none 0 0, .slice none 0 0, .slice none 0 0, .int .i64 d0, .int .i64 d1, .int .i64 rc, .int .i64 lg] 33))
  have hbv : b < v := by rw [hv.out]; have := h2.lt; omega
  have hxv : x < v := by rw [hv.out]; have := Kx.out.lt; omega
  have Kv : Hid (Blk w3 v #[.int .i64 k, .int .i64 f, .int .i64 s, .int .i64 p, .int .i64 fl, .string ⟨#[]⟩, .slice none 0 0, .slice none 0 0, .slice none 0 0, .slice none 0 0, .slice none 0 0, .int .i64 d0, .int .i64 d1, .int .i64 rc, .int .i64 lg] 33) := by show Blk _ _ _ _; rw [hw3.out]; exact blk_at (by rw [hv.out]; simp)
  replace HR : Hid (IsRd w3 b ⟨ofL [0, 0, 0, 0, 0, 0], false⟩) := by show IsRd _ _ _; rw [hw3.out]; exact Blk.alloc (Blk.alloc h2 _) _
  replace Kx : Hid (Blk w3 x #[.int .i64 0, .int .i64 0, .int .i64 0, .int .i64 0, .int .i64 0, .string ⟨#[]⟩, .slice none 0 0, .slice none 0 0, .slice none 0 0, .slice none 0 0, .slice none 0 0, .int .i64 0, .int .i64 0, .int .i64 0, .int .i64 0] 33) := by show Blk _ _ _ _; rw [hw3.out]; exact (Kx.out.alloc _).alloc _
  replace HB : Hid (Below w.heap.size w w3) := by show Below _ _ _; rw [hw3.out]; exact bNew (bNew HB.out _) _
  have hwv : Hid (w.heap.size ≤ v) := by show _ ≤ _; have := hxw.out; omega
  clear hsl h2 hk hat
  have harr := fun w : World => run_arrayAt (P := Try.prog) w 54 3 9 (some ⟨g, off, none⟩) 9 cap Try.underlying54 (Nat.le_refl _)
  go_upto_region 9 with fail
  rw [← hw3.out, ← hv.out]
  have htx := rtext_any b ⟨ofL [0, 0, 0, 0, 0, 0], false⟩ 8000 w3 HR.out (by rw [show (ofL [0, 0, 0, 0, 0, 0]).size = 6 from rfl]; decide) (by decide)
  rw [show (Rd.mk (ofL [0, 0, 0, 0, 0, 0]) false).text 8000 = (⟨ofL [0, 0, 0, 0, 0], false⟩, ⟨#[]⟩) from by
    have := Rd.text_back [] [0, 0, 0, 0, 0] 8000 (by decide) (by decide)
    rw [show textL [] = [0] from by unfold textL; rw [List.length_nil, num0]; rfl] at this
    exact this] at htx
  have HTX := Lib.hid htx
  clear htx c0 c1 c2 c3 c4 c5 c6 c7 c8
  go_wp2_with fail
  refine (HTX.out).mono ?_; rintro e w4 ⟨rfl, hr, hk⟩
  replace HR := Lib.hid hr
  replace Kx := Lib.hid (hk.blk Kx.out (by omega))
  replace Kv := Lib.hid (hk.blk Kv.out (by omega))
  replace HB := Lib.hid (HB.out.trans (hk.below hwb.out HB.out.size))
  clear hr hk
  have c5 : w4.cell? ⟨v, 5, none⟩ = some (.string ⟨#[]⟩) := Kv.out.cell 5
  have f5 : w4.frozen? ⟨v, 5, none⟩ = false := Kv.out.free 5
  obtain ⟨w5, hw5⟩ := nm (w4.setCell ⟨v, 5, none⟩ (.string ⟨#[]⟩))
  replace Kx : Hid (Blk w5 x #[.int .i64 0, .int .i64 0, .int .i64 0, .int .i64 0, .int .i64 0, .string ⟨#[]⟩, .slice none 0 0, .slice none 0 0, .slice none 0 0, .slice none 0 0, .slice none 0 0, .int .i64 0, .int .i64 0, .int .i64 0, .int .i64 0] 33) := by show Blk _ _ _ _; rw [hw5.out]; exact (Blk.setOther Kx.out (by simp only; omega) _)
  replace HR : Hid (IsRd w5 b ⟨ofL [0, 0, 0, 0, 0], false⟩) := by show IsRd _ _ _; rw [hw5.out]; exact (Blk.setOther HR.out (by simp only; omega) _)
  replace Kv : Hid (Blk w5 v #[.int .i64 k, .int .i64 f, .int .i64 s, .int .i64 p, .int .i64 fl, .string ⟨#[]⟩, .slice none 0 0, .slice none 0 0, .slice none 0 0, .slice none 0 0, .slice none 0 0, .int .i64 d0, .int .i64 d1, .int .i64 rc, .int .i64 lg] 33) := by show Blk _ _ _ _; rw [hw5.out]; exact (Blk.set Kv.out 5 _)
  replace HB : Hid (Below w.heap.size w w5) := by show Below _ _ _; rw [hw5.out]; exact (Below.setCell HB.out (p := ⟨v, 5, none⟩) hwv.out _)
  go_upto_region 10 with fail
  rw [← hw5.out]
  clear c5 f5
  go_wp2_with fail
  refine (rbag0 b [0, 0] _ HR.out (by decide)).mono ?_; rintro e w6 ⟨rfl, hr, hk⟩
  replace HR := Lib.hid hr
  replace Kx := Lib.hid (hk.blk Kx.out (by omega))
  replace Kv := Lib.hid (hk.blk Kv.out (by omega))
  replace HB := Lib.hid (HB.out.trans (hk.below hwb.out HB.out.size))
  clear hr hk
  have c6 : w6.cell? ⟨v, 6, none⟩ = some (.slice none 0 0) := Kv.out.cell 6
  have f6 : w6.frozen? ⟨v, 6, none⟩ = false := Kv.out.free 6
  have c7 : w6.cell? ⟨v, 7, none⟩ = some (.slice none 0 0) := Kv.out.cell 7
  have f7 : w6.frozen? ⟨v, 7, none⟩ = false := Kv.out.free 7
  have c8 : w6.cell? ⟨v, 8, none⟩ = some (.slice none 0 0) := Kv.out.cell 8
  have f8 : w6.frozen? ⟨v, 8, none⟩ = false := Kv.out.free 8
  obtain ⟨w7, hw7⟩ := nm (((w6.setCell ⟨v, 6, none⟩ (.slice none 0 0)).setCell ⟨v, 7, none⟩ (.slice none 0 0)).setCell ⟨v, 8, none⟩ (.slice none 0 0))
  replace Kx : Hid (Blk w7 x #[.int .i64 0, .int .i64 0, .int .i64 0, .int .i64 0, .int .i64 0, .string ⟨#[]⟩, .slice none 0 0, .slice none 0 0, .slice none 0 0, .slice none 0 0, .slice none 0 0, .int .i64 0, .int .i64 0, .int .i64 0, .int .i64 0] 33) := by show Blk _ _ _ _; rw [hw7.out]; exact (Blk.setOther (Blk.setOther (Blk.setOther Kx.out (by simp only; omega) _) (by simp only; omega) _) (by simp only; omega) _)
  replace HR : Hid (IsRd w7 b ⟨ofL [0, 0], false⟩) := by show IsRd _ _ _; rw [hw7.out]; exact (Blk.setOther (Blk.setOther (Blk.setOther HR.out (by simp only; omega) _) (by simp only; omega) _) (by simp only; omega) _)
  replace Kv : Hid (Blk w7 v #[.int .i64 k, .int .i64 f, .int .i64 s, .int .i64 p, .int .i64 fl, .string ⟨#[]⟩, .slice none 0 0, .slice none 0 0, .slice none 0 0, .slice none 0 0, .slice none 0 0, .int .i64 d0, .int .i64 d1, .int .i64 rc, .int .i64 lg] 33) := by show Blk _ _ _ _; rw [hw7.out]; exact (Blk.set (Blk.set (Blk.set Kv.out 6 _) 7 _) 8 _)
  replace HB : Hid (Below w.heap.size w w7) := by show Below _ _ _; rw [hw7.out]; exact (Below.setCell (Below.setCell (Below.setCell HB.out (p := ⟨v, 6, none⟩) hwv.out _) (p := ⟨v, 7, none⟩) hwv.out _) (p := ⟨v, 8, none⟩) hwv.out _)
  go_upto_region 11 with fail
  rw [← hw7.out]
  clear c6 f6 c7 f7 c8 f8
  go_wp2_with fail
  refine (rnames0 b [0] _ HR.out (by decide)).mono ?_; rintro e w8 ⟨rfl, hr, hk⟩
  replace HR := Lib.hid hr
  replace Kx := Lib.hid (hk.blk Kx.out (by omega))
  replace Kv := Lib.hid (hk.blk Kv.out (by omega))
  replace HB := Lib.hid (HB.out.trans (hk.below hwb.out HB.out.size))
  clear hr hk
  have c9 : w8.cell? ⟨v, 9, none⟩ = some (.slice none 0 0) := Kv.out.cell 9
  have f9 : w8.frozen? ⟨v, 9, none⟩ = false := Kv.out.free 9
  obtain ⟨w9, hw9⟩ := nm (w8.setCell ⟨v, 9, none⟩ (.slice none 0 0))
  replace Kx : Hid (Blk w9 x #[.int .i64 0, .int .i64 0, .int .i64 0, .int .i64 0, .int .i64 0, .string ⟨#[]⟩, .slice none 0 0, .slice none 0 0, .slice none 0 0, .slice none 0 0, .slice none 0 0, .int .i64 0, .int .i64 0, .int .i64 0, .int .i64 0] 33) := by show Blk _ _ _ _; rw [hw9.out]; exact (Blk.setOther Kx.out (by simp only; omega) _)
  replace HR : Hid (IsRd w9 b ⟨ofL [0], false⟩) := by show IsRd _ _ _; rw [hw9.out]; exact (Blk.setOther HR.out (by simp only; omega) _)
  replace Kv : Hid (Blk w9 v #[.int .i64 k, .int .i64 f, .int .i64 s, .int .i64 p, .int .i64 fl, .string ⟨#[]⟩, .slice none 0 0, .slice none 0 0, .slice none 0 0, .slice none 0 0, .slice none 0 0, .int .i64 d0, .int .i64 d1, .int .i64 rc, .int .i64 lg] 33) := by show Blk _ _ _ _; rw [hw9.out]; exact (Blk.set Kv.out 9 _)
  replace HB : Hid (Below w.heap.size w w9) := by show Below _ _ _; rw [hw9.out]; exact (Below.setCell HB.out (p := ⟨v, 9, none⟩) hwv.out _)
  go_upto_region 12 with fail
  rw [← hw9.out]
  clear c9 f9
  go_wp2_with fail
  refine (rview0 b [] _ HR.out (by decide)).mono ?_; rintro e wa ⟨rfl, hr, hk⟩
  replace HR := Lib.hid hr
  replace Kx := Lib.hid (hk.blk Kx.out (by omega))
  replace Kv := Lib.hid (hk.blk Kv.out (by omega))
  replace HB := Lib.hid (HB.out.trans (hk.below hwb.out HB.out.size))
  clear hr hk
  have c10 : wa.cell? ⟨v, 10, none⟩ = some (.slice none 0 0) := Kv.out.cell 10
  have f10 : wa.frozen? ⟨v, 10, none⟩ = false := Kv.out.free 10
  obtain ⟨wb, hwb⟩ := nm (wa.setCell ⟨v, 10, none⟩ (.slice none 0 0))
  replace Kx : Hid (Blk wb x #[.int .i64 0, .int .i64 0, .int .i64 0, .int .i64 0, .int .i64 0, .string ⟨#[]⟩, .slice none 0 0, .slice none 0 0, .slice none 0 0, .slice none 0 0, .slice none 0 0, .int .i64 0, .int .i64 0, .int .i64 0, .int .i64 0] 33) := by show Blk _ _ _ _; rw [hwb.out]; exact (Blk.setOther Kx.out (by simp only; omega) _)
  replace HR : Hid (IsRd wb b ⟨ofL [], false⟩) := by show IsRd _ _ _; rw [hwb.out]; exact (Blk.setOther HR.out (by simp only; omega) _)
  replace Kv : Hid (Blk wb v #[.int .i64 k, .int .i64 f, .int .i64 s, .int .i64 p, .int .i64 fl, .string ⟨#[]⟩, .slice none 0 0, .slice none 0 0, .slice none 0 0, .slice none 0 0, .slice none 0 0, .int .i64 d0, .int .i64 d1, .int .i64 rc, .int .i64 lg] 33) := by show Blk _ _ _ _; rw [hwb.out]; exact (Blk.set Kv.out 10 _)
  replace HB : Hid (Below w.heap.size w wb) := by show Below _ _ _; rw [hwb.out]; exact (Below.setCell HB.out (p := ⟨v, 10, none⟩) hwv.out _)
  go_upto_region 13 with fail
  rw [← hwb.out]
  clear c10 f10
  have c0 : wb.cell? ⟨v, 0, none⟩ = some (.int .i64 k) := Kv.out.cell 0
  have c1 : wb.cell? ⟨v, 1, none⟩ = some (.int .i64 f) := Kv.out.cell 1
  have c2 : wb.cell? ⟨v, 2, none⟩ = some (.int .i64 s) := Kv.out.cell 2
  have c3 : wb.cell? ⟨v, 3, none⟩ = some (.int .i64 p) := Kv.out.cell 3
  have c4 : wb.cell? ⟨v, 4, none⟩ = some (.int .i64 fl) := Kv.out.cell 4
  have c5 : wb.cell? ⟨v, 5, none⟩ = some (.string ⟨#[]⟩) := Kv.out.cell 5
  have c6 : wb.cell? ⟨v, 6, none⟩ = some (.slice none 0 0) := Kv.out.cell 6
  have c7 : wb.cell? ⟨v, 7, none⟩ = some (.slice none 0 0) := Kv.out.cell 7
  have c8 : wb.cell? ⟨v, 8, none⟩ = some (.slice none 0 0) := Kv.out.cell 8
  have c9 : wb.cell? ⟨v, 9, none⟩ = some (.slice none 0 0) := Kv.out.cell 9
  have c10 : wb.cell? ⟨v, 10, none⟩ = some (.slice none 0 0) := Kv.out.cell 10
  have c11 : wb.cell? ⟨v, 11, none⟩ = some (.int .i64 d0) := Kv.out.cell 11
  have c12 : wb.cell? ⟨v, 12, none⟩ = some (.int .i64 d1) := Kv.out.cell 12
  have c13 : wb.cell? ⟨v, 13, none⟩ = some (.int .i64 rc) := Kv.out.cell 13
  have c14 : wb.cell? ⟨v, 14, none⟩ = some (.int .i64 lg) := Kv.out.cell 14
  have hfin : (Rd.mk (ofL []) false).fin = 0 := rfl
  go_wp2_with fail
  refine (rend_any b ⟨ofL [], false⟩ wb HR.out).mono ?_; rintro e wc ⟨rfl, rfl⟩
  rw [hfin]
  go_wp2_with fail
  refine (HCK.out _).mono ?_; rintro e wd ⟨rfl, hBd⟩
  replace Kx := Lib.hid (Kx.out.below hBd Kx.out.lt)
  replace Kv := Lib.hid (Kv.out.below hBd Kv.out.lt)
  replace HB := Lib.hid (bNext HB.out hBd)
  clear hBd c0 c1 c2 c3 c4 c5 c6 c7 c8 c9 c10 c11 c12 c13 c14
  have c0 : wd.cell? ⟨v, 0, none⟩ = some (.int .i64 k) := Kv.out.cell 0
  have c1 : wd.cell? ⟨v, 1, none⟩ = some (.int .i64 f) := Kv.out.cell 1
  have c2 : wd.cell? ⟨v, 2, none⟩ = some (.int .i64 s) := Kv.out.cell 2
  have c3 : wd.cell? ⟨v, 3, none⟩ = some (.int .i64 p) := Kv.out.cell 3
  have c4 : wd.cell? ⟨v, 4, none⟩ = some (.int .i64 fl) := Kv.out.cell 4
  have c5 : wd.cell? ⟨v, 5, none⟩ = some (.string ⟨#[]⟩) := Kv.out.cell 5
  have c6 : wd.cell? ⟨v, 6, none⟩ = some (.slice none 0 0) := Kv.out.cell 6
  have c7 : wd.cell? ⟨v, 7, none⟩ = some (.slice none 0 0) := Kv.out.cell 7
  have c8 : wd.cell? ⟨v, 8, none⟩ = some (.slice none 0 0) := Kv.out.cell 8
  have c9 : wd.cell? ⟨v, 9, none⟩ = some (.slice none 0 0) := Kv.out.cell 9
  have c10 : wd.cell? ⟨v, 10, none⟩ = some (.slice none 0 0) := Kv.out.cell 10
  have c11 : wd.cell? ⟨v, 11, none⟩ = some (.int .i64 d0) := Kv.out.cell 11
  have c12 : wd.cell? ⟨v, 12, none⟩ = some (.int .i64 d1) := Kv.out.cell 12
  have c13 : wd.cell? ⟨v, 13, none⟩ = some (.int .i64 rc) := Kv.out.cell 13
  have c14 : wd.cell? ⟨v, 14, none⟩ = some (.int .i64 lg) := Kv.out.cell 14
  have hone : (#[.int .i64 k, .int .i64 f, .int .i64 s, .int .i64 p, .int .i64 fl, .string ⟨#[]⟩, .slice none 0 0, .slice none 0 0, .slice none 0 0, .slice none 0 0, .slice none 0 0, .int .i64 d0, .int .i64 d1, .int .i64 rc, .int .i64 lg] : Array Value).all (·.oneCell') = true := by simp [Value.oneCell']
  go_wp2_with (refine wpList_store_row rfl 33 _ _ rfl x #[.int .i64 k, .int .i64 f, .int .i64 s, .int .i64 p, .int .i64 fl, .string ⟨#[]⟩, .slice none 0 0, .slice none 0 0, .slice none 0 0, .slice none 0 0, .slice none 0 0, .int .i64 d0, .int .i64 d1, .int .i64 rc, .int .i64 lg] rfl rfl 33 #[.int .i64 0, .int .i64 0, .int .i64 0, .int .i64 0, .int .i64 0, .string ⟨#[]⟩, .slice none 0 0, .slice none 0 0, .slice none 0 0, .slice none 0 0, .slice none 0 0, .int .i64 0, .int .i64 0, .int .i64 0, .int .i64 0] Kx.out infoWire rfl hone ?_)
  obtain ⟨wz, hwz⟩ := nm (wd.setRow x #[.int .i64 k, .int .i64 f, .int .i64 s, .int .i64 p, .int .i64 fl, .string ⟨#[]⟩, .slice none 0 0, .slice none 0 0, .slice none 0 0, .slice none 0 0, .slice none 0 0, .int .i64 d0, .int .i64 d1, .int .i64 rc, .int .i64 lg])
  rw [← hwz.out]
  have Kz : Blk wz x #[.int .i64 k, .int .i64 f, .int .i64 s, .int .i64 p, .int .i64 fl, .string ⟨#[]⟩, .slice none 0 0, .slice none 0 0, .slice none 0 0, .slice none 0 0, .slice none 0 0, .int .i64 d0, .int .i64 d1, .int .i64 rc, .int .i64 lg] 33 := by rw [hwz.out]; exact setRow_heap wd x _ _ _ _ Kx.out
  have HBz : Below w.heap.size w wz := by rw [hwz.out]; exact below_setRow HB.out hxw.out _
  have r0 : wz.cell? ⟨x, 0, none⟩ = some (.int .i64 k) := Kz.cell 0
  have r1 : wz.cell? ⟨x, 1, none⟩ = some (.int .i64 f) := Kz.cell 1
  have r2 : wz.cell? ⟨x, 2, none⟩ = some (.int .i64 s) := Kz.cell 2
  have r3 : wz.cell? ⟨x, 3, none⟩ = some (.int .i64 p) := Kz.cell 3
  have r4 : wz.cell? ⟨x, 4, none⟩ = some (.int .i64 fl) := Kz.cell 4
  have r5 : wz.cell? ⟨x, 5, none⟩ = some (.string ⟨#[]⟩) := Kz.cell 5
  have r6 : wz.cell? ⟨x, 6, none⟩ = some (.slice none 0 0) := Kz.cell 6
  have r7 : wz.cell? ⟨x, 7, none⟩ = some (.slice none 0 0) := Kz.cell 7
  have r8 : wz.cell? ⟨x, 8, none⟩ = some (.slice none 0 0) := Kz.cell 8
  have r9 : wz.cell? ⟨x, 9, none⟩ = some (.slice none 0 0) := Kz.cell 9
  have r10 : wz.cell? ⟨x, 10, none⟩ = some (.slice none 0 0) := Kz.cell 10
  have r11 : wz.cell? ⟨x, 11, none⟩ = some (.int .i64 d0) := Kz.cell 11
  have r12 : wz.cell? ⟨x, 12, none⟩ = some (.int .i64 d1) := Kz.cell 12
  have r13 : wz.cell? ⟨x, 13, none⟩ = some (.int .i64 rc) := Kz.cell 13
  have r14 : wz.cell? ⟨x, 14, none⟩ = some (.int .i64 lg) := Kz.cell 14
  refine bodyPost_ret (v := .tuple #[.agg #[.int .i64 k, .int .i64 f, .int .i64 s, .int .i64 p, .int .i64 fl, .string ⟨#[]⟩, .slice none 0 0, .slice none 0 0, .slice none 0 0, .slice none 0 0, .slice none 0 0, .int .i64 d0, .int .i64 d1, .int .i64 rc, .int .i64 lg], .int .i64 0]) (by simp [results, Try.results14, go_sem, r0, r1, r2, r3, r4, r5, r6, r7, r8, r9, r10, r11, r12, r13, r14]) rfl ?_
  exact ⟨rfl, HBz⟩
end Go.Proofs.Ytfpjdmplepepjaa

/-! WSmall: What is said, made small: 6 of each list at most, texts of 60 bytes. -/
namespace Go.Proofs.Ytfpjdmplepepjaa
open Go.RowKit

set_option maxRecDepth 100000 in
set_option maxHeartbeats 400000 in
theorem short_any (s : ByteArray) (n : Nat) (w : World) :
    Calls Try.prog 17 #[.string s, .int .i64 n] w fun e w' => e = .returned (.string (ofL ((bl s).take n))) ∧ w = w' := by
  by_cases h : n < s.size
  · have e : s.extract 0 n = ofL ((bl s).take n) := bl_inj (by rw [bl_extract, bl_ofL]; simp)
    go_enter Try.func17, Try.ntmps17
    go_wp2_with fail
    go_ret
    exact ⟨rfl, rfl⟩
  · have e : s = ofL ((bl s).take n) := bl_inj (by rw [bl_ofL, List.take_of_length_le (by rw [bl_length]; omega)])
    have E : Hid (s = ofL ((bl s).take n)) := e
    clear e
    go_enter Try.func17, Try.ntmps17
    go_wp2_with fail
    go_ret
    exact ⟨congrArg (fun x => Ending.returned (Value.string x)) E.out, rfl⟩

set_option maxRecDepth 100000 in
set_option maxHeartbeats 400000 in
theorem short_is (s : ByteArray) (Q : ByteArray) (hQ : Hid (Q = ofL ((bl s).take 60))) (w : World) :
    Calls Try.prog 17 #[.string s, .int .i64 60] w fun e w' => e = .returned (.string Q) ∧ w = w' := by rw [hQ.out]; exact short_any s 60 w
theorem take60 (s : ByteArray) : (ofL ((bl s).take 60)).size ≤ 60 := by rw [ofL_size, List.length_take]; omega
theorem encMsg : EncOk eMsg 5 := ⟨by decide, fun _ => rfl, fun x u hu => by simp [eMsg] at hu; rcases hu with rfl | rfl | rfl | rfl | rfl <;> rfl⟩
theorem encTag : EncOk eTag 2 := ⟨by decide, fun _ => rfl, fun x u hu => by simp [eTag] at hu; rcases hu with rfl | rfl <;> rfl⟩
theorem infoMsg : (Try.prog.info? 48).map (fun i => (i.zero, i.size, i.bytes)) = some (some (.agg #[.int .i64 0, .int .i64 0, .string .empty, .string .empty, .int .i64 0]), 5, 56) := by kernel_rfl
theorem infoTag : (Try.prog.info? 57).map (fun i => (i.zero, i.size, i.bytes)) = some (some (.agg #[.string .empty, .int .i64 0]), 2, 24) := by kernel_rfl
structure Smallish (mark : ByteArray) (live : List Msg5) (bs cl : List Dot2) (tags : List Tag2) (view : List Peer3) : Prop where
  mark : mark.size ≤ 60
  live : live.length ≤ 6 ∧ ∀ m ∈ live, m.queue.size ≤ 60 ∧ m.body.size ≤ 60
  bs : bs.length ≤ 6
  cl : cl.length ≤ 6
  tags : tags.length ≤ 6 ∧ ∀ t ∈ tags, t.1.size ≤ 60
  view : view.length ≤ 6
/-- What small tells. -/
def SmallTells (k f s p fl d0 d1 rc lg : Int) (ab ac av : Option Addr) (kb kc kv : Nat) (bs cl : List Dot2) (view : List Peer3) (w : World) (e : Ending) (w' : World) : Prop :=
  ∃ (mark : ByteArray) (am ag : Option Addr) (nl kl nb nc ng kg nv : Nat) (live : List Msg5) (tags : List Tag2),
    e = .returned (.agg #[.int .i64 k, .int .i64 f, .int .i64 s, .int .i64 p, .int .i64 fl, .string mark, .slice am nl kl, .slice ab nb kb, .slice ac nc kc, .slice ag ng kg, .slice av nv kv, .int .i64 d0, .int .i64 d1, .int .i64 rc, .int .i64 lg]) ∧ (live.length = nl ∧ (bs.take 6).length = nb ∧ (cl.take 6).length = nc ∧ tags.length = ng ∧ (view.take 6).length = nv) ∧
    (SlE eMsg 5 w' am live ∧ ∀ a, am = some a → w.heap.size ≤ a.block) ∧ (SlE eTag 2 w' ag tags ∧ ∀ a, ag = some a → w.heap.size ≤ a.block) ∧ Smallish mark live (bs.take 6) (cl.take 6) tags (view.take 6) ∧ Below w.heap.size w w'
theorem cutIf {n : Nat} : ∃ (B : Bool) (m : Nat), Hid (decide (6 < (n : Int)) = B) ∧ Hid (B = true → m = 6 ∧ 6 < n) ∧ Hid (B = false → m = n) ∧ Hid (m = min n 6) := by
  by_cases h : 6 < n
  · exact ⟨true, 6, decide_eq_true (by omega), fun _ => ⟨rfl, h⟩, (fun e => by cases e), by show _ = _; omega⟩
  · exact ⟨false, n, decide_eq_false (by omega), (fun e => by cases e), fun _ => rfl, by show _ = _; omega⟩
structure SmSt (w w0 : World) (x z : Nat) (C : Array Value) (wx : World) : Prop where
  bx : Blk wx x C 33
  bz : Blk wx z #[.int .i64 0, .int .i64 0, .int .i64 0, .int .i64 0, .int .i64 0, .string ⟨#[]⟩, .slice none 0 0, .slice none 0 0, .slice none 0 0, .slice none 0 0, .slice none 0 0, .int .i64 0, .int .i64 0, .int .i64 0, .int .i64 0] 33
  below : Below w.heap.size w wx
  size : w0.heap.size ≤ wx.heap.size
theorem OwnE.setAt {α : Type} {enc : α → List Value} {k : Nat} {w : World} {base : Nat} {t : TypeId} {v : Value} {xs : List α} (h : OwnE enc k w base t v xs) {y i : Nat} {u : Value} (hy : ∀ g, v.ownBlock = some g → g < y) : OwnE enc k (w.setCell ⟨y, i, none⟩ u) base t v xs :=
  h.keptBy (row := some y) ⟨rfl, rfl, rfl, by simp [World.setCell], fun j _ hn => Below.heap_setCell w ⟨y, i, none⟩ u j (fun e => hn (by rw [show j = y from e]))⟩ (.inr fun e => absurd (hy y e) (Nat.lt_irrefl _))
theorem SmSt.kept {w w0 wa wb : World} {x z : Nat} {C : Array Value} (h : SmSt w w0 x z C wa) (hb : Below w0.heap.size wa wb) (hw : w.heap.size ≤ w0.heap.size) (hx : x < w0.heap.size) (hz : z < w0.heap.size) : SmSt w w0 x z C wb :=
  ⟨h.bx.below hb hx, h.bz.below hb hz, h.below.trans (hb.mono hw), Nat.le_trans h.size hb.size⟩
theorem SmSt.set {w w0 wa : World} {x z : Nat} {C : Array Value} (h : SmSt w w0 x z C wa) (hw : w.heap.size ≤ x) (hxz : z ≠ x) (i : Nat) (v : Value) : SmSt w w0 x z (C.setIfInBounds i v) (wa.setCell ⟨x, i, none⟩ v) :=
  ⟨h.bx.set i v, h.bz.setOther hxz v, h.below.setCell (p := ⟨x, i, none⟩) hw v, by simpa [World.setCell] using h.size⟩

set_option maxRecDepth 100000 in
set_option maxHeartbeats 8000000 in
theorem small_any (k f s p fl d0 d1 rc lg : Int) (mark : ByteArray) (am ab ac ag av : Option Addr) (nl kl nb kb nc kc ng kg nv kv : Nat) (live : List Msg5) (bs cl : List Dot2) (tags : List Tag2) (view : List Peer3) (hl0 : Hid (live.length = nl)) (hl1 : Hid (bs.length = nb ∧ nb ≤ kb)) (hl2 : Hid (cl.length = nc ∧ nc ≤ kc)) (hl3 : Hid (tags.length = ng)) (hl4 : Hid (view.length = nv ∧ nv ≤ kv)) (w : World) (g0 : SlE eMsg 5 w am live) (g1 : SlE eDot 2 w ab bs) (g2 : SlE eDot 2 w ac cl) (g3 : SlE eTag 2 w ag tags) (g4 : SlE ePeer 3 w av view) :
    Calls Try.prog 9 #[.agg #[.int .i64 k, .int .i64 f, .int .i64 s, .int .i64 p, .int .i64 fl, .string mark, .slice am nl kl, .slice ab nb kb, .slice ac nc kc, .slice ag ng kg, .slice av nv kv, .int .i64 d0, .int .i64 d1, .int .i64 rc, .int .i64 lg]] w (SmallTells k f s p fl d0 d1 rc lg ab ac av kb kc kv bs cl view w) := by
  have G0 := Lib.hid g0
  have G1 := Lib.hid g1
  have G2 := Lib.hid g2
  have G3 := Lib.hid g3
  have G4 := Lib.hid g4
  clear g0 g1 g2 g3 g4
  obtain ⟨wa, hwa⟩ := nm (w.alloc (.cells #[.int .i64 k, .int .i64 f, .int .i64 s, .int .i64 p, .int .i64 fl, .string mark, .slice am nl kl, .slice ab nb kb, .slice ac nc kc, .slice ag ng kg, .slice av nv kv, .int .i64 d0, .int .i64 d1, .int .i64 rc, .int .i64 lg] 33))
  obtain ⟨w0, hw0⟩ := nm (wa.alloc (.cells #[.int .i64 0, .int .i64 0, .int .i64 0, .int .i64 0, .int .i64 0, .string ⟨#[]⟩, .slice none 0 0, .slice none 0 0, .slice none 0 0, .slice none 0 0, .slice none 0 0, .int .i64 0, .int .i64 0, .int .i64 0, .int .i64 0] 33))
  obtain ⟨x, hx⟩ := nm w.heap.size
  obtain ⟨z, hz⟩ := nm wa.heap.size
  have HS0 : Hid (SmSt w w0 x z #[.int .i64 k, .int .i64 f, .int .i64 s, .int .i64 p, .int .i64 fl, .string mark, .slice am nl kl, .slice ab nb kb, .slice ac nc kc, .slice ag ng kg, .slice av nv kv, .int .i64 d0, .int .i64 d1, .int .i64 rc, .int .i64 lg] w0) := ⟨by rw [hw0.out]; exact (blkN hwa.out hx.out).alloc _, blkN hw0.out hz.out, by rw [hw0.out, hwa.out]; exact bNew (bOld _) _, Nat.le_refl _⟩
  have HZ : Hid (x + 1 = z) := by show _ = _; rw [hz.out, hwa.out, hx.out]; simp
  have HW0 : Hid (z + 1 = w0.heap.size) := by show _ = _; rw [hw0.out, hz.out]; simp
  have HXW : Hid (w.heap.size ≤ x) := by show _ ≤ _; rw [hx.out]; exact Nat.le_refl _
  have HXZ : Hid (z ≠ x ∧ x < w0.heap.size ∧ z < w0.heap.size ∧ w.heap.size ≤ w0.heap.size ∧ x ≠ z) := by show _ ∧ _; have := HZ.out; have := HW0.out; have := hx.out; omega
  obtain ⟨BB, nb2, hBB, hBBt, hBBf, hnb2⟩ := cutIf (n := nb)
  obtain ⟨BC, nc2, hBC, hBCt, hBCf, hnc2⟩ := cutIf (n := nc)
  obtain ⟨BV, nv2, hBV, hBVt, hBVf, hnv2⟩ := cutIf (n := nv)
  obtain ⟨mk2, hmk2⟩ := nm (ofL ((bl mark).take 60))
  go_enter Try.func9, Try.ntmps9
  go_upto_region 1 with fail
  rw [← hwa.out, ← hw0.out, ← hx.out]
  rw [HZ.out]
  go_upto_block 0 with fail
  go_cut [3] (fun s3 wx => ∃ lv : List Msg5, lv.length ≤ 6 ∧ Hid (∀ m ∈ lv, m.queue.size ≤ 60 ∧ m.body.size ≤ 60) ∧ OwnE eMsg 5 wx w0.heap.size 48 s3 lv ∧ SmSt w w0 x z #[.int .i64 k, .int .i64 f, .int .i64 s, .int .i64 p, .int .i64 fl, .string mark, .slice am nl kl, .slice ab nb kb, .slice ac nc kc, .slice ag ng kg, .slice av nv kv, .int .i64 d0, .int .i64 d1, .int .i64 rc, .int .i64 lg] wx)
  case first =>
    go_wp2_with fail
    go_loopw [3, 4] (fun u i wr => ∃ (t : Nat) (lv : List Msg5) (v : Value), v = u ∧ t ≤ nl ∧ t ≤ 6 ∧ i = .int .i64 (t : Int) ∧ lv.length = t ∧ Hid (∀ m ∈ lv, m.queue.size ≤ 60 ∧ m.body.size ≤ 60) ∧ OwnE eMsg 5 wr w0.heap.size 48 v lv ∧ Hid (SmSt w w0 x z #[.int .i64 k, .int .i64 f, .int .i64 s, .int .i64 p, .int .i64 fl, .string mark, .slice am nl kl, .slice ab nb kb, .slice ac nc kc, .slice ag ng kg, .slice av nv kv, .int .i64 d0, .int .i64 d1, .int .i64 rc, .int .i64 lg] wr)) (fun _ i _ => 6 - (intOf i).toNat)
    case atStart => exact ⟨0, [], _, rfl, by omega, by omega, rfl, rfl, (show ∀ m ∈ ([] : List Msg5), _ from fun m hm => by cases hm), OwnE.nil _ _ _, HS0⟩
    case round =>
      obtain ⟨t, lv, v, rfl, ht, ht6, rfl, hlv, hsz, hown, hst⟩ := hrel
      have c6 : wr.cell? ⟨x, 6, none⟩ = some (.slice am nl kl) := hst.out.bx.cell 6
      by_cases hlt : t < nl ∧ t < 6
      · obtain ⟨hlt1, hlt2⟩ := hlt
        obtain ⟨b, off, ⟨p1, q1, qu, bo, ct⟩, hb, hbl, hpk, hcells⟩ := (G0.out.below hst.out.below).get t (by rw [hl0.out]; exact hlt1)
        have dc0 : wr.cell? ⟨b, off + t * 5, none⟩ = some (.int .i64 p1) := hcells 0 _ rfl
        have dc1 : wr.cell? ⟨b, off + t * 5 + 1, none⟩ = some (.int .i64 q1) := hcells 1 _ rfl
        have dc2 : wr.cell? ⟨b, off + t * 5 + 2, none⟩ = some (.string qu) := hcells 2 _ rfl
        have dc3 : wr.cell? ⟨b, off + t * 5 + 3, none⟩ = some (.string bo) := hcells 3 _ rfl
        have dc4 : wr.cell? ⟨b, off + t * 5 + 4, none⟩ = some (.int .i64 ct) := hcells 4 _ rfl
        rw [hb] at c6
        clear hcells hb
        obtain ⟨Q1, hQ1⟩ := nm (ofL ((bl qu).take 60))
        obtain ⟨Q2, hQ2⟩ := nm (ofL ((bl bo).take 60))
        have HSZ2 : Hid (∀ m ∈ lv ++ [Msg5.mk p1 q1 Q1 Q2 ct], m.queue.size ≤ 60 ∧ m.body.size ≤ 60) := by
          intro m hm
          rcases List.mem_append.1 hm with h | h
          · exact hsz.out m h
          · obtain rfl := List.mem_singleton.1 h
            exact ⟨by simp only; rw [hQ1.out]; exact take60 qu, by simp only; rw [hQ2.out]; exact take60 bo⟩
        obtain ⟨y, hy⟩ := nm wr.heap.size
        obtain ⟨w3, hw3⟩ := nm (wr.alloc (.cells #[.int .i64 p1, .int .i64 q1, .string qu, .string bo, .int .i64 ct] 48))
        have Ky : Hid (Blk w3 y #[.int .i64 p1, .int .i64 q1, .string qu, .string bo, .int .i64 ct] 48) := blkN hw3.out hy.out
        have HY : Hid (w0.heap.size ≤ y ∧ y < w3.heap.size) := by show _ ∧ _; rw [hw3.out, hy.out]; exact ⟨hst.out.size, by simp⟩
        have HO : Hid (∀ g, v.ownBlock = some g → g < y) := by intro g hg; rw [hy.out]; exact (World.ownsRow.lt hown g hg).2
        have HOW : Hid (OwnE eMsg 5 w3 w0.heap.size 48 v lv) := by rw [hw3.out]; exact hown.alloc _
        have HST : Hid (SmSt w w0 x z #[.int .i64 k, .int .i64 f, .int .i64 s, .int .i64 p, .int .i64 fl, .string mark, .slice am nl kl, .slice ab nb kb, .slice ac nc kc, .slice ag ng kg, .slice av nv kv, .int .i64 d0, .int .i64 d1, .int .i64 rc, .int .i64 lg] w3) := by rw [hw3.out]; exact hst.out.kept ((Below.refl _ _).alloc hst.out.size _) HXZ.out.2.2.2.1 HXZ.out.2.1 HXZ.out.2.2.1
        go_upto_region 6 with fail
        rw [← hw3.out, ← hy.out]
        clear c6 dc0 dc1 dc2 dc3 dc4 hst hown hsz
        have y2 : w3.cell? ⟨y, 2, none⟩ = some (.string qu) := Ky.out.cell 2
        have f2 : w3.frozen? ⟨y, 2, none⟩ = false := Ky.out.free 2
        go_upto_region 7 with (go_at_call 17; with_reducible (refine (short_is qu Q1 hQ1 _).mono ?_); rintro e wq ⟨rfl, rfl⟩)
        obtain ⟨w4, hw4⟩ := nm (w3.setCell ⟨y, 2, none⟩ (.string Q1))
        have Ky4 : Hid (Blk w4 y #[.int .i64 p1, .int .i64 q1, .string Q1, .string bo, .int .i64 ct] 48) := by show Blk _ _ _ _; rw [hw4.out]; exact Ky.out.set 2 _
        have HK4 : Hid (Below w0.heap.size w3 w4) := by rw [hw4.out]; exact (Below.refl _ _).setCell (p := ⟨y, 2, none⟩) HY.out.1 _
        rw [← hw4.out]
        clear y2 f2
        have y3 : w4.cell? ⟨y, 3, none⟩ = some (.string bo) := Ky4.out.cell 3
        have f3 : w4.frozen? ⟨y, 3, none⟩ = false := Ky4.out.free 3
        go_upto_region 8 with (go_at_call 17; with_reducible (refine (short_is bo Q2 hQ2 _).mono ?_); rintro e wq ⟨rfl, rfl⟩)
        obtain ⟨w5, hw5⟩ := nm (w4.setCell ⟨y, 3, none⟩ (.string Q2))
        have Ky5 : Hid (Blk w5 y #[.int .i64 p1, .int .i64 q1, .string Q1, .string Q2, .int .i64 ct] 48) := by show Blk _ _ _ _; rw [hw5.out]; exact Ky4.out.set 3 _
        have HK5 : Hid (Below w0.heap.size w3 w5) := by rw [hw5.out]; exact HK4.out.setCell (p := ⟨y, 3, none⟩) HY.out.1 _
        have HOW5 : Hid (OwnE eMsg 5 w5 w0.heap.size 48 v lv) := by
          rw [hw5.out, hw4.out]
          exact OwnE.setAt (OwnE.setAt HOW.out HO.out) HO.out
        have HST5 : Hid (SmSt w w0 x z #[.int .i64 k, .int .i64 f, .int .i64 s, .int .i64 p, .int .i64 fl, .string mark, .slice am nl kl, .slice ab nb kb, .slice ac nc kc, .slice ag ng kg, .slice av nv kv, .int .i64 d0, .int .i64 d1, .int .i64 rc, .int .i64 lg] w5) := HST.out.kept HK5.out HXZ.out.2.2.2.1 HXZ.out.2.1 HXZ.out.2.2.1
        rw [← hw5.out]
        clear y3 f3
        have y0 : w5.cell? ⟨y, 0, none⟩ = some (.int .i64 p1) := Ky5.out.cell 0
        have y1 : w5.cell? ⟨y, 1, none⟩ = some (.int .i64 q1) := Ky5.out.cell 1
        have y2 : w5.cell? ⟨y, 2, none⟩ = some (.string Q1) := Ky5.out.cell 2
        have y3 : w5.cell? ⟨y, 3, none⟩ = some (.string Q2) := Ky5.out.cell 3
        have y4 : w5.cell? ⟨y, 4, none⟩ = some (.int .i64 ct) := Ky5.out.cell 4
        go_wp2_with (at_builtin; refine app_E encMsg Try.underlying22 infoMsg rfl (by decide) rfl _ _ rfl w0.heap.size _ lv rfl (HOW5.out.alloc _) (some ⟨w5.heap.size, 0, none⟩) 1 1 [Msg5.mk p1 q1 Q1 Q2 ct] rfl rfl (fun h => by cases h) (SlE.ofBlk encMsg (Blk.new w5 _ _)) (by omega) (Nat.le_trans HST5.out.size (by simp)) ?_)
        intro v' w6 hown6 hgrow
        have HST6 : Hid (SmSt w w0 x z #[.int .i64 k, .int .i64 f, .int .i64 s, .int .i64 p, .int .i64 fl, .string mark, .slice am nl kl, .slice ab nb kb, .slice ac nc kc, .slice ag ng kg, .slice av nv kv, .int .i64 d0, .int .i64 d1, .int .i64 rc, .int .i64 lg] w6) := HST5.out.kept (((Below.refl _ _).alloc HST5.out.size _).grown hgrow (Nat.le_trans HST5.out.size (by simp)) (fun k hk => (World.ownsRow.lt HOW5.out k hk).1)) HXZ.out.2.2.2.1 HXZ.out.2.1 HXZ.out.2.2.1
        clear hgrow y0 y1 y2 y3 y4
        go_wp2_with fail
        go_roundw
        case rel => exact ⟨t + 1, lv ++ [Msg5.mk p1 q1 Q1 Q2 ct], _, rfl, by omega, by omega, by go_num, by simp [hlv], HSZ2, hown6, HST6⟩
        case measure => simp [intOf]; omega
      · go_wp2_with fail
        all_goals
          go_meet
          exact ⟨lv, by omega, hsz, hown, hst.out⟩
  obtain ⟨lv, hlv6, hsz, hown, hst⟩ := hcut
  obtain ⟨am2, kl2, rfl, hkl, _, _, _, _⟩ := hown.sl encMsg
  obtain ⟨nl2, hnl2⟩ := nm lv.length
  rw [← hnl2.out] at hown hlv6 ⊢
  have HOWN := Lib.hid hown
  have HST := Lib.hid hst
  have HLV6 : Hid (nl2 ≤ 6) := hlv6
  clear hown hst hkl hlv6 hw0 hwa
  have f6 : wc.frozen? ⟨x, 6, none⟩ = false := HST.out.bx.free 6
  have c6 : wc.cell? ⟨x, 6, none⟩ = some (.slice am nl kl) := HST.out.bx.cell 6
  go_upto_region 10 with fail
  obtain ⟨w1, hw1⟩ := nm (wc.setCell ⟨x, 6, none⟩ (.slice am2 nl2 kl2))
  replace HST : Hid (SmSt w w0 x z #[.int .i64 k, .int .i64 f, .int .i64 s, .int .i64 p, .int .i64 fl, .string mark, .slice am2 nl2 kl2, .slice ab nb kb, .slice ac nc kc, .slice ag ng kg, .slice av nv kv, .int .i64 d0, .int .i64 d1, .int .i64 rc, .int .i64 lg] w1) := by rw [hw1.out]; exact HST.out.set HXW.out HXZ.out.1 6 _
  have HOWN1 : Hid (OwnE eMsg 5 w1 w0.heap.size 48 (.slice am2 nl2 kl2) lv) := by rw [hw1.out]; exact HOWN.out.kept (Kept.set (Kept.refl x _) 6 _) HXZ.out.2.1
  rw [← hw1.out]
  clear f6 c6 HOWN hw1
  have c7 : w1.cell? ⟨x, 7, none⟩ = some (.slice ab nb kb) := HST.out.bx.cell 7
  have f7 : w1.frozen? ⟨x, 7, none⟩ = false := HST.out.bx.free 7
  have hcond := hBB.out
  go_upto_if 46 with fail
  go_cut [46] (fun _ wx => SmSt w w0 x z #[.int .i64 k, .int .i64 f, .int .i64 s, .int .i64 p, .int .i64 fl, .string mark, .slice am2 nl2 kl2, .slice ab nb2 kb, .slice ac nc kc, .slice ag ng kg, .slice av nv kv, .int .i64 d0, .int .i64 d1, .int .i64 rc, .int .i64 lg] wx ∧ OwnE eMsg 5 wx w0.heap.size 48 (.slice am2 nl2 kl2) lv)
  case first =>
    cases BB
    · obtain rfl := hBBf.out rfl
      go_wp2_with fail
      go_meet
      exact ⟨HST.out, HOWN1.out⟩
    · obtain ⟨rfl, hlt6⟩ := hBBt.out rfl
      have hcap := hl1.out.2
      go_wp2_with fail
      go_meet
      exact ⟨HST.out.set HXW.out HXZ.out.1 7 _, HOWN1.out.kept (Kept.set (Kept.refl x _) 7 _) HXZ.out.2.1⟩
  obtain ⟨hst, hown⟩ := hcut
  clear HST HOWN1 c7 f7 hcond
  rename World => w2
  have HST := Lib.hid hst
  have HOWNX := Lib.hid hown
  clear hst hown
  have c8 : w2.cell? ⟨x, 8, none⟩ = some (.slice ac nc kc) := HST.out.bx.cell 8
  have f8 : w2.frozen? ⟨x, 8, none⟩ = false := HST.out.bx.free 8
  have hcond := hBC.out
  go_upto_if 60 with fail
  go_cut [60] (fun _ wx => SmSt w w0 x z #[.int .i64 k, .int .i64 f, .int .i64 s, .int .i64 p, .int .i64 fl, .string mark, .slice am2 nl2 kl2, .slice ab nb2 kb, .slice ac nc2 kc, .slice ag ng kg, .slice av nv kv, .int .i64 d0, .int .i64 d1, .int .i64 rc, .int .i64 lg] wx ∧ OwnE eMsg 5 wx w0.heap.size 48 (.slice am2 nl2 kl2) lv)
  case first =>
    cases BC
    · obtain rfl := hBCf.out rfl
      go_wp2_with fail
      go_meet
      exact ⟨HST.out, HOWNX.out⟩
    · obtain ⟨rfl, hlt6⟩ := hBCt.out rfl
      have hcap := hl2.out.2
      go_wp2_with fail
      go_meet
      exact ⟨HST.out.set HXW.out HXZ.out.1 8 _, HOWNX.out.kept (Kept.set (Kept.refl x _) 8 _) HXZ.out.2.1⟩
  obtain ⟨hst, hown⟩ := hcut
  clear HST HOWNX c8 f8 hcond
  rename World => w4
  have HST := Lib.hid hst
  have HOWN3 := Lib.hid hown
  clear hst hown
  obtain ⟨i0, hi, hz0, hz1, hz2⟩ := info_parts infoTag
  go_upto_block 2 with fail
  go_cut [6] (fun s6 wx => ∃ tv : List Tag2, tv.length ≤ 6 ∧ Hid (∀ t ∈ tv, t.1.size ≤ 60) ∧ OwnE eTag 2 wx w0.heap.size 57 s6 tv ∧ SmSt w w0 x z #[.int .i64 k, .int .i64 f, .int .i64 s, .int .i64 p, .int .i64 fl, .string mark, .slice am2 nl2 kl2, .slice ab nb2 kb, .slice ac nc2 kc, .slice ag ng kg, .slice av nv kv, .int .i64 d0, .int .i64 d1, .int .i64 rc, .int .i64 lg] wx ∧ OwnE eMsg 5 wx w0.heap.size 48 (.slice am2 nl2 kl2) lv)
  case first =>
    go_wp2_with fail
    go_loopw [6, 7] (fun u i wr => ∃ (t : Nat) (tv : List Tag2) (v : Value), v = u ∧ t ≤ ng ∧ t ≤ 6 ∧ i = .int .i64 (t : Int) ∧ tv.length = t ∧ Hid (∀ t ∈ tv, t.1.size ≤ 60) ∧ OwnE eTag 2 wr w0.heap.size 57 v tv ∧ Hid (SmSt w w0 x z #[.int .i64 k, .int .i64 f, .int .i64 s, .int .i64 p, .int .i64 fl, .string mark, .slice am2 nl2 kl2, .slice ab nb2 kb, .slice ac nc2 kc, .slice ag ng kg, .slice av nv kv, .int .i64 d0, .int .i64 d1, .int .i64 rc, .int .i64 lg] wr) ∧ Hid (OwnE eMsg 5 wr w0.heap.size 48 (.slice am2 nl2 kl2) lv) ∧ Hid (∀ g, v.ownBlock = some g → ∀ h, (Value.slice am2 nl2 kl2).ownBlock = some h → g ≠ h)) (fun _ i _ => 6 - (intOf i).toNat)
    case atStart => exact ⟨0, [], _, rfl, by omega, by omega, rfl, rfl, (show ∀ m ∈ ([] : List Tag2), _ from fun m hm => by cases hm), OwnE.nil _ _ _, HST, HOWN3, fun g hg => by cases hg⟩
    case round =>
      obtain ⟨t, tv, v, rfl, ht, ht6, rfl, htv, hsz2, hown, hst, howl, hap⟩ := hrel
      have c9 : wr.cell? ⟨x, 9, none⟩ = some (.slice ag ng kg) := hst.out.bx.cell 9
      by_cases hlt : t < ng ∧ t < 6
      · obtain ⟨hlt1, hlt2⟩ := hlt
        obtain ⟨b, off, ⟨nn, ct⟩, hb, hbl, hpk, hcells⟩ := (G3.out.below hst.out.below).get t (by rw [hl3.out]; exact hlt1)
        obtain ⟨_, _, e, hblw, _⟩ := G3.out t (by rw [hl3.out]; exact hlt1)
        rw [hb] at e
        cases e
        rw [hb] at c9
        have dc0 : wr.cell? ⟨b, off + t * 2, none⟩ = some (.string nn) := hcells 0 _ rfl
        have dc1 : wr.cell? ⟨b, off + t * 2 + 1, none⟩ = some (.int .i64 ct) := hcells 1 _ rfl
        clear hcells hb
        obtain ⟨Q1, hQ1⟩ := nm (ofL ((bl nn).take 60))
        have HSZ2 : Hid (∀ t ∈ tv ++ [((Q1, ct) : Tag2)], t.1.size ≤ 60) := by
          intro m hm
          rcases List.mem_append.1 hm with h | h
          · exact hsz2.out m h
          · obtain rfl := List.mem_singleton.1 h
            simp only; rw [hQ1.out]; exact take60 nn
        have hti0 : (0 : Int) ≤ (t : Int) := by omega
        have hti1 : (t : Int) < (ng : Int) := by omega
        have hwsz : w0.heap.size ≤ wr.heap.size := hst.out.size
        have HF : Hid (∀ g, v.ownBlock = some g → w0.heap.size ≤ g) := fun g hg => (World.ownsRow.lt hown g hg).1
        have hneb : v.ownBlock ≠ some b := fun e => by have := HF.out b e; have := HXZ.out.2.2.2.1; omega
        have hnex : v.ownBlock ≠ some x := fun e => by have := HF.out x e; have := HXZ.out.2.1; omega
        have hblr : b < wr.heap.size := by have := HXZ.out.2.2.2.1; omega
        have hxr : x < wr.heap.size := by have := HXZ.out.2.1; omega
        clear hsz2
        go_wp2_with fail
        go_region_held3 (fun w' => w'.cell? ⟨x, 9, none⟩ = some (.slice (some ⟨b, off, none⟩) ng kg) ∧ w'.cell? ⟨b, off + t * 2, none⟩ = some (.string nn) ∧ w'.cell? ⟨b, off + t * 2 + 1, none⟩ = some (.int .i64 ct))
          (first
            | exact ⟨cell_al (cell_dr c9), cell_al (cell_dr dc0), cell_al (cell_dr dc1)⟩
            | exact ⟨cell_dr c9, cell_dr dc0, cell_dr dc1⟩
            | exact ⟨c9, dc0, dc1⟩
            | exact ⟨by rw [hgrow.cell_far _ (by simp; omega) (Ne.symm hnex)]; exact cell_al (cell_dr c9), by rw [hgrow.cell_far _ (by simp; omega) (Ne.symm hneb)]; exact cell_al (cell_dr dc0), by rw [hgrow.cell_far _ (by simp; omega) (Ne.symm hneb)]; exact cell_al (cell_dr dc1)⟩)
          (first
            | (go_at_call 17; with_reducible (refine (short_is nn Q1 hQ1 _).mono ?_); rintro e wq ⟨rfl, rfl⟩)
            | (refine step_append_lies _ (by rfl) _ _ _ (by rfl) w0.heap.size 57 i0 _ 2 24 Try.underlying28 hi hz0 hz1 hz2 rfl (by decide) _ tv.length (flatE eTag tv) (by rfl) ((World.ownsRow.alloc hown _).drew)
                ⟨wr.heap.size, 0, none⟩ 1 1 [.string Q1, .int .i64 ct] (by rfl) (by rfl) (World.news_of_block (cs := #[.string Q1, .int .i64 ct]) (t := 57) (fr := (0, 0)) (heap_alloc_new wr _)) (by simp [Value.oneCell'])
                (by decide) (by unfold maxLen; omega) (by omega) (by simp; omega) (wr.heap.size + 1) (by simp) ?_; intro gg cap2 w6 hown6 hgrow hat hlt9))
        have HB6 : Hid (Below w0.heap.size wr w6) := (bDrewN ((Below.refl _ _).alloc hwsz _) 1).grown hgrow (by simp; omega) (fun kk h => (World.ownsRow.lt hown kk h).1)
        have HST6 : Hid (SmSt w w0 x z #[.int .i64 k, .int .i64 f, .int .i64 s, .int .i64 p, .int .i64 fl, .string mark, .slice am2 nl2 kl2, .slice ab nb2 kb, .slice ac nc2 kc, .slice ag ng kg, .slice av nv kv, .int .i64 d0, .int .i64 d1, .int .i64 rc, .int .i64 lg] w6) := hst.out.kept HB6.out HXZ.out.2.2.2.1 HXZ.out.2.1 HXZ.out.2.2.1
        have HOWL6 : Hid (OwnE eMsg 5 w6 w0.heap.size 48 (.slice am2 nl2 kl2) lv) := by
          refine OwnE.keptBy (row := v.ownBlock) (OwnE.drew (OwnE.alloc howl.out _)) hgrow ?_
          cases hv : (Value.slice am2 nl2 kl2).ownBlock with
          | none => exact .inl rfl
          | some h => exact .inr (fun e => hap.out h e.symm h hv rfl)
        have HAP6 : Hid (∀ g, (Value.slice (some ⟨gg, 0, none⟩) (t + 1) cap2).ownBlock = some g → ∀ h, (Value.slice am2 nl2 kl2).ownBlock = some h → g ≠ h) := by
          intro g hg h hh
          obtain rfl : gg = g := by simpa [Value.ownBlock] using hg
          rcases hat with e | e
          · exact hap.out _ e h hh
          · have := (World.ownsRow.lt howl.out h hh).2
            omega
        have hown7 : OwnE eTag 2 w6 w0.heap.size 57 (.slice (some ⟨gg, 0, none⟩) (t + 1) cap2) (tv ++ [((Q1, ct) : Tag2)]) := by
          show w6.ownsRow _ _ _ _ _ _
          rw [List.length_append, flatE_append, ← htv]
          exact hown6
        clear hown hown6 hgrow hat hlt9 dc0 dc1 c9 hneb hnex
        go_wp2_with fail
        go_roundw
        case rel => exact ⟨t + 1, tv ++ [((Q1, ct) : Tag2)], _, rfl, by omega, by omega, by go_num, by simp [htv], HSZ2, hown7, HST6, HOWL6, HAP6⟩
        case measure => simp [intOf]; omega
      · go_wp2_with fail
        all_goals
          go_meet
          exact ⟨tv, by omega, hsz2, hown, hst.out, howl.out⟩
  obtain ⟨tv, htv6, htsz, hown, hst, howl⟩ := hcut
  clear HST HOWN3
  rename World => w6
  obtain ⟨ag2, kg2, rfl, hkg, _, _, _, _⟩ := hown.sl encTag
  obtain ⟨ng2, hng2⟩ := nm tv.length
  rw [← hng2.out] at hown htv6 ⊢
  have HOWT := Lib.hid hown
  have HST := Lib.hid hst
  have HOWN3 := Lib.hid howl
  have HTV6 : Hid (ng2 ≤ 6) := htv6
  clear hown hst howl hkg htv6
  have f9 : w6.frozen? ⟨x, 9, none⟩ = false := HST.out.bx.free 9
  have c9 : w6.cell? ⟨x, 9, none⟩ = some (.slice ag ng kg) := HST.out.bx.cell 9
  go_upto_region 20 with fail
  obtain ⟨w7, hw7⟩ := nm (w6.setCell ⟨x, 9, none⟩ (.slice ag2 ng2 kg2))
  replace HST : Hid (SmSt w w0 x z #[.int .i64 k, .int .i64 f, .int .i64 s, .int .i64 p, .int .i64 fl, .string mark, .slice am2 nl2 kl2, .slice ab nb2 kb, .slice ac nc2 kc, .slice ag2 ng2 kg2, .slice av nv kv, .int .i64 d0, .int .i64 d1, .int .i64 rc, .int .i64 lg] w7) := by rw [hw7.out]; exact HST.out.set HXW.out HXZ.out.1 9 _
  have HOWN7 : Hid (OwnE eMsg 5 w7 w0.heap.size 48 (.slice am2 nl2 kl2) lv) := by rw [hw7.out]; exact HOWN3.out.kept (Kept.set (Kept.refl x _) 9 _) HXZ.out.2.1
  have HOWT7 : Hid (OwnE eTag 2 w7 w0.heap.size 57 (.slice ag2 ng2 kg2) tv) := by rw [hw7.out]; exact HOWT.out.kept (Kept.set (Kept.refl x _) 9 _) HXZ.out.2.1
  rw [← hw7.out]
  clear f9 c9 HOWN3 HOWT hw7
  have c10 : w7.cell? ⟨x, 10, none⟩ = some (.slice av nv kv) := HST.out.bx.cell 10
  have f10 : w7.frozen? ⟨x, 10, none⟩ = false := HST.out.bx.free 10
  have hcond := hBV.out
  go_upto_if 102 with fail
  go_cut [102] (fun _ wx => SmSt w w0 x z #[.int .i64 k, .int .i64 f, .int .i64 s, .int .i64 p, .int .i64 fl, .string mark, .slice am2 nl2 kl2, .slice ab nb2 kb, .slice ac nc2 kc, .slice ag2 ng2 kg2, .slice av nv2 kv, .int .i64 d0, .int .i64 d1, .int .i64 rc, .int .i64 lg] wx ∧ OwnE eMsg 5 wx w0.heap.size 48 (.slice am2 nl2 kl2) lv ∧ OwnE eTag 2 wx w0.heap.size 57 (.slice ag2 ng2 kg2) tv)
  case first =>
    cases BV
    · obtain rfl := hBVf.out rfl
      go_wp2_with fail
      go_meet
      exact ⟨HST.out, ⟨HOWN7.out, HOWT7.out⟩⟩
    · obtain ⟨rfl, hlt6⟩ := hBVt.out rfl
      have hcap := hl4.out.2
      go_wp2_with fail
      go_meet
      exact ⟨HST.out.set HXW.out HXZ.out.1 10 _, ⟨HOWN7.out.kept (Kept.set (Kept.refl x _) 10 _) HXZ.out.2.1, HOWT7.out.kept (Kept.set (Kept.refl x _) 10 _) HXZ.out.2.1⟩⟩
  obtain ⟨hst, hown⟩ := hcut
  clear HST HOWN7 HOWT7 c10 f10 hcond
  rename World => w8
  have HST := Lib.hid hst
  have HOWNX := Lib.hid hown
  clear hst hown
  have c5 : w8.cell? ⟨x, 5, none⟩ = some (.string mark) := HST.out.bx.cell 5
  have f5 : w8.frozen? ⟨x, 5, none⟩ = false := HST.out.bx.free 5
  go_upto_region 23 with (go_at_call 17; with_reducible (refine (short_is mark mk2 hmk2 _).mono ?_); rintro e wq ⟨rfl, rfl⟩)
  obtain ⟨w9, hw9⟩ := nm (w8.setCell ⟨x, 5, none⟩ (.string mk2))
  replace HST : Hid (SmSt w w0 x z #[.int .i64 k, .int .i64 f, .int .i64 s, .int .i64 p, .int .i64 fl, .string mk2, .slice am2 nl2 kl2, .slice ab nb2 kb, .slice ac nc2 kc, .slice ag2 ng2 kg2, .slice av nv2 kv, .int .i64 d0, .int .i64 d1, .int .i64 rc, .int .i64 lg] w9) := by rw [hw9.out]; exact HST.out.set HXW.out HXZ.out.1 5 _
  have HOWN9 : Hid (OwnE eMsg 5 w9 w0.heap.size 48 (.slice am2 nl2 kl2) lv) := by rw [hw9.out]; exact HOWNX.out.1.kept (Kept.set (Kept.refl x _) 5 _) HXZ.out.2.1
  have HOWT9 : Hid (OwnE eTag 2 w9 w0.heap.size 57 (.slice ag2 ng2 kg2) tv) := by rw [hw9.out]; exact HOWNX.out.2.kept (Kept.set (Kept.refl x _) 5 _) HXZ.out.2.1
  rw [← hw9.out]
  clear c5 f5 HOWNX hw9
  have c0 : w9.cell? ⟨x, 0, none⟩ = some (.int .i64 k) := HST.out.bx.cell 0
  have c1 : w9.cell? ⟨x, 1, none⟩ = some (.int .i64 f) := HST.out.bx.cell 1
  have c2 : w9.cell? ⟨x, 2, none⟩ = some (.int .i64 s) := HST.out.bx.cell 2
  have c3 : w9.cell? ⟨x, 3, none⟩ = some (.int .i64 p) := HST.out.bx.cell 3
  have c4 : w9.cell? ⟨x, 4, none⟩ = some (.int .i64 fl) := HST.out.bx.cell 4
  have c5 : w9.cell? ⟨x, 5, none⟩ = some (.string mk2) := HST.out.bx.cell 5
  have c6 : w9.cell? ⟨x, 6, none⟩ = some (.slice am2 nl2 kl2) := HST.out.bx.cell 6
  have c7 : w9.cell? ⟨x, 7, none⟩ = some (.slice ab nb2 kb) := HST.out.bx.cell 7
  have c8 : w9.cell? ⟨x, 8, none⟩ = some (.slice ac nc2 kc) := HST.out.bx.cell 8
  have c9 : w9.cell? ⟨x, 9, none⟩ = some (.slice ag2 ng2 kg2) := HST.out.bx.cell 9
  have c10 : w9.cell? ⟨x, 10, none⟩ = some (.slice av nv2 kv) := HST.out.bx.cell 10
  have c11 : w9.cell? ⟨x, 11, none⟩ = some (.int .i64 d0) := HST.out.bx.cell 11
  have c12 : w9.cell? ⟨x, 12, none⟩ = some (.int .i64 d1) := HST.out.bx.cell 12
  have c13 : w9.cell? ⟨x, 13, none⟩ = some (.int .i64 rc) := HST.out.bx.cell 13
  have c14 : w9.cell? ⟨x, 14, none⟩ = some (.int .i64 lg) := HST.out.bx.cell 14
  have hone : (#[.int .i64 k, .int .i64 f, .int .i64 s, .int .i64 p, .int .i64 fl, .string mk2, .slice am2 nl2 kl2, .slice ab nb2 kb, .slice ac nc2 kc, .slice ag2 ng2 kg2, .slice av nv2 kv, .int .i64 d0, .int .i64 d1, .int .i64 rc, .int .i64 lg] : Array Value).all (·.oneCell') = true := by simp [Value.oneCell']
  go_wp2_with (refine wpList_store_row rfl 33 _ _ rfl z #[.int .i64 k, .int .i64 f, .int .i64 s, .int .i64 p, .int .i64 fl, .string mk2, .slice am2 nl2 kl2, .slice ab nb2 kb, .slice ac nc2 kc, .slice ag2 ng2 kg2, .slice av nv2 kv, .int .i64 d0, .int .i64 d1, .int .i64 rc, .int .i64 lg] rfl rfl 33 #[.int .i64 0, .int .i64 0, .int .i64 0, .int .i64 0, .int .i64 0, .string ⟨#[]⟩, .slice none 0 0, .slice none 0 0, .slice none 0 0, .slice none 0 0, .slice none 0 0, .int .i64 0, .int .i64 0, .int .i64 0, .int .i64 0] HST.out.bz infoWire rfl hone ?_)
  obtain ⟨wz, hwz⟩ := nm (w9.setRow z #[.int .i64 k, .int .i64 f, .int .i64 s, .int .i64 p, .int .i64 fl, .string mk2, .slice am2 nl2 kl2, .slice ab nb2 kb, .slice ac nc2 kc, .slice ag2 ng2 kg2, .slice av nv2 kv, .int .i64 d0, .int .i64 d1, .int .i64 rc, .int .i64 lg])
  rw [← hwz.out]
  have Kz : Hid (Blk wz z #[.int .i64 k, .int .i64 f, .int .i64 s, .int .i64 p, .int .i64 fl, .string mk2, .slice am2 nl2 kl2, .slice ab nb2 kb, .slice ac nc2 kc, .slice ag2 ng2 kg2, .slice av nv2 kv, .int .i64 d0, .int .i64 d1, .int .i64 rc, .int .i64 lg] 33) := by show Blk _ _ _ _; rw [hwz.out]; exact setRow_heap w9 z _ _ _ _ HST.out.bz
  have HBz : Hid (Below w.heap.size w wz) := by rw [hwz.out]; exact below_setRow HST.out.below (by have := HXW.out; have := HZ.out; omega) _
  have HKz : Hid (Kept z w9 wz) := by
    rw [hwz.out]
    exact ⟨rfl, rfl, rfl, by simp [World.setRow], fun k _ hne => setRow_other _ _ _ _ hne⟩
  refine bodyPost_ret (results_cell_row rfl _ _ z 33 #[.int .i64 k, .int .i64 f, .int .i64 s, .int .i64 p, .int .i64 fl, .string mk2, .slice am2 nl2 kl2, .slice ab nb2 kb, .slice ac nc2 kc, .slice ag2 ng2 kg2, .slice av nv2 kv, .int .i64 d0, .int .i64 d1, .int .i64 rc, .int .i64 lg] (0, 0) _ rfl Kz.out Try.underlying33 rfl infoWire) rfl ?_
  obtain ⟨a1, c1, e1, _, _, s1, _, b1⟩ := (HOWN9.out.kept HKz.out HXZ.out.2.2.1).sl encMsg
  obtain ⟨a2, c2, e2, _, _, s2, _, b2⟩ := (HOWT9.out.kept HKz.out HXZ.out.2.2.1).sl encTag
  have ha1 : am2 = a1 := by injection e1
  have ha2 : ag2 = a2 := by injection e2
  rw [← ha1] at s1
  rw [← ha2] at s2
  refine ⟨mk2, am2, ag2, nl2, kl2, nb2, nc2, ng2, kg2, nv2, lv, tv, rfl, ⟨hnl2.out.symm, by rw [List.length_take, hl1.out.1, hnb2.out]; omega, by rw [List.length_take, hl2.out.1, hnc2.out]; omega, hng2.out.symm, by rw [List.length_take, hl4.out.1, hnv2.out]; omega⟩, ⟨s1, fun a ha => by have := b1 a (by rw [← ha1]; exact ha); have := HXZ.out.2.2.2.1; omega⟩, ⟨s2, fun a ha => by have := b2 a (by rw [← ha2]; exact ha); have := HXZ.out.2.2.2.1; omega⟩, ?_, HBz.out⟩
  exact ⟨by rw [hmk2.out]; exact take60 mark, ⟨by have := HLV6.out; rw [← hnl2.out]; exact this, hsz.out⟩, by rw [List.length_take]; omega, by rw [List.length_take]; omega, ⟨by have := HTV6.out; rw [← hng2.out]; exact this, htsz.out⟩, by rw [List.length_take]; omega⟩
end Go.Proofs.Ytfpjdmplepepjaa

/-! WireAwake: Wire's Same, of the chapter's example; awake. -/
namespace Go.Proofs.Ytfpjdmplepepjaa
open Go.RowKit

set_option maxRecDepth 100000 in
set_option maxHeartbeats 16000000 in
theorem same7 (w : World) : Calls Try.prog 16 #[.agg #[.int .i64 7, .int .i64 1, .int .i64 0, .int .i64 0, .int .i64 0, .string ⟨#[]⟩, .slice none 0 0, .slice none 0 0, .slice none 0 0, .slice none 0 0, .slice none 0 0, .int .i64 0, .int .i64 0, .int .i64 0, .int .i64 0], .agg #[.int .i64 7, .int .i64 1, .int .i64 0, .int .i64 0, .int .i64 0, .string ⟨#[]⟩, .slice none 0 0, .slice none 0 0, .slice none 0 0, .slice none 0 0, .slice none 0 0, .int .i64 0, .int .i64 0, .int .i64 0, .int .i64 0]] w fun e w' => e = .returned (.bool true) ∧ Below w.heap.size w w' := by
  obtain ⟨w0, hw0⟩ := nm ((w.alloc (.cells #[.int .i64 7, .int .i64 1, .int .i64 0, .int .i64 0, .int .i64 0, .string ⟨#[]⟩, .slice none 0 0, .slice none 0 0, .slice none 0 0, .slice none 0 0, .slice none 0 0, .int .i64 0, .int .i64 0, .int .i64 0, .int .i64 0] 33)).alloc (.cells #[.int .i64 7, .int .i64 1, .int .i64 0, .int .i64 0, .int .i64 0, .string ⟨#[]⟩, .slice none 0 0, .slice none 0 0, .slice none 0 0, .slice none 0 0, .slice none 0 0, .int .i64 0, .int .i64 0, .int .i64 0, .int .i64 0] 33))
  obtain ⟨x, hx⟩ := nm w.heap.size
  obtain ⟨y, hy⟩ := nm (x + 1)
  have Kx : Hid (Blk w0 x #[.int .i64 7, .int .i64 1, .int .i64 0, .int .i64 0, .int .i64 0, .string ⟨#[]⟩, .slice none 0 0, .slice none 0 0, .slice none 0 0, .slice none 0 0, .slice none 0 0, .int .i64 0, .int .i64 0, .int .i64 0, .int .i64 0] 33) := by show Blk _ _ _ _; rw [hw0.out, hx.out]; exact (Blk.new _ _ _).alloc _
  have Ky : Hid (Blk w0 y #[.int .i64 7, .int .i64 1, .int .i64 0, .int .i64 0, .int .i64 0, .string ⟨#[]⟩, .slice none 0 0, .slice none 0 0, .slice none 0 0, .slice none 0 0, .slice none 0 0, .int .i64 0, .int .i64 0, .int .i64 0, .int .i64 0] 33) := by show Blk _ _ _ _; rw [hw0.out, hy.out, hx.out]; exact blk_at (by simp)
  have HB : Hid (Below w.heap.size w w0) := by show Below _ _ _; rw [hw0.out]; exact bNew (bOld _) _
  have hlx : x < w0.heap.size := Kx.out.lt
  have hly : y < w0.heap.size := Ky.out.lt
  have cx0 : w0.cell? ⟨x, 0, none⟩ = some (.int .i64 7) := Kx.out.cell 0
  have cy0 : w0.cell? ⟨y, 0, none⟩ = some (.int .i64 7) := Ky.out.cell 0
  have cx1 : w0.cell? ⟨x, 1, none⟩ = some (.int .i64 1) := Kx.out.cell 1
  have cy1 : w0.cell? ⟨y, 1, none⟩ = some (.int .i64 1) := Ky.out.cell 1
  have cx2 : w0.cell? ⟨x, 2, none⟩ = some (.int .i64 0) := Kx.out.cell 2
  have cy2 : w0.cell? ⟨y, 2, none⟩ = some (.int .i64 0) := Ky.out.cell 2
  have cx3 : w0.cell? ⟨x, 3, none⟩ = some (.int .i64 0) := Kx.out.cell 3
  have cy3 : w0.cell? ⟨y, 3, none⟩ = some (.int .i64 0) := Ky.out.cell 3
  have cx4 : w0.cell? ⟨x, 4, none⟩ = some (.int .i64 0) := Kx.out.cell 4
  have cy4 : w0.cell? ⟨y, 4, none⟩ = some (.int .i64 0) := Ky.out.cell 4
  have cx5 : w0.cell? ⟨x, 5, none⟩ = some (.string ⟨#[]⟩) := Kx.out.cell 5
  have cy5 : w0.cell? ⟨y, 5, none⟩ = some (.string ⟨#[]⟩) := Ky.out.cell 5
  have cx6 : w0.cell? ⟨x, 6, none⟩ = some (.slice none 0 0) := Kx.out.cell 6
  have cy6 : w0.cell? ⟨y, 6, none⟩ = some (.slice none 0 0) := Ky.out.cell 6
  have cx7 : w0.cell? ⟨x, 7, none⟩ = some (.slice none 0 0) := Kx.out.cell 7
  have cy7 : w0.cell? ⟨y, 7, none⟩ = some (.slice none 0 0) := Ky.out.cell 7
  have cx8 : w0.cell? ⟨x, 8, none⟩ = some (.slice none 0 0) := Kx.out.cell 8
  have cy8 : w0.cell? ⟨y, 8, none⟩ = some (.slice none 0 0) := Ky.out.cell 8
  have cx9 : w0.cell? ⟨x, 9, none⟩ = some (.slice none 0 0) := Kx.out.cell 9
  have cy9 : w0.cell? ⟨y, 9, none⟩ = some (.slice none 0 0) := Ky.out.cell 9
  have cx10 : w0.cell? ⟨x, 10, none⟩ = some (.slice none 0 0) := Kx.out.cell 10
  have cy10 : w0.cell? ⟨y, 10, none⟩ = some (.slice none 0 0) := Ky.out.cell 10
  have cx11 : w0.cell? ⟨x, 11, none⟩ = some (.int .i64 0) := Kx.out.cell 11
  have cy11 : w0.cell? ⟨y, 11, none⟩ = some (.int .i64 0) := Ky.out.cell 11
  have cx12 : w0.cell? ⟨x, 12, none⟩ = some (.int .i64 0) := Kx.out.cell 12
  have cy12 : w0.cell? ⟨y, 12, none⟩ = some (.int .i64 0) := Ky.out.cell 12
  have cx13 : w0.cell? ⟨x, 13, none⟩ = some (.int .i64 0) := Kx.out.cell 13
  have cy13 : w0.cell? ⟨y, 13, none⟩ = some (.int .i64 0) := Ky.out.cell 13
  have cx14 : w0.cell? ⟨x, 14, none⟩ = some (.int .i64 0) := Kx.out.cell 14
  have cy14 : w0.cell? ⟨y, 14, none⟩ = some (.int .i64 0) := Ky.out.cell 14
  have HKEEP : Hid (∀ wa : World, Below w0.drew.heap.size w0.drew wa → wa.cell? ⟨x, 0, none⟩ = some (.int .i64 7) ∧ wa.cell? ⟨x, 1, none⟩ = some (.int .i64 1) ∧ wa.cell? ⟨x, 2, none⟩ = some (.int .i64 0) ∧ wa.cell? ⟨x, 3, none⟩ = some (.int .i64 0) ∧ wa.cell? ⟨x, 4, none⟩ = some (.int .i64 0) ∧ wa.cell? ⟨x, 5, none⟩ = some (.string ⟨#[]⟩) ∧ wa.cell? ⟨x, 6, none⟩ = some (.slice none 0 0) ∧ wa.cell? ⟨x, 7, none⟩ = some (.slice none 0 0) ∧ wa.cell? ⟨x, 8, none⟩ = some (.slice none 0 0) ∧ wa.cell? ⟨x, 9, none⟩ = some (.slice none 0 0) ∧ wa.cell? ⟨x, 10, none⟩ = some (.slice none 0 0) ∧ wa.cell? ⟨x, 11, none⟩ = some (.int .i64 0) ∧ wa.cell? ⟨x, 12, none⟩ = some (.int .i64 0) ∧ wa.cell? ⟨x, 13, none⟩ = some (.int .i64 0) ∧ wa.cell? ⟨x, 14, none⟩ = some (.int .i64 0) ∧ wa.cell? ⟨y, 0, none⟩ = some (.int .i64 7) ∧ wa.cell? ⟨y, 1, none⟩ = some (.int .i64 1) ∧ wa.cell? ⟨y, 2, none⟩ = some (.int .i64 0) ∧ wa.cell? ⟨y, 3, none⟩ = some (.int .i64 0) ∧ wa.cell? ⟨y, 4, none⟩ = some (.int .i64 0) ∧ wa.cell? ⟨y, 5, none⟩ = some (.string ⟨#[]⟩) ∧ wa.cell? ⟨y, 6, none⟩ = some (.slice none 0 0) ∧ wa.cell? ⟨y, 7, none⟩ = some (.slice none 0 0) ∧ wa.cell? ⟨y, 8, none⟩ = some (.slice none 0 0) ∧ wa.cell? ⟨y, 9, none⟩ = some (.slice none 0 0) ∧ wa.cell? ⟨y, 10, none⟩ = some (.slice none 0 0) ∧ wa.cell? ⟨y, 11, none⟩ = some (.int .i64 0) ∧ wa.cell? ⟨y, 12, none⟩ = some (.int .i64 0) ∧ wa.cell? ⟨y, 13, none⟩ = some (.int .i64 0) ∧ wa.cell? ⟨y, 14, none⟩ = some (.int .i64 0)) := by
    show ∀ wa : World, _
    intro wa h
    exact ⟨(h.cell (p := ⟨x, 0, none⟩) hlx).trans cx0, (h.cell (p := ⟨x, 1, none⟩) hlx).trans cx1, (h.cell (p := ⟨x, 2, none⟩) hlx).trans cx2, (h.cell (p := ⟨x, 3, none⟩) hlx).trans cx3, (h.cell (p := ⟨x, 4, none⟩) hlx).trans cx4, (h.cell (p := ⟨x, 5, none⟩) hlx).trans cx5, (h.cell (p := ⟨x, 6, none⟩) hlx).trans cx6, (h.cell (p := ⟨x, 7, none⟩) hlx).trans cx7, (h.cell (p := ⟨x, 8, none⟩) hlx).trans cx8, (h.cell (p := ⟨x, 9, none⟩) hlx).trans cx9, (h.cell (p := ⟨x, 10, none⟩) hlx).trans cx10, (h.cell (p := ⟨x, 11, none⟩) hlx).trans cx11, (h.cell (p := ⟨x, 12, none⟩) hlx).trans cx12, (h.cell (p := ⟨x, 13, none⟩) hlx).trans cx13, (h.cell (p := ⟨x, 14, none⟩) hlx).trans cx14, (h.cell (p := ⟨y, 0, none⟩) hly).trans cy0, (h.cell (p := ⟨y, 1, none⟩) hly).trans cy1, (h.cell (p := ⟨y, 2, none⟩) hly).trans cy2, (h.cell (p := ⟨y, 3, none⟩) hly).trans cy3, (h.cell (p := ⟨y, 4, none⟩) hly).trans cy4, (h.cell (p := ⟨y, 5, none⟩) hly).trans cy5, (h.cell (p := ⟨y, 6, none⟩) hly).trans cy6, (h.cell (p := ⟨y, 7, none⟩) hly).trans cy7, (h.cell (p := ⟨y, 8, none⟩) hly).trans cy8, (h.cell (p := ⟨y, 9, none⟩) hly).trans cy9, (h.cell (p := ⟨y, 10, none⟩) hly).trans cy10, (h.cell (p := ⟨y, 11, none⟩) hly).trans cy11, (h.cell (p := ⟨y, 12, none⟩) hly).trans cy12, (h.cell (p := ⟨y, 13, none⟩) hly).trans cy13, (h.cell (p := ⟨y, 14, none⟩) hly).trans cy14⟩
  have heq : ∀ w : World, Sem.run Try.prog (binOp .eql 54 (.agg #[.int .i64 7, .int .i64 1, .int .i64 0, .int .i64 0, .int .i64 0, .int .i64 0, .int .i64 0, .int .i64 0, .int .i64 0]) (.agg #[.int .i64 7, .int .i64 1, .int .i64 0, .int .i64 0, .int .i64 0, .int .i64 0, .int .i64 0, .int .i64 0, .int .i64 0])) w = .ok (.bool true) w := fun w => by kernel_rfl
  have hgd := fun (a b : Operand) (w : World) => run_eqGuard_agg (P := Try.prog) w .eql 54 a b #[.int .i64 7, .int .i64 1, .int .i64 0, .int .i64 0, .int .i64 0, .int .i64 0, .int .i64 0, .int .i64 0, .int .i64 0] #[.int .i64 7, .int .i64 1, .int .i64 0, .int .i64 0, .int .i64 0, .int .i64 0, .int .i64 0, .int .i64 0, .int .i64 0] (by kernel_rfl)
  have hT : True := trivial
  go_enter Try.func16, Try.ntmps16
  go_upto_region 1 with fail
  rw [← hw0.out, ← hx.out, ← hy.out]
  go_region_held3 (fun w' => w'.cell? ⟨x, 0, none⟩ = some (.int .i64 7) ∧ w'.cell? ⟨x, 1, none⟩ = some (.int .i64 1) ∧ w'.cell? ⟨x, 2, none⟩ = some (.int .i64 0) ∧ w'.cell? ⟨x, 3, none⟩ = some (.int .i64 0) ∧ w'.cell? ⟨x, 4, none⟩ = some (.int .i64 0) ∧ w'.cell? ⟨x, 5, none⟩ = some (.string ⟨#[]⟩) ∧ w'.cell? ⟨x, 6, none⟩ = some (.slice none 0 0) ∧ w'.cell? ⟨x, 7, none⟩ = some (.slice none 0 0) ∧ w'.cell? ⟨x, 8, none⟩ = some (.slice none 0 0) ∧ w'.cell? ⟨x, 9, none⟩ = some (.slice none 0 0) ∧ w'.cell? ⟨x, 10, none⟩ = some (.slice none 0 0) ∧ w'.cell? ⟨x, 11, none⟩ = some (.int .i64 0) ∧ w'.cell? ⟨x, 12, none⟩ = some (.int .i64 0) ∧ w'.cell? ⟨x, 13, none⟩ = some (.int .i64 0) ∧ w'.cell? ⟨x, 14, none⟩ = some (.int .i64 0) ∧ w'.cell? ⟨y, 0, none⟩ = some (.int .i64 7) ∧ w'.cell? ⟨y, 1, none⟩ = some (.int .i64 1) ∧ w'.cell? ⟨y, 2, none⟩ = some (.int .i64 0) ∧ w'.cell? ⟨y, 3, none⟩ = some (.int .i64 0) ∧ w'.cell? ⟨y, 4, none⟩ = some (.int .i64 0) ∧ w'.cell? ⟨y, 5, none⟩ = some (.string ⟨#[]⟩) ∧ w'.cell? ⟨y, 6, none⟩ = some (.slice none 0 0) ∧ w'.cell? ⟨y, 7, none⟩ = some (.slice none 0 0) ∧ w'.cell? ⟨y, 8, none⟩ = some (.slice none 0 0) ∧ w'.cell? ⟨y, 9, none⟩ = some (.slice none 0 0) ∧ w'.cell? ⟨y, 10, none⟩ = some (.slice none 0 0) ∧ w'.cell? ⟨y, 11, none⟩ = some (.int .i64 0) ∧ w'.cell? ⟨y, 12, none⟩ = some (.int .i64 0) ∧ w'.cell? ⟨y, 13, none⟩ = some (.int .i64 0) ∧ w'.cell? ⟨y, 14, none⟩ = some (.int .i64 0))
    (first
      | exact HKEEP.out _ (bNext (bNext h1 h2) h3)
      | exact HKEEP.out _ (bNext h1 h2)
      | exact HKEEP.out _ h1
      | exact ⟨cell_dr cx0, cell_dr cx1, cell_dr cx2, cell_dr cx3, cell_dr cx4, cell_dr cx5, cell_dr cx6, cell_dr cx7, cell_dr cx8, cell_dr cx9, cell_dr cx10, cell_dr cx11, cell_dr cx12, cell_dr cx13, cell_dr cx14, cell_dr cy0, cell_dr cy1, cell_dr cy2, cell_dr cy3, cell_dr cy4, cell_dr cy5, cell_dr cy6, cell_dr cy7, cell_dr cy8, cell_dr cy9, cell_dr cy10, cell_dr cy11, cell_dr cy12, cell_dr cy13, cell_dr cy14⟩
      | exact ⟨cx0, cx1, cx2, cx3, cx4, cx5, cx6, cx7, cx8, cx9, cx10, cx11, cx12, cx13, cx14, cy0, cy1, cy2, cy3, cy4, cy5, cy6, cy7, cy8, cy9, cy10, cy11, cy12, cy13, cy14⟩)
    (first
      | (go_at_call 20; clear hT; refine (numbers_any 7 1 0 0 0 0 0 0 0 _).mono ?_; rintro e v1 ⟨rfl, h1⟩)
      | (go_at_call 20; refine (numbers_any 7 1 0 0 0 0 0 0 0 _).mono ?_; rintro e v2 ⟨rfl, h2⟩)
      | (go_at_call 45; refine (bagsame0 _).mono ?_; rintro e v3 ⟨rfl, h3⟩)
      | (go_at_call 46; refine (sameT0 _).mono ?_; rintro e v4 ⟨rfl, rfl⟩)
      | (go_at_call 47; refine (sameP0 _).mono ?_; rintro e v5 ⟨rfl, rfl⟩))
  go_wp2_with fail
  go_ret
  exact ⟨rfl, bNext (bDrew HB.out) (bNext (bNext h1 h2) h3)⟩

set_option maxRecDepth 100000 in
set_option maxHeartbeats 16000000 in
theorem awake_any (w : World) : Calls Try.prog 8 #[] w fun e w' => e = .returned (.bool true) ∧ Below w.heap.size w w' := by
  obtain ⟨w0, hw0⟩ := nm (w.alloc (.cells #[.int .i64 7, .int .i64 1, .int .i64 0, .int .i64 0, .int .i64 0, .string ⟨#[]⟩, .slice none 0 0, .slice none 0 0, .slice none 0 0, .slice none 0 0, .slice none 0 0, .int .i64 0, .int .i64 0, .int .i64 0, .int .i64 0] 33))
  obtain ⟨x, hx⟩ := nm w.heap.size
  have Kx : Hid (Blk w0 x #[.int .i64 7, .int .i64 1, .int .i64 0, .int .i64 0, .int .i64 0, .string ⟨#[]⟩, .slice none 0 0, .slice none 0 0, .slice none 0 0, .slice none 0 0, .slice none 0 0, .int .i64 0, .int .i64 0, .int .i64 0, .int .i64 0] 33) := by show Blk _ _ _ _; rw [hw0.out, hx.out]; exact Blk.new _ _ _
  have HB : Hid (Below w.heap.size w w0) := by show Below _ _ _; rw [hw0.out]; exact bOld _
  obtain ⟨S, hS⟩ := nm (ofL (wireL [7, 1, 0, 0, 0, 0, 0, 0, 0]))
  have hSp : 0 < S.size := by
    rw [hS.out, ofL_size]
    unfold wireL
    simp
  have HBY : Hid (∀ w, Calls Try.prog 10 #[.agg #[.int .i64 7, .int .i64 1, .int .i64 0, .int .i64 0, .int .i64 0, .string ⟨#[]⟩, .slice none 0 0, .slice none 0 0, .slice none 0 0, .slice none 0 0, .slice none 0 0, .int .i64 0, .int .i64 0, .int .i64 0, .int .i64 0]] w fun e w' => e = .returned (.tuple #[.string S, .int .i64 0]) ∧ Below w.heap.size w w') := by intro w; rw [hS.out]; exact bytes_ok 7 1 0 0 0 0 0 0 0 (by decide) (by decide) w
  have HRD : Hid (∀ w, Calls Try.prog 14 #[.string S] w fun e w' => e = .returned (.tuple #[.agg #[.int .i64 7, .int .i64 1, .int .i64 0, .int .i64 0, .int .i64 0, .string ⟨#[]⟩, .slice none 0 0, .slice none 0 0, .slice none 0 0, .slice none 0 0, .slice none 0 0, .int .i64 0, .int .i64 0, .int .i64 0, .int .i64 0], .int .i64 0]) ∧ Below w.heap.size w w') := by intro w; rw [hS.out]; exact read_ok 7 1 0 0 0 0 0 0 0 (by decide) (by decide) w
  go_enter Try.func8, Try.ntmps8
  go_upto_region 2 with fail
  rw [← hw0.out, ← hx.out]
  have c0 : w0.cell? ⟨x, 0, none⟩ = some (.int .i64 7) := Kx.out.cell 0
  have c1 : w0.cell? ⟨x, 1, none⟩ = some (.int .i64 1) := Kx.out.cell 1
  have c2 : w0.cell? ⟨x, 2, none⟩ = some (.int .i64 0) := Kx.out.cell 2
  have c3 : w0.cell? ⟨x, 3, none⟩ = some (.int .i64 0) := Kx.out.cell 3
  have c4 : w0.cell? ⟨x, 4, none⟩ = some (.int .i64 0) := Kx.out.cell 4
  have c5 : w0.cell? ⟨x, 5, none⟩ = some (.string ⟨#[]⟩) := Kx.out.cell 5
  have c6 : w0.cell? ⟨x, 6, none⟩ = some (.slice none 0 0) := Kx.out.cell 6
  have c7 : w0.cell? ⟨x, 7, none⟩ = some (.slice none 0 0) := Kx.out.cell 7
  have c8 : w0.cell? ⟨x, 8, none⟩ = some (.slice none 0 0) := Kx.out.cell 8
  have c9 : w0.cell? ⟨x, 9, none⟩ = some (.slice none 0 0) := Kx.out.cell 9
  have c10 : w0.cell? ⟨x, 10, none⟩ = some (.slice none 0 0) := Kx.out.cell 10
  have c11 : w0.cell? ⟨x, 11, none⟩ = some (.int .i64 0) := Kx.out.cell 11
  have c12 : w0.cell? ⟨x, 12, none⟩ = some (.int .i64 0) := Kx.out.cell 12
  have c13 : w0.cell? ⟨x, 13, none⟩ = some (.int .i64 0) := Kx.out.cell 13
  have c14 : w0.cell? ⟨x, 14, none⟩ = some (.int .i64 0) := Kx.out.cell 14
  go_wp2_with fail
  refine (HBY.out _).mono ?_; rintro e w1 ⟨rfl, h1⟩
  replace Kx := Lib.hid (Kx.out.below h1 Kx.out.lt)
  replace HB := Lib.hid (bNext HB.out h1)
  clear h1 c0 c1 c2 c3 c4 c5 c6 c7 c8 c9 c10 c11 c12 c13 c14
  go_wp2_with fail
  refine (HRD.out _).mono ?_; rintro e w2 ⟨rfl, h2⟩
  replace Kx := Lib.hid (Kx.out.below h2 Kx.out.lt)
  replace HB := Lib.hid (bNext HB.out h2)
  obtain ⟨y, hy⟩ := nm w2.heap.size
  obtain ⟨w3, hw3⟩ := nm (w2.alloc (.cells #[.int .i64 7, .int .i64 1, .int .i64 0, .int .i64 0, .int .i64 0, .string ⟨#[]⟩, .slice none 0 0, .slice none 0 0, .slice none 0 0, .slice none 0 0, .slice none 0 0, .int .i64 0, .int .i64 0, .int .i64 0, .int .i64 0] 33))
  have Ky : Hid (Blk w3 y #[.int .i64 7, .int .i64 1, .int .i64 0, .int .i64 0, .int .i64 0, .string ⟨#[]⟩, .slice none 0 0, .slice none 0 0, .slice none 0 0, .slice none 0 0, .slice none 0 0, .int .i64 0, .int .i64 0, .int .i64 0, .int .i64 0] 33) := by show Blk _ _ _ _; rw [hw3.out, hy.out]; exact Blk.new _ _ _
  replace Kx : Hid (Blk w3 x #[.int .i64 7, .int .i64 1, .int .i64 0, .int .i64 0, .int .i64 0, .string ⟨#[]⟩, .slice none 0 0, .slice none 0 0, .slice none 0 0, .slice none 0 0, .slice none 0 0, .int .i64 0, .int .i64 0, .int .i64 0, .int .i64 0] 33) := by show Blk _ _ _ _; rw [hw3.out]; exact Kx.out.alloc _
  replace HB : Hid (Below w.heap.size w w3) := by show Below _ _ _; rw [hw3.out]; exact bNew HB.out _
  clear h2
  go_upto_region 4 with fail
  rw [← hw3.out, ← hy.out]
  go_wp2_with fail
  refine (check_zero _).mono ?_; rintro e w4 ⟨rfl, h4⟩
  replace Kx := Lib.hid (Kx.out.below h4 Kx.out.lt)
  replace Ky := Lib.hid (Ky.out.below h4 Ky.out.lt)
  replace HB := Lib.hid (bNext HB.out h4)
  clear h4
  have c0 : w4.cell? ⟨x, 0, none⟩ = some (.int .i64 7) := Kx.out.cell 0
  have d0 : w4.cell? ⟨y, 0, none⟩ = some (.int .i64 7) := Ky.out.cell 0
  have c1 : w4.cell? ⟨x, 1, none⟩ = some (.int .i64 1) := Kx.out.cell 1
  have d1 : w4.cell? ⟨y, 1, none⟩ = some (.int .i64 1) := Ky.out.cell 1
  have c2 : w4.cell? ⟨x, 2, none⟩ = some (.int .i64 0) := Kx.out.cell 2
  have d2 : w4.cell? ⟨y, 2, none⟩ = some (.int .i64 0) := Ky.out.cell 2
  have c3 : w4.cell? ⟨x, 3, none⟩ = some (.int .i64 0) := Kx.out.cell 3
  have d3 : w4.cell? ⟨y, 3, none⟩ = some (.int .i64 0) := Ky.out.cell 3
  have c4 : w4.cell? ⟨x, 4, none⟩ = some (.int .i64 0) := Kx.out.cell 4
  have d4 : w4.cell? ⟨y, 4, none⟩ = some (.int .i64 0) := Ky.out.cell 4
  have c5 : w4.cell? ⟨x, 5, none⟩ = some (.string ⟨#[]⟩) := Kx.out.cell 5
  have d5 : w4.cell? ⟨y, 5, none⟩ = some (.string ⟨#[]⟩) := Ky.out.cell 5
  have c6 : w4.cell? ⟨x, 6, none⟩ = some (.slice none 0 0) := Kx.out.cell 6
  have d6 : w4.cell? ⟨y, 6, none⟩ = some (.slice none 0 0) := Ky.out.cell 6
  have c7 : w4.cell? ⟨x, 7, none⟩ = some (.slice none 0 0) := Kx.out.cell 7
  have d7 : w4.cell? ⟨y, 7, none⟩ = some (.slice none 0 0) := Ky.out.cell 7
  have c8 : w4.cell? ⟨x, 8, none⟩ = some (.slice none 0 0) := Kx.out.cell 8
  have d8 : w4.cell? ⟨y, 8, none⟩ = some (.slice none 0 0) := Ky.out.cell 8
  have c9 : w4.cell? ⟨x, 9, none⟩ = some (.slice none 0 0) := Kx.out.cell 9
  have d9 : w4.cell? ⟨y, 9, none⟩ = some (.slice none 0 0) := Ky.out.cell 9
  have c10 : w4.cell? ⟨x, 10, none⟩ = some (.slice none 0 0) := Kx.out.cell 10
  have d10 : w4.cell? ⟨y, 10, none⟩ = some (.slice none 0 0) := Ky.out.cell 10
  have c11 : w4.cell? ⟨x, 11, none⟩ = some (.int .i64 0) := Kx.out.cell 11
  have d11 : w4.cell? ⟨y, 11, none⟩ = some (.int .i64 0) := Ky.out.cell 11
  have c12 : w4.cell? ⟨x, 12, none⟩ = some (.int .i64 0) := Kx.out.cell 12
  have d12 : w4.cell? ⟨y, 12, none⟩ = some (.int .i64 0) := Ky.out.cell 12
  have c13 : w4.cell? ⟨x, 13, none⟩ = some (.int .i64 0) := Kx.out.cell 13
  have d13 : w4.cell? ⟨y, 13, none⟩ = some (.int .i64 0) := Ky.out.cell 13
  have c14 : w4.cell? ⟨x, 14, none⟩ = some (.int .i64 0) := Kx.out.cell 14
  have d14 : w4.cell? ⟨y, 14, none⟩ = some (.int .i64 0) := Ky.out.cell 14
  go_wp2_with fail
  refine (same7 _).mono ?_; rintro e w5 ⟨rfl, h5⟩
  replace HB := Lib.hid (bNext HB.out h5)
  clear h5 c0 d0 c1 d1 c2 d2 c3 d3 c4 d4 c5 d5 c6 d6 c7 d7 c8 d8 c9 d9 c10 d10 c11 d11 c12 d12 c13 d13 c14 d14
  go_wp2_with fail
  go_ret
  exact ⟨by simp, HB.out⟩
end Go.Proofs.Ytfpjdmplepepjaa

