/- slices.SortFunc over spots; what is appended to a row of them. -/
import Derived.Test.YtpolhdkjkidpgaaSpotCompact
import Derived.Test.YtpolhdkjkidpgaaSpotShelf
import Derived.Test.YtpolhdkjkidpgaaSpotCmp
import Derived.OwnWalk
import Derived.Deep.AppendLies
import Derived.Laws.AppendOwnNone
namespace Go.Proofs.Ytpolhdkjkidpgaa
open Go.RowKit Go.Shelf Go.Lib Go.Sort

theorem infoD : (Try.prog.info? 66).map (fun i => (i.zero, i.size, i.bytes)) = some (some (.agg #[.int .i64 0, .int .i64 0]), 2, 16) := by kernel_rfl
theorem SlP.newsA {w : World} {a : Addr} {ps : List (Int × Int)} (h : SlP w (some a) ps) : ∀ j u, (flatD ps)[j]? = some u → w.cell? (a.add j) = some u := by
  intro j u hj
  by_cases h0 : ps.length = 0
  · rw [List.length_eq_zero_iff.1 h0] at hj; simp [flatD] at hj
  · obtain ⟨b, off, h1, _⟩ := h 0 (by omega)
    cases h1
    exact h.news j u hj
/-- slices.SortFunc by dot.compare, of a row that is held. -/
theorem sortfunc_any (b cap : Nat) (ps : List (Int × Int)) (w : World) (hH : HoldsD w b ps.toArray) (hb : b < w.heap.size) (hsz : ps.length < 4611686018427387904) :
    Calls Try.prog 67 #[.slice (some ⟨b, 0, none⟩) ps.length cap, .func (.func 68) #[] #[]] w fun e w' =>
      e = .returned (.tuple #[]) ∧ HoldsD w' b (msD ps).toArray ∧ Kept b w w' := by
  have eg : ∀ args w, (callFunc 68 args).run Try.prog w = .ok (.enter 68 args) w := enters_of Try.func68 (by kernel_rfl) rfl
  have hC : CmpLays Try.prog 68 #[] encD 2 cmpD b 0 ps.toArray.size w := fun _ _ _ _ x y => compare_any x y _
  have hcon := AnyQ.slices_SortFunc_total Try.sortPair 2 Try.isAgg66 Try.sizeOf66 encD encD_len encD_one cmpD swoD 68 #[] b 0 cap ps.toArray w eg hC hH hb (by simpa using hsz) totD
  rw [show ps.toArray.size = ps.length from by simp] at hcon
  refine hcon.mono ?_
  rintro e w' ⟨rfl, n, os, rfl⟩
  have hS : SWK encD 2 w b 0 (msD ps).toArray (sortWorldK encD 2 w b 0 n (msD ps).toArray os) := ⟨n, os, rfl⟩
  exact ⟨rfl, hS.holds hb hH (by simp [msD_length]), SWK.keptD hS⟩
/-- .. of no element. -/
theorem sortfunc_none (p : Option Addr) (cap : Nat) (fv : Value) (w : World) :
    Calls Try.prog 67 #[.slice p 0 cap, fv] w fun e w' => e = .returned (.tuple #[]) ∧ w = w' :=
  (AnyF.slices_SortFunc_none Try.sortPair p cap fv w).mono fun _ _ ⟨h1, h2⟩ => ⟨h1, h2.symm⟩
set_option maxRecDepth 100000 in
set_option maxHeartbeats 400000 in
theorem compact_none (p : Option Addr) (cap : Nat) (w : World) :
    Calls Try.prog 70 #[.slice p 0 cap] w fun e w' => e = .returned (.slice p 0 cap) ∧ w = w' := by
  go_enter Try.func70, Try.ntmps70
  go_wp2_with fail
  go_ret
  exact ⟨rfl, rfl⟩
theorem hidSymm {α : Type} {a b : α} (h : Hid (a = b)) : Hid (b = a) := h.out.symm
theorem SlP.none_len {w : World} {ps : List (Int × Int)} (h : SlP w none ps) : ps.length = 0 := by
  rcases Nat.eq_zero_or_pos ps.length with h0 | h0
  · exact h0
  · obtain ⟨b, off, h1, _⟩ := h 0 h0; cases h1
theorem get_of {ps : List (Int × Int)} {i : Nat} {p : Int × Int} (h : ps[i]? = some p) : i < ps.length ∧ ps[i]! = p := by
  have hi : i < ps.length := by
    rcases Nat.lt_or_ge i ps.length with h1 | h1
    · exact h1
    · rw [List.getElem?_eq_none h1] at h; cases h
  refine ⟨hi, ?_⟩
  rw [getElem!_pos ps i hi]
  rw [List.getElem?_eq_getElem hi] at h
  exact Option.some.inj h
theorem below_drewN {B : Nat} {w a : World} (h : Below B w a) (n : Nat) : Below B w (a.drewN n) := ⟨h.os, h.tape, h.output, h.size, h.block⟩
theorem take_snocP {ps : List (Int × Int)} {k : Nat} {p : Int × Int} (h : ps[k]? = some p) : ps.take (k + 1) = ps.take k ++ [p] := by
  obtain ⟨g1, _⟩ := get_of h
  rw [List.take_succ_eq_append_getElem g1]
  rw [List.getElem?_eq_getElem g1] at h
  rw [Option.some.inj h]
theorem SlP.ofBlk {w : World} {b : Nat} {t : TypeId} {ps : List (Int × Int)} (h : Blk w b (flatD ps).toArray t) : SlP w (some ⟨b, 0, none⟩) ps := by
  intro k _
  refine ⟨b, 0, rfl, h.lt, fun j p hj => ?_⟩
  obtain ⟨g0, g1⟩ := flatD_get ps j p hj
  rw [h.cell, h.cell, Nat.zero_add]
  simp only [List.getElem?_toArray]
  exact ⟨g0, g1⟩
theorem app_pairs {w : World} {ops : Array Oper} {rest : List Oper} {o : Oper} {a : Act} {Q : Exit → Act → World → Prop} (hgd : o.guard = none) (s x : Operand)
    (ho : o.op = .call { callee := .builtin .append, args := #[s, x], argTypes := #[46, 46] })
    (base : Nat) (v : Value) (ps : List (Int × Int)) (hs : a.eval s = v) (hown : OwnP w base 66 v ps)
    (ao : Option Addr) (m c : Nat) (qs : List (Int × Int)) (hx : a.eval x = .slice ao m c) (hq : qs.length = m) (hc : ao = none → c = 0) (hsl : SlP w ao qs) (hb : ps.length + m ≤ 1000000000) (hbase : base ≤ w.heap.size)
    (h : ∀ v' w', OwnP w' base 66 v' (ps ++ qs) → w.grownBy w' v.ownBlock → wpList Try.prog ops Q rest (a.put o.dst v') w') : wpList Try.prog ops Q (o :: rest) a w := by
  obtain ⟨i0, hi, hz0, hz1, hz2⟩ := info_parts infoD
  cases ao with
  | none =>
    have h0 := hsl.none_len
    obtain rfl := hc rfl
    obtain rfl : m = 0 := hq.symm.trans h0
    obtain rfl := List.length_eq_zero_iff.1 h0
    refine wpList_append_own_none hgd s x _ ho base 66 i0 2 Try.underlying46 hi v ps.length (flatD ps) hs hown hx ?_
    refine h v w (by rw [List.append_nil]; exact hown) ⟨rfl, rfl, rfl, Nat.le_refl _, fun _ _ _ => rfl⟩
  | some ad =>
    refine wpList_append_own w hgd s x _ ho base 66 i0 _ 2 16 Try.underlying46 hi hz0 hz1 hz2 rfl (by decide) v ps.length (flatD ps) hs hown ad m c (flatD qs) hx (by rw [flatD_length, hq]) hsl.newsA (flatD_cell qs) (by unfold maxLen; omega) (by omega) hbase ?_
    intro v' w' h1 h2 _
    refine h v' w' ?_ h2
    show w'.ownsRow _ _ _ _ _ _
    rw [flatD_append, List.length_append, hq]
    exact h1
theorem own_grown {w a b : World} {base : Nat} {t : TypeId} {v : Value} {ps : List (Int × Int)} (hown : OwnP a base t v ps) (hB : Below w.heap.size w a) (hb : w.heap.size ≤ base) (hg : a.grownBy b v.ownBlock) : Below w.heap.size w b :=
  hB.grown hg hB.size (fun k hk => Nat.le_trans hb (hown.lt k hk).1)
theorem OwnP.cap0 {w : World} {base : Nat} {t : TypeId} {ao : Option Addr} {n cap : Nat} {ps : List (Int × Int)} (h : OwnP w base t (.slice ao n cap) ps) : ao = none → cap = 0 := by
  rintro rfl
  rcases h.2 with ⟨h1, _⟩ | ⟨g, cap', cur, h1, _⟩
  · cases h1; rfl
  · cases h1
end Go.Proofs.Ytpolhdkjkidpgaa
