/- ViewRefutes: for any row of peers and any node the law returns true. -/
import Derived.Test.YtpolhdkjkidpgaaViewAwake
import Derived.Test.YtpolhdkjkidpgaaViewSmall
import Derived.Test.YtpolhdkjkidpgaaViewFind
namespace Go.Proofs.Ytpolhdkjkidpgaa
open Go.RowKit Go.Shelf Go.Lib Go.Sort

/-- Same, of two views that are the same row. -/
theorem same_b {A B : List P3} (hl : A.length ≤ 1000) (he : A = B) {va vb : Value} {w : World} (ha : Vw w va A) (hb : Vw w vb B) :
    Calls Try.prog 12 #[va, vb] w fun e w' => e = .returned (.bool true) ∧ Below w.heap.size w w' :=
  (same_yes A B hl he va vb w ha hb).mono fun _ _ ⟨h1, q, h2⟩ => ⟨h1, h2 ▸ bDrewN (Below.refl _ _) q⟩
/-- Find, where the answer is known. -/
theorem find_is {A : List P3} (hl : A.length ≤ 1000) {id x y z : Int} (hf : fnd A id = some (x, y, z)) {v : Value} {w : World} (hv : Vw w v A) :
    Calls Try.prog 19 #[v, .int .i64 id] w fun e w' => e = .returned (.tuple #[.agg #[.int .i64 x, .int .i64 y, .int .i64 z], .bool true]) ∧ Below w.heap.size w w' := by
  refine (find_any A hl id v w hv).mono ?_
  rintro e w' ⟨hB, ⟨h1, _⟩ | ⟨x', y', z', h1, h2⟩⟩
  · have := h1.out; rw [hf] at this; cases this
  · have := h1.out
    rw [hf] at this
    cases this
    exact ⟨h2, hB⟩
theorem fnd_with {A : List P3} (ha : SortT A) (p : P3) : fnd (putL A p) p.1 = some (more (fnd A p.1) p) := by rw [fnd_putL ha, if_pos rfl]

/-- What is known of it, before and behind. -/
theorem fnd_ref {A : List P3} (ha : SortT A) {id : Int} {p : P3} (hf : fnd A id = some p) :
    fnd (joinL (joinL A (chgL suspP id A)) (chgL refuP id (chgL suspP id A))) id = some (refuP (suspP p)) := by
  have s1 := chgL_sort suspP id suspP_fst ha
  have s2 := chgL_sort refuP id refuP_fst s1
  rw [fnd_join (joinL_sort ha _) s2, fnd_join ha s1, fnd_chgL refuP id refuP_fst, fnd_chgL suspP id suspP_fst, if_pos rfl, if_pos rfl, hf]
  show some (laterP (laterP p (suspP p)) (refuP (suspP p))) = _
  rw [laterP_lt (susp_le p), laterP_lt (refu_le (suspP p))]
theorem vj_ref {A : List P3} (ha : Vsm A) (id : Int) : vjoin (vjoin A (chgL suspP id A)) (chgL refuP id (chgL suspP id A)) = joinL (joinL A (chgL suspP id A)) (chgL refuP id (chgL suspP id A)) := by
  have hl := ha.len
  have h1 : (chgL suspP id A).length = A.length := chgL_length _ _ _
  have h2 : (chgL refuP id (chgL suspP id A)).length = A.length := by rw [chgL_length, h1]
  rw [vj_is (A := A) (by omega), vj_is (by have := joinL_length (chgL suspP id A) A; omega)]
theorem vj_refr {A : List P3} (ha : Vsm A) (id : Int) : vjoin (vjoin (chgL refuP id (chgL suspP id A)) (chgL suspP id A)) A = joinL (joinL A (chgL suspP id A)) (chgL refuP id (chgL suspP id A)) := by
  have hl := ha.len
  have h1 : (chgL suspP id A).length = A.length := chgL_length _ _ _
  have h2 : (chgL refuP id (chgL suspP id A)).length = A.length := by rw [chgL_length, h1]
  have s1 := chgL_sort suspP id suspP_fst ha.sort
  have s2 := chgL_sort refuP id refuP_fst s1
  rw [vj_is (A := chgL refuP id (chgL suspP id A)) (by omega), vj_is (by have := joinL_length (chgL suspP id A) (chgL refuP id (chgL suspP id A)); omega)]
  rw [joinL_comm (joinL_sort s2 _) ha.sort, joinL_comm s2 s1, joinL_assoc ha.sort s1 s2]

set_option maxRecDepth 100000 in
set_option maxHeartbeats 8000000 in
theorem viewRefutes_walk (a0 : Option Addr) (A : List P3) (n0 c0 : Nat) (h0 : A.length = n0) (q : Int) (w : World) (s0 : SlT w a0 A) :
    Calls Try.prog 7 #[.slice a0 n0 c0, .int .i64 q] w fun e w' => e = .returned (.bool true) ∧ Below w.heap.size w w' := by
  obtain ⟨M, hM⟩ := nm (madeL (A.take 12))
  have m0 : Hid (Vsm M) := by show Vsm M; rw [hM.out]; exact madeL_sm _
  obtain ⟨i, hi⟩ := nm (bits .and .i64 q 7)
  obtain ⟨i0, i7⟩ : 0 ≤ i ∧ i < 8 := by rw [hi.out, and7_is]; omega
  have ei : bits .and .i64 q 7 = i := hi.out.symm
  have wi : IntKind.i64.wrap (1 + i) = 1 + i := by rw [IntKind.wrap_i64]; omega
  have okp : Hid (okP (1 + i, 0, 0)) := by show okP _; unfold okP; simp only; omega
  obtain ⟨N, hN⟩ := nm (vwith M (1 + i, 0, 0))
  have n : Hid (Vsm N) := by show Vsm N; rw [hN.out]; exact m0.out.vwith okp.out
  have hf0 : fnd N (1 + i) = some (more (fnd M (1 + i)) (1 + i, 0, 0)) := by rw [hN.out, vw_is (by have := m0.out.len; omega) (okP_may okp.out)]; exact fnd_with m0.out.sort (1 + i, 0, 0)
  obtain ⟨⟨p0, y, z⟩, hp⟩ : ∃ p, p = more (fnd M (1 + i)) (1 + i, 0, 0) := ⟨_, rfl⟩
  rw [← hp] at hf0
  obtain rfl : p0 = 1 + i := (fnd_some hf0).2
  have F0 := Lib.hid hf0
  have okn : okP (1 + i, y, z) := n.out.all _ (fnd_some hf0).1
  obtain ⟨_, ⟨y0, y1⟩, z0, z2⟩ := okn
  simp only at y0 y1 z0 z2
  obtain ⟨P, hP⟩ := nm (chgL suspP (1 + i) N)
  obtain ⟨R, hR⟩ := nm (chgL refuP (1 + i) P)
  have np : Hid (Vok P) := by show Vok P; rw [hP.out]; exact n.out.ok.chg suspP_fst (fun _ => suspP_may) _
  have nr : Hid (Vok R) := by show Vok R; rw [hR.out]; exact np.out.chg refuP_fst (fun _ => refuP_may) _
  obtain ⟨O, hO⟩ := nm (vjoin (vjoin N P) R)
  have hO2 : Hid (O = joinL (joinL N P) R) := by show _ = _; rw [hO.out, hR.out, hP.out]; exact vj_ref n.out _
  have hOT : Hid (O = vjoin (vjoin R P) N) := by show _ = _; rw [hO2.out, hR.out, hP.out]; exact (vj_refr n.out _).symm
  have fO : Hid (fnd O (1 + i) = some (refuP (suspP (1 + i, y, z)))) := by show _ = _; rw [hO2.out, hR.out, hP.out]; exact fnd_ref n.out.sort hf0
  have oo : Hid (Vok O) := by show Vok O; rw [hO.out]; exact (n.out.ok.join np.out).join nr.out
  have S0 := Lib.hid s0
  clear s0 hf0 hp
  go_enter Try.func7, Try.ntmps7
  go_wp2_with fail
  refine (awake_any _).mono ?_; rintro e w1 ⟨rfl, hB⟩
  replace S0 := Lib.hid (S0.out.below hB)
  have HB := Lib.hid (hB)
  clear hB
  go_wp2_with fail
  refine (made_any A n0 c0 h0 a0 _ S0.out).mono ?_; rintro e w2 ⟨vm, rfl, hv, hB⟩
  replace S0 := Lib.hid (S0.out.below hB)
  replace HB := Lib.hid (bNext HB.out hB)
  have HM := Lib.hid (hv.eq (hM.out.symm))
  clear hB hv
  clear S0
  go_wp2_with fail
  refine (with_any M m0.out.ok (1 + i) 0 0 vm _ HM.out).mono ?_; rintro e w3 ⟨vn, rfl, hv, hB⟩
  replace HM := Lib.hid (HM.out.below hB)
  replace HB := Lib.hid (bNext HB.out hB)
  have HN := Lib.hid (hv.eq (hN.out.symm))
  clear hB hv
  clear HM
  go_wp2_with fail
  refine (find_is (by have := n.out.len; omega) F0.out HN.out).mono ?_; rintro e w4 ⟨rfl, hB⟩
  replace HN := Lib.hid (HN.out.below hB)
  replace HB := Lib.hid (bNext HB.out hB)
  clear hB
  go_upto_region 5 with fail
  obtain ⟨bp, hbp⟩ := nm w4.heap.size
  obtain ⟨wa, hwa⟩ := nm (w4.alloc (.cells #[.int .i64 (1 + i), .int .i64 y, .int .i64 z] 32))
  have HK : Hid (Blk wa bp #[.int .i64 (1 + i), .int .i64 y, .int .i64 z] 32) := by show Blk _ _ _ _; rw [hwa.out, hbp.out]; exact Blk.new _ _ _
  have hBa : Below w4.heap.size w4 wa := by rw [hwa.out]; exact bOld _
  replace HN := Lib.hid (HN.out.below hBa)
  replace HB := Lib.hid (bNext HB.out hBa)
  rw [← hwa.out, ← hbp.out]
  clear hBa
  go_wp2_with fail
  refine (suspect_any N n.out.ok (1 + i) vn _ HN.out).mono ?_; rintro e w5 ⟨vp, rfl, hv, hB⟩
  replace HK := Lib.hid (Blk.below HK.out hB HK.out.lt)
  replace HN := Lib.hid (HN.out.below hB)
  replace HB := Lib.hid (bNext HB.out hB)
  have HP := Lib.hid (hv.eq (hP.out.symm))
  clear hB hv
  go_wp2_with fail
  refine (refute_any P np.out (1 + i) vp _ HP.out).mono ?_; rintro e w6 ⟨vr, rfl, hv, hB⟩
  replace HK := Lib.hid (Blk.below HK.out hB HK.out.lt)
  replace HN := Lib.hid (HN.out.below hB)
  replace HP := Lib.hid (HP.out.below hB)
  replace HB := Lib.hid (bNext HB.out hB)
  have HR := Lib.hid (hv.eq (hR.out.symm))
  clear hB hv
  go_wp2_with fail
  refine (join_ok n.out.ok np.out HN.out HP.out).mono ?_; rintro e w7 ⟨vnp, rfl, hv, hB⟩
  replace HK := Lib.hid (Blk.below HK.out hB HK.out.lt)
  replace HN := Lib.hid (HN.out.below hB)
  replace HP := Lib.hid (HP.out.below hB)
  replace HR := Lib.hid (HR.out.below hB)
  replace HB := Lib.hid (bNext HB.out hB)
  have HNP := Lib.hid (hv)
  clear hB hv
  go_wp2_with fail
  refine (join_ok (n.out.ok.join np.out) nr.out HNP.out HR.out).mono ?_; rintro e w8 ⟨vo, rfl, hv, hB⟩
  replace HK := Lib.hid (Blk.below HK.out hB HK.out.lt)
  replace HN := Lib.hid (HN.out.below hB)
  replace HP := Lib.hid (HP.out.below hB)
  replace HR := Lib.hid (HR.out.below hB)
  replace HNP := Lib.hid (HNP.out.below hB)
  replace HB := Lib.hid (bNext HB.out hB)
  have HO := Lib.hid (hv.eq (hO.out.symm))
  clear hB hv
  clear HNP
  go_wp2_with fail
  refine (join_ok nr.out np.out HR.out HP.out).mono ?_; rintro e w9 ⟨vrp, rfl, hv, hB⟩
  replace HK := Lib.hid (Blk.below HK.out hB HK.out.lt)
  replace HN := Lib.hid (HN.out.below hB)
  replace HP := Lib.hid (HP.out.below hB)
  replace HR := Lib.hid (HR.out.below hB)
  replace HO := Lib.hid (HO.out.below hB)
  replace HB := Lib.hid (bNext HB.out hB)
  have HRP := Lib.hid (hv)
  clear hB hv
  go_wp2_with fail
  refine (join_ok (nr.out.join np.out) n.out.ok HRP.out HN.out).mono ?_; rintro e w10 ⟨vt, rfl, hv, hB⟩
  replace HK := Lib.hid (Blk.below HK.out hB HK.out.lt)
  replace HN := Lib.hid (HN.out.below hB)
  replace HP := Lib.hid (HP.out.below hB)
  replace HR := Lib.hid (HR.out.below hB)
  replace HO := Lib.hid (HO.out.below hB)
  replace HRP := Lib.hid (HRP.out.below hB)
  replace HB := Lib.hid (bNext HB.out hB)
  have HT := Lib.hid (hv.eq (hOT.out.symm))
  clear hB hv
  clear HRP
  by_cases hz : z = 2
  · subst hz
    have fO2 : Hid (fnd O (1 + i) = some (1 + i, y, 2)) := by show _ = _; rw [fO.out]; simp [suspP, refuP]
    go_wp2_with fail
    refine (find_is (by have := oo.out.len; omega) fO2.out HO.out).mono ?_; rintro e w11 ⟨rfl, hB⟩
    replace HK := Lib.hid (Blk.below HK.out hB HK.out.lt)
    replace HN := Lib.hid (HN.out.below hB)
    replace HP := Lib.hid (HP.out.below hB)
    replace HR := Lib.hid (HR.out.below hB)
    replace HO := Lib.hid (HO.out.below hB)
    replace HT := Lib.hid (HT.out.below hB)
    replace HB := Lib.hid (bNext HB.out hB)
    clear hB
    go_upto_region 12 with fail
    obtain ⟨bq, hbq⟩ := nm w11.heap.size
    obtain ⟨wq, hwq⟩ := nm (w11.alloc (.cells #[.int .i64 (1 + i), .int .i64 y, .int .i64 2] 32))
    have HQ : Hid (Blk wq bq #[.int .i64 (1 + i), .int .i64 y, .int .i64 2] 32) := by show Blk _ _ _ _; rw [hwq.out, hbq.out]; exact Blk.new _ _ _
    have hBq : Below w11.heap.size w11 wq := by rw [hwq.out]; exact bOld _
    replace HN := Lib.hid (HN.out.below hBq)
    replace HP := Lib.hid (HP.out.below hBq)
    replace HR := Lib.hid (HR.out.below hBq)
    replace HO := Lib.hid (HO.out.below hBq)
    replace HT := Lib.hid (HT.out.below hBq)
    replace HK := Lib.hid (Blk.below HK.out hBq HK.out.lt)
    replace HB := Lib.hid (bNext HB.out hBq)
    rw [← hwq.out, ← hbq.out]
    clear hBq
    go_wp2_with fail
    refine (same_b (by have := oo.out.len; omega) rfl HO.out HT.out).mono ?_; rintro e w12 ⟨rfl, hB⟩
    replace HK := Lib.hid (Blk.below HK.out hB HK.out.lt)
    replace HQ := Lib.hid (Blk.below HQ.out hB HQ.out.lt)
    replace HN := Lib.hid (HN.out.below hB)
    replace HP := Lib.hid (HP.out.below hB)
    replace HR := Lib.hid (HR.out.below hB)
    replace HO := Lib.hid (HO.out.below hB)
    replace HT := Lib.hid (HT.out.below hB)
    replace HB := Lib.hid (bNext HB.out hB)
    clear hB
    have r0 : w12.cell? ⟨bp, 0, none⟩ = some (.int .i64 (1 + i)) := HK.out.cell 0
    have r1 : w12.cell? ⟨bp, 1, none⟩ = some (.int .i64 y) := HK.out.cell 1
    have r2 : w12.cell? ⟨bp, 2, none⟩ = some (.int .i64 2) := HK.out.cell 2
    have s0 : w12.cell? ⟨bq, 0, none⟩ = some (.int .i64 (1 + i)) := HQ.out.cell 0
    have s1 : w12.cell? ⟨bq, 1, none⟩ = some (.int .i64 y) := HQ.out.cell 1
    have s2 : w12.cell? ⟨bq, 2, none⟩ = some (.int .i64 2) := HQ.out.cell 2
    have heq := fun w => eqlT (1 + i) y 2 (1 + i) y 2 true (by simp) w
    have hgd := fun (a b : Operand) (w : World) => guardT .eql a b #[.int .i64 (1 + i), .int .i64 y, .int .i64 2] #[.int .i64 (1 + i), .int .i64 y, .int .i64 2] w
    go_wp2_with fail
    go_ret
    exact ⟨rfl, HB.out⟩
  · have hzb : (z == 2) = false := by simpa using hz
    have fO2 : Hid (fnd O (1 + i) = some (1 + i, (y + 1), 0)) := by show _ = _; rw [fO.out]; rcases (show z = 0 ∨ z = 1 by omega) with rfl | rfl <;> simp [suspP, refuP, y1]
    go_wp2_with fail
    refine (find_is (by have := oo.out.len; omega) fO2.out HO.out).mono ?_; rintro e w11 ⟨rfl, hB⟩
    replace HK := Lib.hid (Blk.below HK.out hB HK.out.lt)
    replace HN := Lib.hid (HN.out.below hB)
    replace HP := Lib.hid (HP.out.below hB)
    replace HR := Lib.hid (HR.out.below hB)
    replace HO := Lib.hid (HO.out.below hB)
    replace HT := Lib.hid (HT.out.below hB)
    replace HB := Lib.hid (bNext HB.out hB)
    clear hB
    go_upto_region 12 with fail
    obtain ⟨bq, hbq⟩ := nm w11.heap.size
    obtain ⟨wq, hwq⟩ := nm (w11.alloc (.cells #[.int .i64 (1 + i), .int .i64 (y + 1), .int .i64 0] 32))
    have HQ : Hid (Blk wq bq #[.int .i64 (1 + i), .int .i64 (y + 1), .int .i64 0] 32) := by show Blk _ _ _ _; rw [hwq.out, hbq.out]; exact Blk.new _ _ _
    have hBq : Below w11.heap.size w11 wq := by rw [hwq.out]; exact bOld _
    replace HN := Lib.hid (HN.out.below hBq)
    replace HP := Lib.hid (HP.out.below hBq)
    replace HR := Lib.hid (HR.out.below hBq)
    replace HO := Lib.hid (HO.out.below hBq)
    replace HT := Lib.hid (HT.out.below hBq)
    replace HK := Lib.hid (Blk.below HK.out hBq HK.out.lt)
    replace HB := Lib.hid (bNext HB.out hBq)
    rw [← hwq.out, ← hbq.out]
    clear hBq
    go_wp2_with fail
    refine (same_b (by have := oo.out.len; omega) rfl HO.out HT.out).mono ?_; rintro e w12 ⟨rfl, hB⟩
    replace HK := Lib.hid (Blk.below HK.out hB HK.out.lt)
    replace HQ := Lib.hid (Blk.below HQ.out hB HQ.out.lt)
    replace HN := Lib.hid (HN.out.below hB)
    replace HP := Lib.hid (HP.out.below hB)
    replace HR := Lib.hid (HR.out.below hB)
    replace HO := Lib.hid (HO.out.below hB)
    replace HT := Lib.hid (HT.out.below hB)
    replace HB := Lib.hid (bNext HB.out hB)
    clear hB
    have r0 : w12.cell? ⟨bp, 0, none⟩ = some (.int .i64 (1 + i)) := HK.out.cell 0
    have r1 : w12.cell? ⟨bp, 1, none⟩ = some (.int .i64 y) := HK.out.cell 1
    have r2 : w12.cell? ⟨bp, 2, none⟩ = some (.int .i64 z) := HK.out.cell 2
    have s0 : w12.cell? ⟨bq, 0, none⟩ = some (.int .i64 (1 + i)) := HQ.out.cell 0
    have s1 : w12.cell? ⟨bq, 1, none⟩ = some (.int .i64 (y + 1)) := HQ.out.cell 1
    have s2 : w12.cell? ⟨bq, 2, none⟩ = some (.int .i64 0) := HQ.out.cell 2
    have wy : IntKind.i64.wrap (y + 1) = y + 1 := by rw [IntKind.wrap_i64]; omega
    go_wp2_with fail
    go_ret
    exact ⟨rfl, HB.out⟩

namespace LViewRefutes
open Go.ChangeShapes Go.WideShapes Go.ChangeAt
open Go.ChangeMaps (open_string shut_string)

set_option maxRecDepth 100000 in
theorem contract (H : Type) (enc : TypeId × Value → H) (W : World) (base : Nat) (args : Array Value) (ds gs : List (DataW H)) (before : List MemPlace)
    (hval : ∀ (j : Nat) t v, Try.f7.params[j]? = some t → args[j]? = some v → Value.okWide Try.prog W .any base t v)
    (hW : DataW.Whole enc Try.prog Try.f7.params.toList Rows.viewRefutesSpec.vars false W args.toList ds gs before)
    (_hsz : (DataW.weightsEach Try.prog (Try.f7.params.toList ++ (OpenSpec.ofChange Rows.viewRefutesSpec).bare.plain.varTypes Try.prog) (ds ++ gs)).all (fun x => decide (x ≤ reachBytes)) = true) :
    Calls Try.prog 7 args W fun e W' => ∃ v, e = .returned v ∧ Rows.viewRefutesSpec.post enc Try.prog Try.f7 false true false false W args v W' := by
  have hW' := hW
  obtain ⟨p, q, hA0, hV, rfl, hfz, hnd⟩ := hW
  have hA : DataW.TrodAll enc Try.prog W 0 (fun _ => true) true Try.f7.params.toList args.toList ds p := hA0
  rw [Try.params7] at hA hval
  obtain ⟨v0, vs0, d0, ds0, p0, q0, hargs, rfl, rfl, h0, r0⟩ := trodAll_cons hA
  obtain ⟨v1, vs1, d1, ds1, p1, q1, rfl, rfl, rfl, h1, r1⟩ := trodAll_cons r0
  obtain ⟨rfl, rfl, rfl⟩ := trodAll_nil r1
  obtain rfl : args = #[v0, v1] := by cases args; simp_all
  obtain ⟨rfl, rfl⟩ := trodVars_none hV
  obtain ⟨ao0, len0, cap0, l0, rfl, hl0, hlc0, hcm0, hat0⟩ := open_trips Try.underlying22 Try.underlying32 (show Try.prog.cellsOf 32 = 3 by kernel_rfl) ⟨rfl, rfl⟩ ⟨rfl, rfl⟩ ⟨rfl, rfl⟩ Try.underlying3 (show Try.prog.cellsOf 3 = 1 by kernel_rfl) h0 (okWide_slice Try.underlying22 (hval 0 22 v0 rfl rfl))
  obtain ⟨x1, rfl, rfl, rfl, k1⟩ := open_int Try.underlying3 (hval 1 3 v1 rfl rfl) h1
  clear hA0
  refine (viewRefutes_walk ao0 l0 len0 cap0 hl0 x1 W hat0).mono fun e W' ⟨he, hb⟩ => ?_
  subst he
  exact ⟨_, rfl, law_post laidOut Try.underlying4 rfl (by kernel_rfl) rfl rfl rfl rfl hW' hb⟩

theorem reads (os : Os) {H : Type} (enc : TypeId × Value → H) : ∃ places, DataW.whole enc Try.prog ((World.holding Try.prog os ⟨#[], #[], []⟩).forCall (fun _ _ => 0) ⟨#[], #[.slice none 0 0, .int .i64 0], []⟩).memory Try.f7.params.toList Rows.viewRefutesSpec.vars false (#[.slice none 0 0, .int .i64 0] : Array Value).toList 8 = some ([.nil, .lit (.int .i64 0)], [], places) :=
  ⟨[], by kernel_rfl⟩
theorem laid_met (os : Os) : laidMet Try.prog Rows.viewRefutesRow.laid ((World.holding Try.prog os ⟨#[], #[], []⟩).forCall (fun _ _ => 0) ⟨#[], #[.slice none 0 0, .int .i64 0], []⟩).memory :=
  laidMet_of_run' 8 (by kernel_rfl) (by kernel_rfl)

set_option maxRecDepth 100000 in
theorem lifted (os : Os) (started : os.Started) (H : Type) (enc : TypeId × Value → H) (F : Stop.Interp) :
    ReturnsInHanded {} Try.checked os 7 .any ((OpenSpec.ofChange Rows.viewRefutesSpec).preRow enc Try.prog Try.f7 Rows.viewRefutesRow.domain false Rows.viewRefutesRow.laid) (((OpenSpec.ofChange Rows.viewRefutesSpec).at F).post enc Try.prog Try.f7 false true false false) := by
  obtain ⟨places, hx⟩ := reads os enc
  refine returnsInHanded_of_row (C := Try.checked) (s := OpenSpec.ofChange Rows.viewRefutesSpec) own started (by kernel_rfl) Try.func7
    (witness_row_at (enc := enc) (C := Try.checked) false (World.holding Try.prog os ⟨#[], #[], []⟩) #[.slice none 0 0, .int .i64 0] rfl (by kernel_rfl) (by kernel_rfl) (by kernel_rfl)
      (OpenSpec.preRow_of_cond 8 hx (by kernel_rfl) (fun k hk => by cases hk) (by kernel_rfl) (laid_met os))) ?_
  intro W base args ds gs before hval hW _ _ hsz hL _ _
  exact contract H enc W base args ds gs before hval hW hsz

theorem said : Rows.ViewRefutesSaid :=
  OpenClaim.holds_of_cond 7 Try.f7 rfl rfl rfl rfl rfl rfl rfl ⟨rfl, rfl, rfl, rfl, rfl⟩ rfl rfl rfl rfl rfl (by kernel_rfl) Try.func7 (by kernel_rfl)
    (of_decide_eq_true (by kernel_rfl)) (by unfold Func.isWrapper; first | (rw [if_pos (by decide +kernel)]; kernel_rfl) | (rw [if_neg (by decide +kernel)]; exact ⟨rfl, rfl⟩))
    (fun os started H enc _ F => by rw [OpenClaim.pre_eq_preRow]; exact lifted os started H enc F)
end LViewRefutes
end Go.Proofs.Ytpolhdkjkidpgaa
