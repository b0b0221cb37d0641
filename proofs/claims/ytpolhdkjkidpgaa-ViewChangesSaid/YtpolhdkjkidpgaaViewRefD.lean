/- The document's views: Find, changed, Suspect, Refute, Leave, Members, Alive. -/
import Derived.Test.YtpolhdkjkidpgaaViewRefC
import Derived.Test.YtpolhdkjkidpgaaPeerEq
namespace Go.Proofs.Ytpolhdkjkidpgaa
open Go.RowKit Go.Shelf Go.Lib Go.Sort

set_option maxRecDepth 100000 in
set_option maxHeartbeats 1000000 in
theorem reffind_any (A : List P3) (hl : A.length ≤ 1000) (id : Int) (v : Value) (w : World) (hv : Vw w v A) :
    Calls Try.prog 32 #[v, .int .i64 id] w fun e w' => Below w.heap.size w w' ∧ ((Hid (fnd A id = none) ∧ e = .returned (.tuple #[.agg #[.int .i64 0, .int .i64 0, .int .i64 0], .bool false])) ∨
      ∃ x y z, Hid (fnd A id = some (x, y, z)) ∧ e = .returned (.tuple #[.agg #[.int .i64 x, .int .i64 y, .int .i64 z], .bool true])) := by
  obtain ⟨ao, cap, rfl, hc, hno, hsl⟩ := hv
  obtain ⟨n, hn⟩ := nm A.length
  rw [← hn.out] at hc hl ⊢
  obtain ⟨bx, hbx⟩ := nm w.heap.size
  obtain ⟨w0, hw0⟩ := nm (w.alloc (.cells #[.int .i64 0, .int .i64 0, .int .i64 0] 32))
  have HK : Hid (Blk w0 bx #[.int .i64 0, .int .i64 0, .int .i64 0] 32) := by show Blk _ _ _ _; rw [hw0.out, hbx.out]; exact Blk.new _ _ _
  have HB0 : Hid (Below w.heap.size w w0) := by rw [hw0.out]; exact bOld _
  have HS := Lib.hid (hsl.below HB0.out)
  have hbw : Hid (w.heap.size ≤ bx) := by show _ ≤ _; rw [hbx.out]; exact Nat.le_refl _
  have f0 : w0.frozen? ⟨bx, 0, none⟩ = false := HK.out.free 0
  have f1 : w0.frozen? ⟨bx, 1, none⟩ = false := HK.out.free 1
  have f2 : w0.frozen? ⟨bx, 2, none⟩ = false := HK.out.free 2
  have e0 : w0.cell? ⟨bx, 0, none⟩ = some (.int .i64 0) := HK.out.cell 0
  have e1 : w0.cell? ⟨bx, 1, none⟩ = some (.int .i64 0) := HK.out.cell 1
  have e2 : w0.cell? ⟨bx, 2, none⟩ = some (.int .i64 0) := HK.out.cell 2
  clear hsl hno
  go_enter Try.func32, Try.ntmps32
  go_upto_region 1 with fail
  rw [← hw0.out, ← hbx.out]
  go_wp2_with fail
  go_loopw [6] (fun i wr => ∃ k : Nat, k ≤ n ∧ i = .int .i64 (k : Int) ∧ wr = w0 ∧ Hid (∀ (j : Nat) (q : P3), j < k → A[j]? = some q → q.1 ≠ id)) (fun i _ => n - (intOf i).toNat)
  case atStart => exact ⟨0, by omega, rfl, rfl, by show ∀ (j : Nat) (q : P3), _; intro j q hj; omega⟩
  case round =>
    obtain ⟨k, hk, rfl, rfl, hI⟩ := hrel
    by_cases hlt : k < n
    · obtain ⟨b, off, x, y, z, rfl, hbl, c0, c1, c2, hpk⟩ := HS.out.get k (by rw [← hn.out]; exact hlt)
      by_cases hx : x = id
      · subst hx
        have HF : Hid (fnd A x = some (x, y, z)) := fnd_at hpk.out rfl hI.out
        go_wp2_with fail
        obtain ⟨w2, hw2⟩ := nm (((wr.setCell ⟨bx, 0, none⟩ (.int .i64 x)).setCell ⟨bx, 1, none⟩ (.int .i64 y)).setCell ⟨bx, 2, none⟩ (.int .i64 z))
        rw [← hw2.out]
        have hb2 : Blk w2 bx #[.int .i64 x, .int .i64 y, .int .i64 z] 32 := by rw [hw2.out]; exact ((HK.out.set 0 _).set 1 _).set 2 _
        have hB2 : Below w.heap.size w w2 := by
          rw [hw2.out]
          exact ((HB0.out.setCell (p := ⟨bx, 0, none⟩) hbw.out (.int .i64 x)).setCell (p := ⟨bx, 1, none⟩) hbw.out (.int .i64 y)).setCell (p := ⟨bx, 2, none⟩) hbw.out (.int .i64 z)
        have r0 : w2.cell? ⟨bx, 0, none⟩ = some (.int .i64 x) := hb2.cell 0
        have r1 : w2.cell? ⟨bx, 1, none⟩ = some (.int .i64 y) := hb2.cell 1
        have r2 : w2.cell? ⟨bx, 2, none⟩ = some (.int .i64 z) := hb2.cell 2
        refine bodyPost_ret (v := .tuple #[.agg #[.int .i64 x, .int .i64 y, .int .i64 z], .bool true]) (by simp [results, Try.results32, go_sem, r0, r1, r2]) rfl ?_
        exact ⟨hB2, .inr ⟨x, y, z, HF, rfl⟩⟩
      · have hxb : (x == id) = false := by simpa using hx
        have HI : Hid (∀ (j : Nat) (q : P3), j < k + 1 → A[j]? = some q → q.1 ≠ id) := by
          show ∀ (j : Nat) (q : P3), _
          intro j q hj hq
          by_cases e : j = k
          · subst e
            rw [hpk.out] at hq
            obtain rfl := Option.some.inj hq
            exact hx
          · exact hI.out j q (by omega) hq
        go_wp2_with fail
        go_roundw
        case rel => exact ⟨k + 1, by omega, by go_num, trivial, HI⟩
        case measure => simp [intOf]; omega
    · obtain rfl : k = n := by omega
      have HF : Hid (fnd A id = none) := by
        show _ = _
        refine fnd_none.2 fun p hp => ?_
        obtain ⟨i, hi, he⟩ := List.mem_iff_getElem.1 hp
        exact hI.out i p (by rw [hn.out]; exact hi) (by rw [List.getElem?_eq_getElem hi, he])
      go_wp2_with fail
      obtain ⟨w2, hw2⟩ := nm (((wr.setCell ⟨bx, 0, none⟩ (.int .i64 0)).setCell ⟨bx, 1, none⟩ (.int .i64 0)).setCell ⟨bx, 2, none⟩ (.int .i64 0))
      rw [← hw2.out]
      have hb2 : Blk w2 bx #[.int .i64 0, .int .i64 0, .int .i64 0] 32 := by rw [hw2.out]; exact ((HK.out.set 0 _).set 1 _).set 2 _
      have hB2 : Below w.heap.size w w2 := by
        rw [hw2.out]
        exact ((HB0.out.setCell (p := ⟨bx, 0, none⟩) hbw.out (.int .i64 0)).setCell (p := ⟨bx, 1, none⟩) hbw.out (.int .i64 0)).setCell (p := ⟨bx, 2, none⟩) hbw.out (.int .i64 0)
      have r0 : w2.cell? ⟨bx, 0, none⟩ = some (.int .i64 0) := hb2.cell 0
      have r1 : w2.cell? ⟨bx, 1, none⟩ = some (.int .i64 0) := hb2.cell 1
      have r2 : w2.cell? ⟨bx, 2, none⟩ = some (.int .i64 0) := hb2.cell 2
      refine bodyPost_ret (v := .tuple #[.agg #[.int .i64 0, .int .i64 0, .int .i64 0], .bool false]) (by simp [results, Try.results32, go_sem, r0, r1, r2]) rfl ?_
      exact ⟨hB2, .inl ⟨HF, rfl⟩⟩

set_option maxRecDepth 100000 in
set_option maxHeartbeats 1000000 in
theorem refchanged_any (A : List P3) (n : Nat) (hn : Hid (A.length = n)) (hl : n ≤ 1000) (p0 p1 p2 : Int) (v : Value) (w : World) (hv : Vw w v A) :
    Calls Try.prog 53 #[v, .agg #[.int .i64 p0, .int .i64 p1, .int .i64 p2]] w fun e w' => ∃ v', e = .returned v' ∧ Vw w' v' (mapC (p0, p1, p2) A) ∧ Below w.heap.size w w' := by
  obtain ⟨ao, cap, rfl, hc, hno, hsl⟩ := hv
  rw [hn.out]
  obtain ⟨bp, hbp⟩ := nm w.heap.size
  obtain ⟨w0, hw0⟩ := nm (w.alloc (.cells #[.int .i64 p0, .int .i64 p1, .int .i64 p2] 32))
  have hb0 : Blk w0 bp #[.int .i64 p0, .int .i64 p1, .int .i64 p2] 32 := by rw [hw0.out, hbp.out]; exact Blk.new _ _ _
  have hB0 : Below w.heap.size w w0 := by rw [hw0.out]; exact bOld _
  have hs0 : w0.heap.size = bp + 1 := by rw [hw0.out, hbp.out]; simp
  have HSL := Lib.hid (hsl.below hB0)
  have HB0 := Lib.hid hB0
  have HBP := Lib.hid hb0
  clear hsl hno hB0 hb0
  go_enter Try.func53, Try.ntmps53
  go_upto_region 1 with fail
  rw [← hw0.out, ← hbp.out]
  go_wp2_with fail
  go_loopw [5, 6] (fun v i wr => ∃ (k : Nat) (L : List P3), k ≤ n ∧ i = .int .i64 (k : Int) ∧ OwnT wr (bp + 1) 32 v L ∧ Hid (L = mapC (p0, p1, p2) (A.take k)) ∧ L.length ≤ k ∧ Below w0.heap.size w0 wr) (fun _ i _ => n - (intOf i).toNat)
  case atStart => exact ⟨0, [], by omega, rfl, OwnT.nil _ _ _, rfl, by simp, Below.refl _ _⟩
  case round =>
    obtain ⟨k, L, hk, rfl, hown, hL, hLl, hB⟩ := hrel
    have hbp1 := Blk.below HBP.out hB HBP.out.lt
    have q0 : wr.cell? ⟨bp, 0, none⟩ = some (.int .i64 p0) := hbp1.cell 0
    have q1 : wr.cell? ⟨bp, 1, none⟩ = some (.int .i64 p1) := hbp1.cell 1
    have q2 : wr.cell? ⟨bp, 2, none⟩ = some (.int .i64 p2) := hbp1.cell 2
    by_cases hlt : k < n
    · obtain ⟨b, off, x, y, z, rfl, hbl, c0, c1, c2, hpk⟩ := HSL.out.get k (by rw [hn.out]; exact hlt)
      have d0 : wr.cell? ⟨b, off + k * 3, none⟩ = some (.int .i64 x) := (hB.cell (p := ⟨b, off + k * 3, none⟩) hbl).trans c0
      have d1 : wr.cell? ⟨b, off + k * 3 + 1, none⟩ = some (.int .i64 y) := (hB.cell (p := ⟨b, off + k * 3 + 1, none⟩) hbl).trans c1
      have d2 : wr.cell? ⟨b, off + k * 3 + 2, none⟩ = some (.int .i64 z) := (hB.cell (p := ⟨b, off + k * 3 + 2, none⟩) hbl).trans c2
      have hT : mapC (p0, p1, p2) (A.take (k + 1)) = L ++ [if x = p0 then (p0, p1, p2) else (x, y, z)] := by rw [take_snocT hpk.out, mapC_snoc, hL.out]
      clear c0 c1 c2
      by_cases hx : x = p0
      · have HL : Hid (L ++ [(p0, p1, p2)] = mapC (p0, p1, p2) (A.take (k + 1))) := by show _ = _; rw [hT, if_pos hx]
        have hxb : (x == p0) = true := by simpa using hx
        clear hT hx
        go_wp2_with fail
        go_quiet (fail)
        go_wp2_with (at_builtin; refine app_trips rfl _ _ rfl (bp + 1) _ L rfl (OwnT.alloc (by exact hown) _) (some ⟨wr.heap.size, 0, none⟩) 1 1 [(p0, p1, p2)] rfl rfl (fun e => by cases e) (by exact SlT.ofBlk (Blk.new _ _ _)) (by simp; omega) (by have := hB.size; simp; omega) ?_)
        intro v2 w2 hown2 hg2
        have hB2 : Below w0.heap.size w0 w2 := Below.grown (bNew (bDrewN hB _) _) hg2 (by have := hB.size; simp; omega) (fun kk h => by have := (World.ownsRow.lt hown kk h).1; omega)
        clear hown hB hg2 d0 d1 d2 q0 q1 q2 hbp1
        go_wp2_with fail
        go_roundw
        case rel => exact ⟨k + 1, _, by omega, by go_num, hown2, HL, by simp; omega, hB2⟩
        case measure => simp [intOf]; omega
      · have HL : Hid (L ++ [(x, y, z)] = mapC (p0, p1, p2) (A.take (k + 1))) := by show _ = _; rw [hT, if_neg hx]
        have hxb : (x == p0) = false := by simpa using hx
        clear hT
        go_wp2_with fail
        go_quiet (fail)
        go_wp2_with (at_builtin; refine app_trips rfl _ _ rfl (bp + 1) _ L rfl (OwnT.alloc (by exact hown) _) (some ⟨wr.heap.size, 0, none⟩) 1 1 [(x, y, z)] rfl rfl (fun e => by cases e) (by exact SlT.ofBlk (Blk.new _ _ _)) (by simp; omega) (by have := hB.size; simp; omega) ?_)
        intro v2 w2 hown2 hg2
        have hB2 : Below w0.heap.size w0 w2 := Below.grown (bNew (bDrewN hB _) _) hg2 (by have := hB.size; simp; omega) (fun kk h => by have := (World.ownsRow.lt hown kk h).1; omega)
        clear hown hB hg2 d0 d1 d2 q0 q1 q2 hbp1
        go_wp2_with fail
        go_roundw
        case rel => exact ⟨k + 1, _, by omega, by go_num, hown2, HL, by simp; omega, hB2⟩
        case measure => simp [intOf]; omega
    · obtain rfl : k = n := by omega
      have HV : Hid (Vw wr _ (mapC (p0, p1, p2) A)) := (Vw.ofOwn hown).eq (by
        have := hL.out
        rw [List.take_of_length_le (by rw [hn.out]; exact Nat.le_refl _)] at this
        exact this)
      have HB2 := Lib.hid (bNext HB0.out hB)
      clear hown hB q0 q1 q2 hbp1
      go_wp2_with fail
      go_ret
      exact ⟨_, rfl, HV.out, HB2.out⟩

set_option maxRecDepth 100000 in
set_option maxHeartbeats 1000000 in
theorem refsuspect_any (A : List P3) (hA : Vok A) (id : Int) (v : Value) (w : World) (hv : Vw w v A) :
    Calls Try.prog 22 #[v, .int .i64 id] w fun e w' => ∃ v', e = .returned v' ∧ Vw w' v' (chgL suspP id A) ∧ Below w.heap.size w w' := by
  have hl : A.length ≤ 1000 := by have := hA.len; omega
  have HF := Lib.hid (reffind_any A hl id v w hv)
  have HV := Lib.hid hv
  clear hv
  go_enter Try.func22, Try.ntmps22
  go_wp2_with fail
  refine HF.out.mono ?_; rintro e w1 ⟨hB, ⟨hf, rfl⟩ | ⟨x, y, z, hf, rfl⟩⟩
  · have HE : Hid (chgL suspP id A = A) := by
      show _ = _
      exact chgL_none _ _ fun p hp => fnd_none.1 hf.out p hp
    have HV2 := Lib.hid ((HV.out.below hB).below (bOld (w := w1) (.cells #[.int .i64 0, .int .i64 0, .int .i64 0] 32)))
    have HB := Lib.hid (bNew hB (.cells #[.int .i64 0, .int .i64 0, .int .i64 0] 32))
    clear hB
    go_wp2_with fail
    go_ret
    rw [HE.out]
    exact ⟨_, rfl, HV2.out, HB.out⟩
  · obtain ⟨rfl, hmay⟩ : x = id ∧ mayP (x, y, z) = true := ⟨(fnd_some hf.out).2, hA.may _ (fnd_some hf.out).1⟩
    have hm := mayP_is hmay
    simp only at hm
    obtain ⟨_, _, hy0, hy1, _, _⟩ := hm
    clear hmay
    by_cases hz : z = 0
    · subst hz
      have HE : Hid (mapC (x, y, 1) A = chgL suspP x A) := by
        show _ = _
        rw [mapC_is hA.sort, ← chgL_const suspP hf.out]
        rw [show suspP (x, y, 0) = (x, y, 1) from rfl]
      have HC := Lib.hid (refchanged_any A A.length rfl hl x y 1 v _ ((HV.out.below hB).below (bOld (w := w1) (.cells #[.int .i64 x, .int .i64 y, .int .i64 1] 32))))
      have HB := Lib.hid (bNew hB (.cells #[.int .i64 x, .int .i64 y, .int .i64 1] 32))
      clear hB
      go_wp2_with fail
      refine HC.out.mono ?_; rintro e w2 ⟨v2, rfl, hv2, hB2⟩
      have HV2 := Lib.hid hv2
      have HB2 := Lib.hid (bNext HB.out hB2)
      clear hv2 hB2
      go_wp2_with fail
      go_ret
      exact ⟨v2, rfl, HV2.out.eq HE.out, HB2.out⟩
    · have hzb : (z == 0) = false := by simpa using hz
      have HE : Hid (chgL suspP x A = A) := by show _ = _; exact chgL_fix suspP hf.out (if_neg hz)
      have HV2 := Lib.hid ((HV.out.below hB).below (bOld (w := w1) (.cells #[.int .i64 x, .int .i64 y, .int .i64 z] 32)))
      have HB := Lib.hid (bNew hB (.cells #[.int .i64 x, .int .i64 y, .int .i64 z] 32))
      clear hB
      go_wp2_with fail
      go_ret
      rw [HE.out]
      exact ⟨_, rfl, HV2.out, HB.out⟩

set_option maxRecDepth 100000 in
set_option maxHeartbeats 1000000 in
theorem refrefute_any (A : List P3) (hA : Vok A) (id : Int) (v : Value) (w : World) (hv : Vw w v A) :
    Calls Try.prog 23 #[v, .int .i64 id] w fun e w' => ∃ v', e = .returned v' ∧ Vw w' v' (chgL refuP id A) ∧ Below w.heap.size w w' := by
  have hl : A.length ≤ 1000 := by have := hA.len; omega
  have HF := Lib.hid (reffind_any A hl id v w hv)
  have HV := Lib.hid hv
  clear hv
  go_enter Try.func23, Try.ntmps23
  go_wp2_with fail
  refine HF.out.mono ?_; rintro e w1 ⟨hB, ⟨hf, rfl⟩ | ⟨x, y, z, hf, rfl⟩⟩
  · have HE : Hid (chgL refuP id A = A) := by
      show _ = _
      exact chgL_none _ _ fun p hp => fnd_none.1 hf.out p hp
    have HV2 := Lib.hid ((HV.out.below hB).below (bOld (w := w1) (.cells #[.int .i64 0, .int .i64 0, .int .i64 0] 32)))
    have HB := Lib.hid (bNew hB (.cells #[.int .i64 0, .int .i64 0, .int .i64 0] 32))
    clear hB
    go_wp2_with fail
    go_ret
    rw [HE.out]
    exact ⟨_, rfl, HV2.out, HB.out⟩
  · obtain ⟨rfl, hmay⟩ : x = id ∧ mayP (x, y, z) = true := ⟨(fnd_some hf.out).2, hA.may _ (fnd_some hf.out).1⟩
    have hm := mayP_is hmay
    simp only at hm
    obtain ⟨_, _, hy0, hy1, _, _⟩ := hm
    clear hmay
    by_cases hz : z = 1
    · subst hz
      by_cases hy : y ≥ 1073741824
      · have HE : Hid (chgL refuP x A = A) := by show _ = _; exact chgL_fix refuP hf.out (if_neg (fun h => by have := h.2; simp only at this; omega))
        have HV2 := Lib.hid ((HV.out.below hB).below (bOld (w := w1) (.cells #[.int .i64 x, .int .i64 y, .int .i64 1] 32)))
        have HB := Lib.hid (bNew hB (.cells #[.int .i64 x, .int .i64 y, .int .i64 1] 32))
        clear hB
        go_wp2_with fail
        go_ret
        rw [HE.out]
        exact ⟨_, rfl, HV2.out, HB.out⟩
      · have hy2 : y < 1073741824 := by omega
        have wy : IntKind.i64.wrap (y + 1) = y + 1 := by rw [IntKind.wrap_i64]; omega
        have HE : Hid (mapC (x, (y + 1), 0) A = chgL refuP x A) := by
          show _ = _
          rw [mapC_is hA.sort, ← chgL_const refuP hf.out]
          rw [show refuP (x, y, 1) = (x, (y + 1), 0) from if_pos ⟨rfl, hy2⟩]
        have HC := Lib.hid (refchanged_any A A.length rfl hl x (y + 1) 0 v _ ((HV.out.below hB).below (bOld (w := w1) (.cells #[.int .i64 x, .int .i64 (y + 1), .int .i64 0] 32))))
        have HB := Lib.hid (bNew hB (.cells #[.int .i64 x, .int .i64 (y + 1), .int .i64 0] 32))
        clear hB
        go_wp2_with fail
        refine HC.out.mono ?_; rintro e w2 ⟨v2, rfl, hv2, hB2⟩
        have HV2 := Lib.hid hv2
        have HB2 := Lib.hid (bNext HB.out hB2)
        clear hv2 hB2
        go_wp2_with fail
        go_ret
        exact ⟨v2, rfl, HV2.out.eq HE.out, HB2.out⟩
    · have hzb : (z == 1) = false := by simpa using hz
      have HE : Hid (chgL refuP x A = A) := by show _ = _; exact chgL_fix refuP hf.out (if_neg (fun h => hz h.1))
      have HV2 := Lib.hid ((HV.out.below hB).below (bOld (w := w1) (.cells #[.int .i64 x, .int .i64 y, .int .i64 z] 32)))
      have HB := Lib.hid (bNew hB (.cells #[.int .i64 x, .int .i64 y, .int .i64 z] 32))
      clear hB
      go_wp2_with fail
      go_ret
      rw [HE.out]
      exact ⟨_, rfl, HV2.out, HB.out⟩

set_option maxRecDepth 100000 in
set_option maxHeartbeats 1000000 in
theorem refleave_any (A : List P3) (hA : Vok A) (id : Int) (v : Value) (w : World) (hv : Vw w v A) :
    Calls Try.prog 24 #[v, .int .i64 id] w fun e w' => ∃ v', e = .returned v' ∧ Vw w' v' (chgL leavP id A) ∧ Below w.heap.size w w' := by
  have hl : A.length ≤ 1000 := by have := hA.len; omega
  have HF := Lib.hid (reffind_any A hl id v w hv)
  have HV := Lib.hid hv
  clear hv
  go_enter Try.func24, Try.ntmps24
  go_wp2_with fail
  refine HF.out.mono ?_; rintro e w1 ⟨hB, ⟨hf, rfl⟩ | ⟨x, y, z, hf, rfl⟩⟩
  · have HE : Hid (chgL leavP id A = A) := by
      show _ = _
      exact chgL_none _ _ fun p hp => fnd_none.1 hf.out p hp
    have HV2 := Lib.hid ((HV.out.below hB).below (bOld (w := w1) (.cells #[.int .i64 0, .int .i64 0, .int .i64 0] 32)))
    have HB := Lib.hid (bNew hB (.cells #[.int .i64 0, .int .i64 0, .int .i64 0] 32))
    clear hB
    go_wp2_with fail
    go_ret
    rw [HE.out]
    exact ⟨_, rfl, HV2.out, HB.out⟩
  · obtain ⟨rfl, hmay⟩ : x = id ∧ mayP (x, y, z) = true := ⟨(fnd_some hf.out).2, hA.may _ (fnd_some hf.out).1⟩
    have hm := mayP_is hmay
    simp only at hm
    obtain ⟨_, _, hy0, hy1, _, _⟩ := hm
    clear hmay
    have HE : Hid (mapC (x, y, 2) A = chgL leavP x A) := by
      show _ = _
      rw [mapC_is hA.sort, ← chgL_const leavP hf.out]
      rw [show leavP (x, y, z) = (x, y, 2) from rfl]
    have HC := Lib.hid (refchanged_any A A.length rfl hl x y 2 v _ ((HV.out.below hB).below (bOld (w := w1) (.cells #[.int .i64 x, .int .i64 y, .int .i64 2] 32))))
    have HB := Lib.hid (bNew hB (.cells #[.int .i64 x, .int .i64 y, .int .i64 2] 32))
    clear hB
    go_wp2_with fail
    refine HC.out.mono ?_; rintro e w2 ⟨v2, rfl, hv2, hB2⟩
    have HV2 := Lib.hid hv2
    have HB2 := Lib.hid (bNext HB.out hB2)
    clear hv2 hB2
    go_wp2_with fail
    go_ret
    exact ⟨v2, rfl, HV2.out.eq HE.out, HB2.out⟩

set_option maxRecDepth 100000 in
set_option maxHeartbeats 1000000 in
theorem refmembers_any (A : List P3) (n : Nat) (hn : Hid (A.length = n)) (hl : n ≤ 1000) (v : Value) (w : World) (hv : Vw w v A) :
    Calls Try.prog 26 #[v] w fun e w' => ∃ v', e = .returned v' ∧ Vi w' v' (memL A) ∧ Below w.heap.size w w' := by
  obtain ⟨ao, cap, rfl, hc, hno, hsl⟩ := hv
  rw [hn.out]
  have HSL := Lib.hid hsl
  clear hsl hno
  go_enter Try.func26, Try.ntmps26
  go_wp2_with fail
  go_loopw [3, 4] (fun v i wr => ∃ (k : Nat) (zs : List Int), k ≤ n ∧ i = .int .i64 (k : Int) ∧ OwnZ wr w.heap.size v zs ∧ Hid (zs = memL (A.take k)) ∧ zs.length ≤ k ∧ Below w.heap.size w wr) (fun _ i _ => n - (intOf i).toNat)
  case atStart => exact ⟨0, [], by omega, rfl, OwnZ.nil _ _, rfl, by simp, Below.refl _ _⟩
  case round =>
    obtain ⟨k, zs, hk, rfl, hown, hZ, hzl, hB⟩ := hrel
    by_cases hlt : k < n
    · obtain ⟨b, off, x, y, z, rfl, hbl, c0, c1, c2, hpk⟩ := HSL.out.get k (by rw [hn.out]; exact hlt)
      have d0 : wr.cell? ⟨b, off + k * 3, none⟩ = some (.int .i64 x) := (hB.cell (p := ⟨b, off + k * 3, none⟩) hbl).trans c0
      have d2 : wr.cell? ⟨b, off + k * 3 + 2, none⟩ = some (.int .i64 z) := (hB.cell (p := ⟨b, off + k * 3 + 2, none⟩) hbl).trans c2
      have hT : memL (A.take (k + 1)) = if (z != 2) = true then zs ++ [x] else zs := by rw [take_snocT hpk.out, hZ.out]; exact idsL_snoc _ _ _
      have HB := Lib.hid hB
      clear c0 c1 c2
      by_cases hz : z = 2
      · have HZ : Hid (zs = memL (A.take (k + 1))) := by show _ = _; rw [hT, if_neg (by simp [hz])]
        subst hz
        clear hT hB
        go_wp2_with fail
        go_roundw
        case rel => exact ⟨k + 1, zs, by omega, by go_num, hown, HZ, by omega, HB.out⟩
        case measure => simp [intOf]; omega
      · have HZ : Hid (zs ++ [x] = memL (A.take (k + 1))) := by show _ = _; rw [hT, if_pos (by simpa using hz)]
        have hzb : (z != 2) = true := by simpa using hz
        clear hT hB
        go_wp2_with (at_builtin; refine app_intsV rfl _ _ rfl w.heap.size _ zs rfl (hown.alloc _ _) (some ⟨wr.heap.size, 0, none⟩) 1 1 [x] rfl rfl (fun e => by cases e) (SlAt.oneV _ _) (by omega) (by have := HB.out.size; simp; omega) ?_)
        intro v4 w4 hown4 hg4
        have HB4 : Hid (Below w.heap.size w w4) := (bNew HB.out _).grown hg4 (by have := HB.out.size; simp; omega) (fun k hk => (World.ownsRow.lt hown k hk).1)
        clear hg4 hown d0 d2
        go_wp2_with fail
        go_roundw
        case rel => exact ⟨k + 1, _, by omega, by go_num, hown4, HZ, by simp; omega, HB4.out⟩
        case measure => simp [intOf]; omega
    · obtain rfl : k = n := by omega
      have HZ : Hid (zs = memL A) := by
        have := hZ.out
        rw [List.take_of_length_le (by rw [hn.out]; exact Nat.le_refl _)] at this
        exact this
      have HV : Hid (Vi wr _ zs) := Vi.ofOwn hown
      have HB := Lib.hid hB
      clear hown hB
      go_wp2_with fail
      go_ret
      rw [← HZ.out]
      exact ⟨_, rfl, HV.out, HB.out⟩

set_option maxRecDepth 100000 in
set_option maxHeartbeats 1000000 in
theorem refalive_any (A : List P3) (n : Nat) (hn : Hid (A.length = n)) (hl : n ≤ 1000) (v : Value) (w : World) (hv : Vw w v A) :
    Calls Try.prog 28 #[v] w fun e w' => ∃ v', e = .returned v' ∧ Vi w' v' (aliL A) ∧ Below w.heap.size w w' := by
  obtain ⟨ao, cap, rfl, hc, hno, hsl⟩ := hv
  rw [hn.out]
  have HSL := Lib.hid hsl
  clear hsl hno
  go_enter Try.func28, Try.ntmps28
  go_wp2_with fail
  go_loopw [3, 4] (fun v i wr => ∃ (k : Nat) (zs : List Int), k ≤ n ∧ i = .int .i64 (k : Int) ∧ OwnZ wr w.heap.size v zs ∧ Hid (zs = aliL (A.take k)) ∧ zs.length ≤ k ∧ Below w.heap.size w wr) (fun _ i _ => n - (intOf i).toNat)
  case atStart => exact ⟨0, [], by omega, rfl, OwnZ.nil _ _, rfl, by simp, Below.refl _ _⟩
  case round =>
    obtain ⟨k, zs, hk, rfl, hown, hZ, hzl, hB⟩ := hrel
    by_cases hlt : k < n
    · obtain ⟨b, off, x, y, z, rfl, hbl, c0, c1, c2, hpk⟩ := HSL.out.get k (by rw [hn.out]; exact hlt)
      have d0 : wr.cell? ⟨b, off + k * 3, none⟩ = some (.int .i64 x) := (hB.cell (p := ⟨b, off + k * 3, none⟩) hbl).trans c0
      have d2 : wr.cell? ⟨b, off + k * 3 + 2, none⟩ = some (.int .i64 z) := (hB.cell (p := ⟨b, off + k * 3 + 2, none⟩) hbl).trans c2
      have hT : aliL (A.take (k + 1)) = if (z == 0) = true then zs ++ [x] else zs := by rw [take_snocT hpk.out, hZ.out]; exact idsL_snoc _ _ _
      have HB := Lib.hid hB
      clear c0 c1 c2
      by_cases hz : z ≠ 0
      · have HZ : Hid (zs = aliL (A.take (k + 1))) := by show _ = _; rw [hT, if_neg (by simp [hz])]
        have hzb : (z == 0) = false := by simpa using hz
        clear hT hB
        go_wp2_with fail
        go_roundw
        case rel => exact ⟨k + 1, zs, by omega, by go_num, hown, HZ, by omega, HB.out⟩
        case measure => simp [intOf]; omega
      · have HZ : Hid (zs ++ [x] = aliL (A.take (k + 1))) := by show _ = _; rw [hT, if_pos (by simpa using hz)]
        have hz0 : z = 0 := by omega
        subst hz0
        clear hT hB
        go_wp2_with (at_builtin; refine app_intsV rfl _ _ rfl w.heap.size _ zs rfl (hown.alloc _ _) (some ⟨wr.heap.size, 0, none⟩) 1 1 [x] rfl rfl (fun e => by cases e) (SlAt.oneV _ _) (by omega) (by have := HB.out.size; simp; omega) ?_)
        intro v4 w4 hown4 hg4
        have HB4 : Hid (Below w.heap.size w w4) := (bNew HB.out _).grown hg4 (by have := HB.out.size; simp; omega) (fun k hk => (World.ownsRow.lt hown k hk).1)
        clear hg4 hown d0 d2
        go_wp2_with fail
        go_roundw
        case rel => exact ⟨k + 1, _, by omega, by go_num, hown4, HZ, by simp; omega, HB4.out⟩
        case measure => simp [intOf]; omega
    · obtain rfl : k = n := by omega
      have HZ : Hid (zs = aliL A) := by
        have := hZ.out
        rw [List.take_of_length_le (by rw [hn.out]; exact Nat.le_refl _)] at this
        exact this
      have HV : Hid (Vi wr _ zs) := Vi.ofOwn hown
      have HB := Lib.hid hB
      clear hown hB
      go_wp2_with fail
      go_ret
      rw [← HZ.out]
      exact ⟨_, rfl, HV.out, HB.out⟩
end Go.Proofs.Ytpolhdkjkidpgaa
