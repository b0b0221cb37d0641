/- The IDs of those that are so: Members, Alive. -/
import Derived.Test.YtpolhdkjkidpgaaVw
import Derived.Test.YtpolhdkjkidpgaaInts
import Derived.Test.YtpolhdkjkidpgaaViewLater
namespace Go.Proofs.Ytpolhdkjkidpgaa
open Go.RowKit Go.Shelf Go.Lib Go.Sort

/-- A value that is a row of numbers. -/
def Vi (w : World) (v : Value) (zs : List Int) : Prop := ∃ ao cap, v = .slice ao zs.length cap ∧ zs.length ≤ cap ∧ (ao = none → cap = 0) ∧ SlAt w ao (zs.map (Value.int .i64))
theorem Vi.below {w w' : World} {v : Value} {zs : List Int} (h : Vi w v zs) (hb : Below w.heap.size w w') : Vi w' v zs := by
  obtain ⟨ao, cap, h1, h2, h3, h4⟩ := h
  exact ⟨ao, cap, h1, h2, h3, h4.below hb⟩
theorem Vi.ofOwn {w : World} {base : Nat} {v : Value} {zs : List Int} (h : OwnZ w base v zs) : Vi w v zs := by
  rcases h.2 with ⟨rfl, h0⟩ | ⟨g, cap, cur, rfl, _, hg, hc, _, _, ht⟩
  · rw [List.length_eq_zero_iff.1 h0]
    exact ⟨none, 0, rfl, Nat.le_refl _, fun _ => rfl, fun k hk => by simp at hk⟩
  · refine ⟨some ⟨g, 0, none⟩, cap, rfl, hc, (fun e => by cases e), fun k _ => ⟨g, 0, rfl, lt_of_block hg, fun j hj => ?_⟩⟩
    rw [Nat.zero_add, ← ht, List.getElem?_take, if_pos (by rw [List.length_map] at hj; omega)]
    simp [World.cell?, hg]
/-- The IDs of those that are so. -/
def idsL (q : P3 → Bool) (A : List P3) : List Int := (A.filter q).map (·.1)
theorem idsL_snoc (q : P3 → Bool) (A : List P3) (p : P3) : idsL q (A ++ [p]) = if q p = true then idsL q A ++ [p.1] else idsL q A := by
  unfold idsL
  rw [List.filter_append, List.map_append]
  cases h : q p <;> simp [h]
theorem idsL_length (q : P3 → Bool) (A : List P3) : (idsL q A).length ≤ A.length := by
  unfold idsL; rw [List.length_map]; exact List.length_filter_le _ _

set_option maxRecDepth 100000 in
set_option maxHeartbeats 1000000 in
theorem ids_any (A : List P3) (n : Nat) (hn : Hid (A.length = n)) (hl : n ≤ 1000) (q : P3 → Bool) (g : Nat) (eg : ∀ args w, (callFunc g args).run Try.prog w = .ok (.enter g args) w)
    (hg : Hid (∀ (x y z : Int) (w : World), Calls Try.prog g #[.agg #[.int .i64 x, .int .i64 y, .int .i64 z]] w fun e w' => e = .returned (.bool (q (x, y, z))) ∧ Below w.heap.size w w'))
    (v : Value) (w : World) (hv : Vw w v A) :
    Calls Try.prog 50 #[v, .func (.func g) #[] #[]] w fun e w' => ∃ v', e = .returned v' ∧ Vi w' v' (idsL q A) ∧ Below w.heap.size w w' := by
  obtain ⟨ao, cap, rfl, hc, hno, hsl⟩ := hv
  rw [hn.out]
  have HSL := Lib.hid hsl
  clear hsl hno
  go_enter Try.func50, Try.ntmps50
  go_wp2_with fail
  go_loopw [5, 10] (fun v i wr => ∃ (k : Nat) (zs : List Int), k ≤ n ∧ i = .int .i64 (k : Int) ∧ OwnZ wr w.heap.size v zs ∧ Hid (zs = idsL q (A.take k)) ∧ Below w.heap.size w wr) (fun _ i _ => n - (intOf i).toNat)
  case atStart => exact ⟨0, [], by omega, rfl, OwnZ.nil _ _, rfl, Below.refl _ _⟩
  case round =>
    obtain ⟨k, zs, hk, rfl, hown, hZ, hB⟩ := hrel
    by_cases hlt : k < n
    · obtain ⟨b, off, x, y, z, rfl, hbl, c0, c1, c2, hpk⟩ := HSL.out.get k (by rw [hn.out]; exact hlt)
      have d0 : wr.cell? ⟨b, off + k * 3, none⟩ = some (.int .i64 x) := (hB.cell (p := ⟨b, off + k * 3, none⟩) hbl).trans c0
      have d1 : wr.cell? ⟨b, off + k * 3 + 1, none⟩ = some (.int .i64 y) := (hB.cell (p := ⟨b, off + k * 3 + 1, none⟩) hbl).trans c1
      have d2 : wr.cell? ⟨b, off + k * 3 + 2, none⟩ = some (.int .i64 z) := (hB.cell (p := ⟨b, off + k * 3 + 2, none⟩) hbl).trans c2
      have hT : A.take (k + 1) = A.take k ++ [(x, y, z)] := by
        have hkl : k < A.length := by rw [hn.out]; exact hlt
        have he : A[k] = (x, y, z) := by have := hpk.out; rw [List.getElem?_eq_getElem hkl] at this; exact Option.some.inj this
        rw [List.take_succ_eq_append_getElem hkl, he]
      have hzl : zs.length ≤ k := by
        rw [hZ.out]
        exact Nat.le_trans (idsL_length _ _) (by rw [List.length_take]; omega)
      obtain ⟨B, hBB⟩ := nm (q (x, y, z))
      have hcall := hg.out x y z (wr.alloc (.cells #[.int .i64 x, .int .i64 y, .int .i64 z] 32))
      rw [← hBB.out] at hcall
      have HCALL := Lib.hid hcall
      have HB2 := Lib.hid (bNew hB (.cells #[.int .i64 x, .int .i64 y, .int .i64 z] 32))
      have HO := Lib.hid (hown.alloc #[.int .i64 x, .int .i64 y, .int .i64 z] 32)
      have hbk := Blk.new wr #[.int .i64 x, .int .i64 y, .int .i64 z] 32
      have HBK := Lib.hid hbk
      clear c0 c1 c2 hcall hB hown hbk
      cases B
      · have HZ : Hid (zs = idsL q (A.take (k + 1))) := by
          show _ = _
          rw [hT, idsL_snoc, ← hBB.out, if_neg (by decide)]; exact hZ.out
        clear hT
        go_wp2_with fail
        refine HCALL.out.mono ?_; rintro e w3 ⟨rfl, hB3⟩
        have HB3 := Lib.hid (bNext HB2.out hB3)
        have HO3 := Lib.hid (HO.out.below hB3)
        clear hB3
        go_wp2_with fail
        go_roundw
        case rel => exact ⟨k + 1, zs, by omega, by go_num, HO3.out, HZ, HB3.out⟩
        case measure => simp [intOf]; omega
      · have HZ : Hid (zs ++ [x] = idsL q (A.take (k + 1))) := by
          show _ = _
          rw [hT, idsL_snoc, ← hBB.out, if_pos rfl, ← hZ.out]
        clear hT
        go_wp2_with fail
        refine HCALL.out.mono ?_; rintro e w3 ⟨rfl, hB3⟩
        have hb3 := Blk.below HBK.out hB3 HBK.out.lt
        have e0 : w3.cell? ⟨wr.heap.size, 0, none⟩ = some (.int .i64 x) := hb3.cell 0
        have HB3 := Lib.hid (bNext HB2.out hB3)
        have HO3 := Lib.hid (HO.out.below hB3)
        clear hB3 hb3
        go_wp2_with (at_builtin; refine app_intsV rfl _ _ rfl w.heap.size _ zs rfl (HO3.out.alloc _ _) (some ⟨w3.heap.size, 0, none⟩) 1 1 [x] rfl rfl (fun e => by cases e) (SlAt.oneV _ _) (by omega) (by have := HB3.out.size; simp; omega) ?_)
        intro v4 w4 hown4 hg4
        have HB4 : Hid (Below w.heap.size w w4) := (bNew HB3.out _).grown hg4 (by have := HB3.out.size; simp; omega) (fun k hk => (World.ownsRow.lt HO3.out k hk).1)
        clear hg4
        go_wp2_with fail
        go_roundw
        case rel => exact ⟨k + 1, zs ++ [x], by omega, by go_num, hown4, HZ, HB4.out⟩
        case measure => simp [intOf]; omega
    · obtain rfl : k = n := by omega
      have HZ : Hid (zs = idsL q A) := by
        have := hZ.out
        rw [List.take_of_length_le (by rw [hn.out]; exact Nat.le_refl _)] at this
        exact this
      have HV : Hid (Vi wr _ zs) := Vi.ofOwn hown
      have HB := Lib.hid hB
      clear hown hB
      go_wp2_with fail
      go_ret
      rw [← HZ.out]
      exact ⟨_, rfl, HV.out, HB.out⟩

def memL (A : List P3) : List Int := idsL (fun p => p.2.2 != 2) A
def aliL (A : List P3) : List Int := idsL (fun p => p.2.2 == 0) A
set_option maxRecDepth 100000 in
theorem memp_any (x y z : Int) (w : World) : Calls Try.prog 51 #[.agg #[.int .i64 x, .int .i64 y, .int .i64 z]] w fun e w' => e = .returned (.bool (z != 2)) ∧ Below w.heap.size w w' := by
  go_enter Try.func51, Try.ntmps51
  go_wp2_with fail
  go_ret
  exact ⟨rfl, bOld _⟩
set_option maxRecDepth 100000 in
theorem alip_any (x y z : Int) (w : World) : Calls Try.prog 54 #[.agg #[.int .i64 x, .int .i64 y, .int .i64 z]] w fun e w' => e = .returned (.bool (z == 0)) ∧ Below w.heap.size w w' := by
  go_enter Try.func54, Try.ntmps54
  go_wp2_with fail
  go_ret
  exact ⟨rfl, bOld _⟩
set_option maxRecDepth 100000 in
theorem members_any (A : List P3) (hl : A.length ≤ 1000) (v : Value) (w : World) (hv : Vw w v A) :
    Calls Try.prog 20 #[v] w fun e w' => ∃ v', e = .returned v' ∧ Vi w' v' (memL A) ∧ Below w.heap.size w w' := by
  have eg : ∀ args w, (callFunc 51 args).run Try.prog w = .ok (.enter 51 args) w := enters_of Try.func51 (by kernel_rfl) rfl
  have HC := Lib.hid (ids_any A A.length rfl hl (fun p => p.2.2 != 2) 51 eg (fun x y z w => memp_any x y z w) v w hv)
  clear hv eg
  go_enter Try.func20, Try.ntmps20
  go_wp2_with fail
  refine HC.out.mono ?_; rintro e w1 ⟨v1, rfl, h1, h2⟩
  go_wp2_with fail
  go_ret
  exact ⟨v1, rfl, h1, h2⟩
set_option maxRecDepth 100000 in
theorem alive_any (A : List P3) (hl : A.length ≤ 1000) (v : Value) (w : World) (hv : Vw w v A) :
    Calls Try.prog 27 #[v] w fun e w' => ∃ v', e = .returned v' ∧ Vi w' v' (aliL A) ∧ Below w.heap.size w w' := by
  have eg : ∀ args w, (callFunc 54 args).run Try.prog w = .ok (.enter 54 args) w := enters_of Try.func54 (by kernel_rfl) rfl
  have HC := Lib.hid (ids_any A A.length rfl hl (fun p => p.2.2 == 0) 54 eg (fun x y z w => alip_any x y z w) v w hv)
  clear hv eg
  go_enter Try.func27, Try.ntmps27
  go_wp2_with fail
  refine HC.out.mono ?_; rintro e w1 ⟨v1, rfl, h1, h2⟩
  go_wp2_with fail
  go_ret
  exact ⟨v1, rfl, h1, h2⟩
end Go.Proofs.Ytpolhdkjkidpgaa
