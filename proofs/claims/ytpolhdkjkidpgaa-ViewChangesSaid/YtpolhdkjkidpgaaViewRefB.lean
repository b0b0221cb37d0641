/- The document's views: few, Join, Same. -/
import Derived.Test.YtpolhdkjkidpgaaViewRef
namespace Go.Proofs.Ytpolhdkjkidpgaa
open Go.RowKit Go.Shelf Go.Lib Go.Sort

set_option maxRecDepth 100000 in
set_option maxHeartbeats 400000 in
theorem reffew_any (A : List P3) (v : Value) (w : World) (hv : Vw w v A) :
    Calls Try.prog 41 #[v] w fun e w' => ∃ v', e = .returned v' ∧ Vw w' v' (A.take 64) ∧ w' = w ∧ ∀ base, Nb base v → Nb base v' := by
  obtain ⟨ao, cap, rfl, hc, hno, hsl⟩ := hv
  obtain ⟨n, hn⟩ := nm A.length
  rw [← hn.out] at hc ⊢
  have HS := Lib.hid hsl
  have HN := Lib.hid hno
  clear hsl hno
  by_cases h : n > 64
  · have hcap : (64 : Int) ≤ (cap : Int) := by omega
    go_enter Try.func41, Try.ntmps41
    go_wp2_with fail
    go_ret
    refine ⟨_, rfl, ⟨ao, cap, ?_, ?_, HN.out, HS.out.take 64⟩, rfl, fun base h ao' n' c' e a ha => by cases e; exact h _ _ _ rfl a ha⟩
    · rw [List.length_take, ← hn.out, Nat.min_eq_left (by omega)]; rfl
    · rw [List.length_take, ← hn.out]; omega
  · go_enter Try.func41, Try.ntmps41
    go_wp2_with fail
    go_ret
    rw [List.take_of_length_le (by rw [← hn.out]; omega)]
    exact ⟨_, rfl, ⟨ao, cap, by rw [← hn.out]; rfl, by rw [← hn.out]; exact hc, HN.out, HS.out⟩, rfl, fun base h ao' n' c' e a ha => by cases e; exact h _ _ _ rfl a ha⟩

set_option maxRecDepth 100000 in
set_option maxHeartbeats 1000000 in
theorem refjoin_nb (A B : List P3) (hA : SortT A) (hlA : A.length ≤ 200) (hlB : B.length ≤ 200) (va vb : Value) (w : World) (ha : Vw w va A) (hb : Vw w vb B) :
    Calls Try.prog 13 #[va, vb] w fun e w' => ∃ v, e = .returned v ∧ Vw w' v (vjoin A B) ∧ Below w.heap.size w w' ∧ ∀ base, base ≤ w.heap.size → Nb base va → Nb base v := by
  obtain ⟨ao, cap, rfl, hc, hno, hsl⟩ := hb
  obtain ⟨n, hn⟩ := nm B.length
  rw [← hn.out] at hc hlB ⊢
  have HS := Lib.hid hsl
  have HA := Lib.hid ha
  clear hsl hno ha
  go_enter Try.func13, Try.ntmps13
  go_wp2_with fail
  go_loopw [5, 6] (fun v i wr => ∃ (k : Nat) (L : List P3), k ≤ n ∧ i = .int .i64 (k : Int) ∧ Vw wr v L ∧ Hid (L = joinL A (B.take k)) ∧ Below w.heap.size w wr ∧ Hid (∀ base, base ≤ w.heap.size → Nb base va → Nb base v)) (fun _ i _ => n - (intOf i).toNat)
  case atStart => exact ⟨0, A, by omega, rfl, HA.out, rfl, Below.refl _ _, fun _ _ h => h⟩
  case round =>
    obtain ⟨k, L, hk, rfl, hv, hL, hB, hN⟩ := hrel
    by_cases hlt : k < n
    · obtain ⟨b, off, x, y, z, rfl, hbl, c0, c1, c2, hpk⟩ := HS.out.get k (by rw [← hn.out]; exact hlt)
      have d0 : wr.cell? ⟨b, off + k * 3, none⟩ = some (.int .i64 x) := (hB.cell (p := ⟨b, off + k * 3, none⟩) hbl).trans c0
      have d1 : wr.cell? ⟨b, off + k * 3 + 1, none⟩ = some (.int .i64 y) := (hB.cell (p := ⟨b, off + k * 3 + 1, none⟩) hbl).trans c1
      have d2 : wr.cell? ⟨b, off + k * 3 + 2, none⟩ = some (.int .i64 z) := (hB.cell (p := ⟨b, off + k * 3 + 2, none⟩) hbl).trans c2
      have hLs : SortT L := by rw [hL.out]; exact joinL_sort hA _
      have hLl : L.length ≤ 1000 := by
        rw [hL.out]
        have := joinL_length (B.take k) A
        rw [List.length_take] at this
        omega
      have HN : Hid (putL L (x, y, z) = joinL A (B.take (k + 1))) := by
        show _ = _
        have hkl : k < B.length := by rw [← hn.out]; exact hlt
        have he : B[k] = (x, y, z) := by have := hpk.out; rw [List.getElem?_eq_getElem hkl] at this; exact Option.some.inj this
        rw [hL.out, List.take_succ_eq_append_getElem hkl, he]
        unfold joinL
        rw [List.foldl_append]; rfl
      have HP := Lib.hid (refput_nb L L.length rfl hLl x y z _ wr hv)
      have HB := Lib.hid hB
      clear c0 c1 c2 hv hB
      go_wp2_with fail
      refine HP.out.mono ?_; rintro e w2 ⟨v2, rfl, hv2, hB2, hnb⟩
      rw [rput_is hLs] at hv2
      have HNB : Hid (∀ base, base ≤ w.heap.size → Nb base va → Nb base v2) := fun base hb _ => hnb.le (Nat.le_trans hb HB.out.size)
      have HB2 := Lib.hid (bNext HB.out hB2)
      clear hB2 hLs hnb
      go_wp2_with fail
      go_roundw
      case rel => exact ⟨k + 1, _, by omega, by go_num, hv2, HN, HB2.out, HNB⟩
      case measure => simp [intOf]; omega
    · obtain rfl : k = n := by omega
      have HE : Hid (L = joinL A B) := by
        have := hL.out
        rw [List.take_of_length_le (by rw [← hn.out]; exact Nat.le_refl _)] at this
        exact this
      have HF := Lib.hid (reffew_any L _ wr hv)
      have HB := Lib.hid hB
      clear hv hB
      go_wp2_with fail
      refine HF.out.mono ?_; rintro e w2 ⟨v2, rfl, hv2, rfl, hnb⟩
      have HV := Lib.hid hv2
      clear hv2
      go_wp2_with fail
      go_ret
      exact ⟨v2, rfl, HV.out.eq (by rw [HE.out]; rfl), HB.out, fun base hb h => hnb base (hN.out base hb h)⟩
theorem refjoin_any (A B : List P3) (hA : SortT A) (hlA : A.length ≤ 200) (hlB : B.length ≤ 200) (va vb : Value) (w : World) (ha : Vw w va A) (hb : Vw w vb B) :
    Calls Try.prog 13 #[va, vb] w fun e w' => ∃ v, e = .returned v ∧ Vw w' v (vjoin A B) ∧ Below w.heap.size w w' :=
  (refjoin_nb A B hA hlA hlB va vb w ha hb).mono fun _ _ ⟨v, h1, h2, h3, _⟩ => ⟨v, h1, h2, h3⟩
end Go.Proofs.Ytpolhdkjkidpgaa
