/- The document's Read of the wire, of any bytes: what they say, or nothing. -/
import Derived.Test.YtfpjdmplepepjaaGreatK6
import Derived.Test.YtfpjdmplepepjaaGreatWRefBagR
import Derived.Test.YtfpjdmplepepjaaGreatWRefTagR
import Derived.Test.YtfpjdmplepepjaaGreatWRefVwR
import Derived.Test.YtfpjdmplepepjaaGreatWRefW
import Derived.Deep.RegionHeld3
import Derived.Laws.Tables
namespace Go.Proofs.YtfpjdmplepepjaaGreat
open Go.RowKit

theorem cell_row {w : World} {g : Nat} {cs : Array Value} {a : Addr} {v : Value} (hne : a.block ≠ g) (h : w.cell? a = some v) : (w.setRow g cs).cell? a = some v := by
  rw [cell_setRow_other _ _ _ _ hne]; exact h

set_option maxRecDepth 100000 in
set_option maxHeartbeats 16000000 in
theorem refwread_any (S : ByteArray) (w : World) (hS : S.size ≤ 1000000) : Calls Tryz.prog 7 #[.string S] w (ReadTells S w) := by
  obtain ⟨w0, hw0⟩ := nm (w.alloc (.cells #[.int .i64 0, .int .i64 0, .int .i64 0, .int .i64 0, .int .i64 0, .string ⟨#[]⟩, .slice none 0 0, .slice none 0 0, .slice none 0 0, .slice none 0 0, .slice none 0 0, .int .i64 0, .int .i64 0, .int .i64 0, .int .i64 0] 35))
  obtain ⟨x, hx⟩ := nm w.heap.size
  obtain ⟨w1, hw1⟩ := nm (w0.alloc (.cells #[.string S, .bool false] 56))
  obtain ⟨b, hb⟩ := nm w0.heap.size
  have Kx : Hid (Blk w1 x #[.int .i64 0, .int .i64 0, .int .i64 0, .int .i64 0, .int .i64 0, .string ⟨#[]⟩, .slice none 0 0, .slice none 0 0, .slice none 0 0, .slice none 0 0, .slice none 0 0, .int .i64 0, .int .i64 0, .int .i64 0, .int .i64 0] 35) := by show Blk _ _ _ _; rw [hw1.out, hw0.out, hx.out]; exact (Blk.new _ _ _).alloc _
  have HB : Hid (Below w.heap.size w w1) := by show Below _ _ _; rw [hw1.out, hw0.out]; exact bNew (bOld _) _
  have hxw : Hid (w.heap.size ≤ x) := by show _ ≤ _; rw [hx.out]; exact Nat.le_refl _
  have HZB : Hid (x + 1 = b) := by show _ = _; rw [hb.out, hw0.out, hx.out]; simp
  have HW1 : Hid (∀ (m : WL) (r : Rd), Red PW fW ⟨S, false⟩ r m.t → S.size ≤ 8000 → r.fin = 0 → m.May → SaidBy S m) := fun m r => read_said
  have HW2 : Hid (∀ (m : WL) (r : Rd), Red PW fW ⟨S, false⟩ r m.t → (r.fin = 10 ∨ ¬ m.May) → ∀ m', ¬ SaidBy S m') := fun m r => read_not
  have HRB : Hid (∀ w', (∀ m', ¬ SaidBy S m') → Below w.heap.size w w' → ReadTells S w (.returned (.tuple #[.agg #[.int .i64 0, .int .i64 0, .int .i64 0, .int .i64 0, .int .i64 0, .string ⟨#[]⟩, .slice none 0 0, .slice none 0 0, .slice none 0 0, .slice none 0 0, .slice none 0 0, .int .i64 0, .int .i64 0, .int .i64 0, .int .i64 0], .int .i64 10])) w') := fun w' h hb => ReadTells.bad h hb
  have hxb : x < b := by have := HZB.out; omega
  have HR : Hid (IsRr w1 b ⟨S, false⟩) := by show IsRr _ _ _; rw [hw1.out, hb.out]; exact Blk.new _ _ _
  have hwb : Hid (w.heap.size ≤ b) := by show _ ≤ _; have := hxw.out; omega
  obtain ⟨n1, n2⟩ := nums_red ⟨S, false⟩
  have hz1 := (Rd.mk S false).nums_sz 9 1099511627776
  have hnm := refrnums_any b ⟨S, false⟩ 9 1099511627776 w1 HR.out (by simp only; omega) (by decide) (by decide)
  obtain ⟨r1, hr1⟩ := nm ((Rd.mk S false).nums 9 1099511627776).1
  obtain ⟨zs, hzs⟩ := nm ((Rd.mk S false).nums 9 1099511627776).2
  rw [← hr1.out, ← hzs.out] at hnm
  rw [← hzs.out] at n1 n2
  rw [← hr1.out] at n1 hz1
  have HN1 := Lib.hid n1
  have HN2 := Lib.hid n2
  have hs1 : r1.left.size ≤ 1000000 := by simp only at hz1; omega
  have HNM := Lib.hid hnm
  obtain ⟨t1, ht1⟩ := nm r1.torn
  have HNOTS : Hid ((8000 < S.size ∨ t1 = true ∨ zs.length ≠ 9) → ∀ m', ¬ SaidBy S m') := by
    show _ → _
    rintro (h | h | h)
    · exact long_not h
    · by_cases h9 : zs.length = 9
      · exact nine_not ((HN1.out h9).none (ht1.out.symm.trans h))
      · exact nine_not (HN2.out h9)
    · exact nine_not (HN2.out h)
  clear hnm n1 n2 hz1
  go_enter Tryz.func7, Tryz.ntmps7
  go_upto_region 2 with fail
  rw [← hw0.out, ← hw1.out, ← hx.out, HZB.out]
  go_wp2_with fail
  refine HNM.out.mono ?_; rintro e w2 ⟨ao, cap, rfl, hcap, hsl, h2, hk⟩
  have ct : w2.cell? ⟨b, 1, none⟩ = some (.bool t1) := by rw [ht1.out]; exact h2.cell 1
  replace HR := Lib.hid h2
  replace Kx := Lib.hid (hk.blk Kx.out (by omega))
  replace HB := Lib.hid (HB.out.trans (hk.below hwb.out HB.out.size))
  by_cases hlen : 8000 < S.size
  · have HNOT := Lib.hid (HNOTS.out (.inl hlen))
    have hdl : decide ((8000 : Int) < (S.size : Int)) = true := decide_eq_true (by omega)
    obtain ⟨L9, hL9⟩ := nm zs.length
    rw [← hL9.out]
    clear hsl hcap hk h2
    have hone : (#[.int .i64 0, .int .i64 0, .int .i64 0, .int .i64 0, .int .i64 0, .string ⟨#[]⟩, .slice none 0 0, .slice none 0 0, .slice none 0 0, .slice none 0 0, .slice none 0 0, .int .i64 0, .int .i64 0, .int .i64 0, .int .i64 0] : Array Value).all (·.oneCell') = true := by simp [Value.oneCell']
    go_wp2_with (refine wpList_store_row rfl 35 _ _ rfl x #[.int .i64 0, .int .i64 0, .int .i64 0, .int .i64 0, .int .i64 0, .string ⟨#[]⟩, .slice none 0 0, .slice none 0 0, .slice none 0 0, .slice none 0 0, .slice none 0 0, .int .i64 0, .int .i64 0, .int .i64 0, .int .i64 0] rfl rfl 35 #[.int .i64 0, .int .i64 0, .int .i64 0, .int .i64 0, .int .i64 0, .string ⟨#[]⟩, .slice none 0 0, .slice none 0 0, .slice none 0 0, .slice none 0 0, .slice none 0 0, .int .i64 0, .int .i64 0, .int .i64 0, .int .i64 0] Kx.out infoWire rfl hone ?_)
    obtain ⟨wz, hwz⟩ := nm (w2.setRow x #[.int .i64 0, .int .i64 0, .int .i64 0, .int .i64 0, .int .i64 0, .string ⟨#[]⟩, .slice none 0 0, .slice none 0 0, .slice none 0 0, .slice none 0 0, .slice none 0 0, .int .i64 0, .int .i64 0, .int .i64 0, .int .i64 0])
    rw [← hwz.out]
    have Kz : Blk wz x #[.int .i64 0, .int .i64 0, .int .i64 0, .int .i64 0, .int .i64 0, .string ⟨#[]⟩, .slice none 0 0, .slice none 0 0, .slice none 0 0, .slice none 0 0, .slice none 0 0, .int .i64 0, .int .i64 0, .int .i64 0, .int .i64 0] 35 := by rw [hwz.out]; exact setRow_heap w2 x _ _ _ _ Kx.out
    have HBz : Below w.heap.size w wz := by rw [hwz.out]; exact below_setRow HB.out hxw.out _
    have r0 : wz.cell? ⟨x, 0, none⟩ = some (.int .i64 0) := Kz.cell 0
    have r1 : wz.cell? ⟨x, 1, none⟩ = some (.int .i64 0) := Kz.cell 1
    have r2 : wz.cell? ⟨x, 2, none⟩ = some (.int .i64 0) := Kz.cell 2
    have r3 : wz.cell? ⟨x, 3, none⟩ = some (.int .i64 0) := Kz.cell 3
    have r4 : wz.cell? ⟨x, 4, none⟩ = some (.int .i64 0) := Kz.cell 4
    have r5 : wz.cell? ⟨x, 5, none⟩ = some (.string ⟨#[]⟩) := Kz.cell 5
    have r6 : wz.cell? ⟨x, 6, none⟩ = some (.slice none 0 0) := Kz.cell 6
    have r7 : wz.cell? ⟨x, 7, none⟩ = some (.slice none 0 0) := Kz.cell 7
    have r8 : wz.cell? ⟨x, 8, none⟩ = some (.slice none 0 0) := Kz.cell 8
    have r9 : wz.cell? ⟨x, 9, none⟩ = some (.slice none 0 0) := Kz.cell 9
    have r10 : wz.cell? ⟨x, 10, none⟩ = some (.slice none 0 0) := Kz.cell 10
    have r11 : wz.cell? ⟨x, 11, none⟩ = some (.int .i64 0) := Kz.cell 11
    have r12 : wz.cell? ⟨x, 12, none⟩ = some (.int .i64 0) := Kz.cell 12
    have r13 : wz.cell? ⟨x, 13, none⟩ = some (.int .i64 0) := Kz.cell 13
    have r14 : wz.cell? ⟨x, 14, none⟩ = some (.int .i64 0) := Kz.cell 14
    refine bodyPost_ret (v := .tuple #[.agg #[.int .i64 0, .int .i64 0, .int .i64 0, .int .i64 0, .int .i64 0, .string ⟨#[]⟩, .slice none 0 0, .slice none 0 0, .slice none 0 0, .slice none 0 0, .slice none 0 0, .int .i64 0, .int .i64 0, .int .i64 0, .int .i64 0], .int .i64 10]) (by simp [results, Tryz.results7, go_sem, r0, r1, r2, r3, r4, r5, r6, r7, r8, r9, r10, r11, r12, r13, r14]) rfl ?_
    exact HRB.out _ HNOT.out HBz
  have hdl : decide ((8000 : Int) < (S.size : Int)) = false := decide_eq_false (by omega)
  have HS8 : Hid (S.size ≤ 8000) := by show _ ≤ _; omega
  cases t1
  rotate_left
  · have HNOT := Lib.hid (HNOTS.out (.inr (.inl rfl)))
    obtain ⟨L9, hL9⟩ := nm zs.length
    rw [← hL9.out]
    clear hsl hcap hk h2
    have hone : (#[.int .i64 0, .int .i64 0, .int .i64 0, .int .i64 0, .int .i64 0, .string ⟨#[]⟩, .slice none 0 0, .slice none 0 0, .slice none 0 0, .slice none 0 0, .slice none 0 0, .int .i64 0, .int .i64 0, .int .i64 0, .int .i64 0] : Array Value).all (·.oneCell') = true := by simp [Value.oneCell']
    go_wp2_with (refine wpList_store_row rfl 35 _ _ rfl x #[.int .i64 0, .int .i64 0, .int .i64 0, .int .i64 0, .int .i64 0, .string ⟨#[]⟩, .slice none 0 0, .slice none 0 0, .slice none 0 0, .slice none 0 0, .slice none 0 0, .int .i64 0, .int .i64 0, .int .i64 0, .int .i64 0] rfl rfl 35 #[.int .i64 0, .int .i64 0, .int .i64 0, .int .i64 0, .int .i64 0, .string ⟨#[]⟩, .slice none 0 0, .slice none 0 0, .slice none 0 0, .slice none 0 0, .slice none 0 0, .int .i64 0, .int .i64 0, .int .i64 0, .int .i64 0] Kx.out infoWire rfl hone ?_)
    obtain ⟨wz, hwz⟩ := nm (w2.setRow x #[.int .i64 0, .int .i64 0, .int .i64 0, .int .i64 0, .int .i64 0, .string ⟨#[]⟩, .slice none 0 0, .slice none 0 0, .slice none 0 0, .slice none 0 0, .slice none 0 0, .int .i64 0, .int .i64 0, .int .i64 0, .int .i64 0])
    rw [← hwz.out]
    have Kz : Blk wz x #[.int .i64 0, .int .i64 0, .int .i64 0, .int .i64 0, .int .i64 0, .string ⟨#[]⟩, .slice none 0 0, .slice none 0 0, .slice none 0 0, .slice none 0 0, .slice none 0 0, .int .i64 0, .int .i64 0, .int .i64 0, .int .i64 0] 35 := by rw [hwz.out]; exact setRow_heap w2 x _ _ _ _ Kx.out
    have HBz : Below w.heap.size w wz := by rw [hwz.out]; exact below_setRow HB.out hxw.out _
    have r0 : wz.cell? ⟨x, 0, none⟩ = some (.int .i64 0) := Kz.cell 0
    have r1 : wz.cell? ⟨x, 1, none⟩ = some (.int .i64 0) := Kz.cell 1
    have r2 : wz.cell? ⟨x, 2, none⟩ = some (.int .i64 0) := Kz.cell 2
    have r3 : wz.cell? ⟨x, 3, none⟩ = some (.int .i64 0) := Kz.cell 3
    have r4 : wz.cell? ⟨x, 4, none⟩ = some (.int .i64 0) := Kz.cell 4
    have r5 : wz.cell? ⟨x, 5, none⟩ = some (.string ⟨#[]⟩) := Kz.cell 5
    have r6 : wz.cell? ⟨x, 6, none⟩ = some (.slice none 0 0) := Kz.cell 6
    have r7 : wz.cell? ⟨x, 7, none⟩ = some (.slice none 0 0) := Kz.cell 7
    have r8 : wz.cell? ⟨x, 8, none⟩ = some (.slice none 0 0) := Kz.cell 8
    have r9 : wz.cell? ⟨x, 9, none⟩ = some (.slice none 0 0) := Kz.cell 9
    have r10 : wz.cell? ⟨x, 10, none⟩ = some (.slice none 0 0) := Kz.cell 10
    have r11 : wz.cell? ⟨x, 11, none⟩ = some (.int .i64 0) := Kz.cell 11
    have r12 : wz.cell? ⟨x, 12, none⟩ = some (.int .i64 0) := Kz.cell 12
    have r13 : wz.cell? ⟨x, 13, none⟩ = some (.int .i64 0) := Kz.cell 13
    have r14 : wz.cell? ⟨x, 14, none⟩ = some (.int .i64 0) := Kz.cell 14
    refine bodyPost_ret (v := .tuple #[.agg #[.int .i64 0, .int .i64 0, .int .i64 0, .int .i64 0, .int .i64 0, .string ⟨#[]⟩, .slice none 0 0, .slice none 0 0, .slice none 0 0, .slice none 0 0, .slice none 0 0, .int .i64 0, .int .i64 0, .int .i64 0, .int .i64 0], .int .i64 10]) (by simp [results, Tryz.results7, go_sem, r0, r1, r2, r3, r4, r5, r6, r7, r8, r9, r10, r11, r12, r13, r14]) rfl ?_
    exact HRB.out _ HNOT.out HBz
  by_cases hz9 : zs.length = 9
  rotate_left
  · have HNOT := Lib.hid (HNOTS.out (.inr (.inr hz9)))
    obtain ⟨L9, hL9⟩ := nm zs.length
    rw [← hL9.out]
    have hne : ((L9 : Int) == 9) = false := by
      have : L9 ≠ 9 := by rw [hL9.out]; exact hz9
      simp; omega
    clear hsl hcap hz9 hk h2
    have hone : (#[.int .i64 0, .int .i64 0, .int .i64 0, .int .i64 0, .int .i64 0, .string ⟨#[]⟩, .slice none 0 0, .slice none 0 0, .slice none 0 0, .slice none 0 0, .slice none 0 0, .int .i64 0, .int .i64 0, .int .i64 0, .int .i64 0] : Array Value).all (·.oneCell') = true := by simp [Value.oneCell']
    go_wp2_with (refine wpList_store_row rfl 35 _ _ rfl x #[.int .i64 0, .int .i64 0, .int .i64 0, .int .i64 0, .int .i64 0, .string ⟨#[]⟩, .slice none 0 0, .slice none 0 0, .slice none 0 0, .slice none 0 0, .slice none 0 0, .int .i64 0, .int .i64 0, .int .i64 0, .int .i64 0] rfl rfl 35 #[.int .i64 0, .int .i64 0, .int .i64 0, .int .i64 0, .int .i64 0, .string ⟨#[]⟩, .slice none 0 0, .slice none 0 0, .slice none 0 0, .slice none 0 0, .slice none 0 0, .int .i64 0, .int .i64 0, .int .i64 0, .int .i64 0] Kx.out infoWire rfl hone ?_)
    obtain ⟨wz, hwz⟩ := nm (w2.setRow x #[.int .i64 0, .int .i64 0, .int .i64 0, .int .i64 0, .int .i64 0, .string ⟨#[]⟩, .slice none 0 0, .slice none 0 0, .slice none 0 0, .slice none 0 0, .slice none 0 0, .int .i64 0, .int .i64 0, .int .i64 0, .int .i64 0])
    rw [← hwz.out]
    have Kz : Blk wz x #[.int .i64 0, .int .i64 0, .int .i64 0, .int .i64 0, .int .i64 0, .string ⟨#[]⟩, .slice none 0 0, .slice none 0 0, .slice none 0 0, .slice none 0 0, .slice none 0 0, .int .i64 0, .int .i64 0, .int .i64 0, .int .i64 0] 35 := by rw [hwz.out]; exact setRow_heap w2 x _ _ _ _ Kx.out
    have HBz : Below w.heap.size w wz := by rw [hwz.out]; exact below_setRow HB.out hxw.out _
    have r0 : wz.cell? ⟨x, 0, none⟩ = some (.int .i64 0) := Kz.cell 0
    have r1 : wz.cell? ⟨x, 1, none⟩ = some (.int .i64 0) := Kz.cell 1
    have r2 : wz.cell? ⟨x, 2, none⟩ = some (.int .i64 0) := Kz.cell 2
    have r3 : wz.cell? ⟨x, 3, none⟩ = some (.int .i64 0) := Kz.cell 3
    have r4 : wz.cell? ⟨x, 4, none⟩ = some (.int .i64 0) := Kz.cell 4
    have r5 : wz.cell? ⟨x, 5, none⟩ = some (.string ⟨#[]⟩) := Kz.cell 5
    have r6 : wz.cell? ⟨x, 6, none⟩ = some (.slice none 0 0) := Kz.cell 6
    have r7 : wz.cell? ⟨x, 7, none⟩ = some (.slice none 0 0) := Kz.cell 7
    have r8 : wz.cell? ⟨x, 8, none⟩ = some (.slice none 0 0) := Kz.cell 8
    have r9 : wz.cell? ⟨x, 9, none⟩ = some (.slice none 0 0) := Kz.cell 9
    have r10 : wz.cell? ⟨x, 10, none⟩ = some (.slice none 0 0) := Kz.cell 10
    have r11 : wz.cell? ⟨x, 11, none⟩ = some (.int .i64 0) := Kz.cell 11
    have r12 : wz.cell? ⟨x, 12, none⟩ = some (.int .i64 0) := Kz.cell 12
    have r13 : wz.cell? ⟨x, 13, none⟩ = some (.int .i64 0) := Kz.cell 13
    have r14 : wz.cell? ⟨x, 14, none⟩ = some (.int .i64 0) := Kz.cell 14
    refine bodyPost_ret (v := .tuple #[.agg #[.int .i64 0, .int .i64 0, .int .i64 0, .int .i64 0, .int .i64 0, .string ⟨#[]⟩, .slice none 0 0, .slice none 0 0, .slice none 0 0, .slice none 0 0, .slice none 0 0, .int .i64 0, .int .i64 0, .int .i64 0, .int .i64 0], .int .i64 10]) (by simp [results, Tryz.results7, go_sem, r0, r1, r2, r3, r4, r5, r6, r7, r8, r9, r10, r11, r12, r13, r14]) rfl ?_
    exact HRB.out _ HNOT.out HBz
  have D1 := Lib.hid (HN1.out hz9)
  obtain ⟨k, f, s, p, fl, d0, d1, rc, lg, hz⟩ := list9 zs hz9
  have HZ := Lib.hid hz
  rw [hz9] at hcap ⊢
  have hs2 : ∃ g off, ao = some ⟨g, off, none⟩ ∧ g < w2.heap.size ∧ ∀ j, j < 9 → w2.cell? ⟨g, off + j, none⟩ = (zs.map (Value.int .i64))[j]? := by
    obtain ⟨g, off, h1, h2, h3⟩ := hsl 0 (by rw [List.length_map, hz9]; decide)
    exact ⟨g, off, h1, h2, fun j hj => h3 j (by rw [List.length_map, hz9]; exact hj)⟩
  obtain ⟨g, off, rfl, hg, hat⟩ := hs2
  rw [hz] at hat
  clear hsl hz hz9
  have c0 : w2.cell? ⟨g, off, none⟩ = some (.int .i64 k) := hat 0 (by decide)
  have c1 : w2.cell? ⟨g, off + 1, none⟩ = some (.int .i64 f) := hat 1 (by decide)
  have c2 : w2.cell? ⟨g, off + 2, none⟩ = some (.int .i64 s) := hat 2 (by decide)
  have c3 : w2.cell? ⟨g, off + 3, none⟩ = some (.int .i64 p) := hat 3 (by decide)
  have c4 : w2.cell? ⟨g, off + 4, none⟩ = some (.int .i64 fl) := hat 4 (by decide)
  have c5 : w2.cell? ⟨g, off + 5, none⟩ = some (.int .i64 d0) := hat 5 (by decide)
  have c6 : w2.cell? ⟨g, off + 6, none⟩ = some (.int .i64 d1) := hat 6 (by decide)
  have c7 : w2.cell? ⟨g, off + 7, none⟩ = some (.int .i64 rc) := hat 7 (by decide)
  have c8 : w2.cell? ⟨g, off + 8, none⟩ = some (.int .i64 lg) := hat 8 (by decide)
  obtain ⟨v, hv⟩ := nm w2.heap.size
  obtain ⟨w3, hw3⟩ := nm ((w2.alloc (.cells #[.int .i64 0, .int .i64 0, .int .i64 0, .int .i64 0, .int .i64 0, .string ⟨#[]⟩, .slice none 0 0, .slice none 0 0, .slice none 0 0, .slice none 0 0, .slice none 0 0, .int .i64 0, .int .i64 0, .int .i64 0, .int .i64 0] 35)).drew.setRow w2.heap.size #[.int .i64 k, .int .i64 f, .int .i64 s, .int .i64 p, .int .i64 fl, .string ⟨#[]⟩, .slice none 0 0, .slice none 0 0, .slice none 0 0, .slice none 0 0, .slice none 0 0, .int .i64 d0, .int .i64 d1, .int .i64 rc, .int .i64 lg])
  have hbv : b < v := by rw [hv.out]; have := h2.lt; omega
  have hxv : x < v := by rw [hv.out]; have := Kx.out.lt; omega
  have hne1 : x ≠ w2.heap.size := by rw [← hv.out]; omega
  have hne2 : b ≠ w2.heap.size := by rw [← hv.out]; omega
  have hgn : g ≠ w2.heap.size := by omega
  have Kv : Hid (Blk w3 v #[.int .i64 k, .int .i64 f, .int .i64 s, .int .i64 p, .int .i64 fl, .string ⟨#[]⟩, .slice none 0 0, .slice none 0 0, .slice none 0 0, .slice none 0 0, .slice none 0 0, .int .i64 d0, .int .i64 d1, .int .i64 rc, .int .i64 lg] 35) := by show Blk _ _ _ _; rw [hw3.out, hv.out]; exact setRow_heap _ _ #[.int .i64 0, .int .i64 0, .int .i64 0, .int .i64 0, .int .i64 0, .string ⟨#[]⟩, .slice none 0 0, .slice none 0 0, .slice none 0 0, .slice none 0 0, .slice none 0 0, .int .i64 0, .int .i64 0, .int .i64 0, .int .i64 0] _ _ _ (Blk.drew (Blk.new w2 _ _))
  replace HR : Hid (IsRr w3 b r1) := by show IsRr _ _ _; rw [hw3.out]; exact (setRow_other _ _ _ _ hne2).trans (Blk.drew (Blk.alloc h2 _))
  replace Kx : Hid (Blk w3 x #[.int .i64 0, .int .i64 0, .int .i64 0, .int .i64 0, .int .i64 0, .string ⟨#[]⟩, .slice none 0 0, .slice none 0 0, .slice none 0 0, .slice none 0 0, .slice none 0 0, .int .i64 0, .int .i64 0, .int .i64 0, .int .i64 0] 35) := by show Blk _ _ _ _; rw [hw3.out]; exact (setRow_other _ _ _ _ hne1).trans (Blk.drew (Blk.alloc Kx.out _))
  replace HB : Hid (Below w.heap.size w w3) := by show Below _ _ _; rw [hw3.out]; exact below_setRow (bDrew (bNew HB.out _)) HB.out.size _
  have hwv : Hid (w.heap.size ≤ v) := by show _ ≤ _; have := hxw.out; omega
  have hone : (#[.int .i64 k, .int .i64 f, .int .i64 s, .int .i64 p, .int .i64 fl, .string ⟨#[]⟩, .slice none 0 0, .slice none 0 0, .slice none 0 0, .slice none 0 0, .slice none 0 0, .int .i64 d0, .int .i64 d1, .int .i64 rc, .int .i64 lg] : Array Value).all (·.oneCell') = true := by simp [Value.oneCell']
  have H08 : (0 : Int) < 9 ∧ (1 : Int) < 9 ∧ (2 : Int) < 9 := by decide
  clear h2 hk hat hne1 hne2 H08
  go_wp2_with fail
  refine wp_region_noPanic ?_
  refine wp_region_held_drew (S := fun w' => w'.cell? ⟨g, off, none⟩ = some (.int .i64 k) ∧ w'.cell? ⟨g, off + 1, none⟩ = some (.int .i64 f) ∧ w'.cell? ⟨g, off + 2, none⟩ = some (.int .i64 s) ∧ w'.cell? ⟨g, off + 3, none⟩ = some (.int .i64 p) ∧ w'.cell? ⟨g, off + 4, none⟩ = some (.int .i64 fl) ∧ w'.cell? ⟨g, off + 5, none⟩ = some (.int .i64 d0) ∧ w'.cell? ⟨g, off + 6, none⟩ = some (.int .i64 d1) ∧ w'.cell? ⟨g, off + 7, none⟩ = some (.int .i64 rc) ∧ w'.cell? ⟨g, off + 8, none⟩ = some (.int .i64 lg)) (by kernel_rfl) (⟨cell_dr c0, cell_dr c1, cell_dr c2, cell_dr c3, cell_dr c4, cell_dr c5, cell_dr c6, cell_dr c7, cell_dr c8⟩) (fun hHeld => ?_)
  refine wpAnyH_take (i := 0) (v := ?_) (takeL rfl) (by kernel_rfl) (by kernel_rfl) (by kernel_rfl) (fun _ _ _ h => h) (Or.inl ⟨by rfl, ?_⟩) (by assumption) ?_
  rotate_left
  · (intro w hSw; (try dsimp only at hSw); first | (go_simp; done) | (go_simp; with_reducible rfl))
  try simp only [Act.put, List.setIfInBounds_toArray, List.set_cons_zero, List.set_cons_succ]
  refine wpAnyH_take (i := 1) (v := ?_) (takeL rfl) (by kernel_rfl) (by kernel_rfl) (by kernel_rfl) (fun _ _ _ h => h) (Or.inl ⟨by rfl, ?_⟩) (by assumption) ?_
  rotate_left
  · (intro w hSw; (try dsimp only at hSw); first | (go_simp; done) | (go_simp; with_reducible rfl))
  try simp only [Act.put, List.setIfInBounds_toArray, List.set_cons_zero, List.set_cons_succ]
  refine wpAnyH_take (i := 2) (v := ?_) (takeL rfl) (by kernel_rfl) (by kernel_rfl) (by kernel_rfl) (fun _ _ _ h => h) (Or.inl ⟨by rfl, ?_⟩) (by assumption) ?_
  rotate_left
  · (intro w hSw; (try dsimp only at hSw); first | (go_simp; done) | (go_simp; with_reducible rfl))
  try simp only [Act.put, List.setIfInBounds_toArray, List.set_cons_zero, List.set_cons_succ]
  refine wpAnyH_take (i := 3) (v := ?_) (takeL rfl) (by kernel_rfl) (by kernel_rfl) (by kernel_rfl) (fun _ _ _ h => h) (Or.inl ⟨by rfl, ?_⟩) (by assumption) ?_
  rotate_left
  · (intro w hSw; (try dsimp only at hSw); first | (go_simp; done) | (go_simp; with_reducible rfl))
  try simp only [Act.put, List.setIfInBounds_toArray, List.set_cons_zero, List.set_cons_succ]
  refine wpAnyH_take (i := 4) (v := ?_) (takeL rfl) (by kernel_rfl) (by kernel_rfl) (by kernel_rfl) (fun _ _ _ h => h) (Or.inl ⟨by rfl, ?_⟩) (by assumption) ?_
  rotate_left
  · (intro w hSw; (try dsimp only at hSw); first | (go_simp; done) | (go_simp; with_reducible rfl))
  try simp only [Act.put, List.setIfInBounds_toArray, List.set_cons_zero, List.set_cons_succ]
  refine wpAnyH_take (i := 5) (v := ?_) (takeL rfl) (by kernel_rfl) (by kernel_rfl) (by kernel_rfl) (fun _ _ _ h => h) (Or.inl ⟨by rfl, ?_⟩) (by assumption) ?_
  rotate_left
  · (intro w hSw; (try dsimp only at hSw); first | (go_simp; done) | (go_simp; with_reducible rfl))
  try simp only [Act.put, List.setIfInBounds_toArray, List.set_cons_zero, List.set_cons_succ]
  refine wpAnyH_take (i := 6) (v := ?_) (takeL rfl) (by kernel_rfl) (by kernel_rfl) (by kernel_rfl) (fun _ _ _ h => h) (Or.inl ⟨by rfl, ?_⟩) (by assumption) ?_
  rotate_left
  · (intro w hSw; (try dsimp only at hSw); first | (go_simp; done) | (go_simp; with_reducible rfl))
  try simp only [Act.put, List.setIfInBounds_toArray, List.set_cons_zero, List.set_cons_succ]
  refine wpAnyH_take (i := 7) (v := ?_) (takeL rfl) (by kernel_rfl) (by kernel_rfl) (by kernel_rfl) (fun _ _ _ h => h) (Or.inl ⟨by rfl, ?_⟩) (by assumption) ?_
  rotate_left
  · (intro w hSw; (try dsimp only at hSw); first | (go_simp; done) | (go_simp; with_reducible rfl))
  try simp only [Act.put, List.setIfInBounds_toArray, List.set_cons_zero, List.set_cons_succ]
  refine wpAnyH_take (i := 8) (v := ?_) (takeL rfl) (by kernel_rfl) (by kernel_rfl) (by kernel_rfl) (fun _ _ _ h => h) (Or.inl ⟨by rfl, ?_⟩) (by assumption) ?_
  rotate_left
  · (intro w hSw; (try dsimp only at hSw); first | (go_simp; done) | (go_simp; with_reducible rfl))
  try simp only [Act.put, List.setIfInBounds_toArray, List.set_cons_zero, List.set_cons_succ]
  refine wpAnyH_take (i := 9) (v := ?_) (takeL rfl) (by kernel_rfl) (by kernel_rfl) (by kernel_rfl) (fun _ _ _ h => h) (Or.inl ⟨by rfl, ?_⟩) (by assumption) ?_
  rotate_left
  · (intro w hSw; (try dsimp only at hSw); first | (go_simp; done) | (go_simp; with_reducible rfl))
  try simp only [Act.put, List.setIfInBounds_toArray, List.set_cons_zero, List.set_cons_succ]
  refine wpAnyH_take (i := 10) (v := ?_) (takeL rfl) (by kernel_rfl) (by kernel_rfl) (by kernel_rfl) (fun _ _ _ h => h) (Or.inl ⟨by rfl, ?_⟩) (by assumption) ?_
  rotate_left
  · (intro w hSw; (try dsimp only at hSw); first | (go_simp; done) | (go_simp; with_reducible rfl))
  try simp only [Act.put, List.setIfInBounds_toArray, List.set_cons_zero, List.set_cons_succ]
  refine wpAnyH_take (i := 11) (v := ?_) (takeL rfl) (by kernel_rfl) (by kernel_rfl) (by kernel_rfl) (fun _ _ _ h => h) (Or.inl ⟨by rfl, ?_⟩) (by assumption) ?_
  rotate_left
  · (intro w hSw; (try dsimp only at hSw); first | (go_simp; done) | (go_simp; with_reducible rfl))
  try simp only [Act.put, List.setIfInBounds_toArray, List.set_cons_zero, List.set_cons_succ]
  refine wpAnyH_take (i := 12) (v := ?_) (takeL rfl) (by kernel_rfl) (by kernel_rfl) (by kernel_rfl) (fun _ _ _ h => h) (Or.inl ⟨by rfl, ?_⟩) (by assumption) ?_
  rotate_left
  · (intro w hSw; (try dsimp only at hSw); first | (go_simp; done) | (go_simp; with_reducible rfl))
  try simp only [Act.put, List.setIfInBounds_toArray, List.set_cons_zero, List.set_cons_succ]
  refine wpAnyH_take (i := 13) (v := ?_) (takeL rfl) (by kernel_rfl) (by kernel_rfl) (by kernel_rfl) (fun _ _ _ h => h) (Or.inl ⟨by rfl, ?_⟩) (by assumption) ?_
  rotate_left
  · (intro w hSw; (try dsimp only at hSw); first | (go_simp; done) | (go_simp; with_reducible rfl))
  try simp only [Act.put, List.setIfInBounds_toArray, List.set_cons_zero, List.set_cons_succ]
  refine wpAnyH_take (i := 14) (v := ?_) (takeL rfl) (by kernel_rfl) (by kernel_rfl) (by kernel_rfl) (fun _ _ _ h => h) (Or.inl ⟨by rfl, ?_⟩) (by assumption) ?_
  rotate_left
  · (intro w hSw; (try dsimp only at hSw); first | (go_simp; done) | (go_simp; with_reducible rfl))
  try simp only [Act.put, List.setIfInBounds_toArray, List.set_cons_zero, List.set_cons_succ]
  refine wpAnyH_take (i := 15) (v := ?_) (takeL rfl) (by kernel_rfl) (by kernel_rfl) (by kernel_rfl) (fun _ _ _ h => h) (Or.inl ⟨by rfl, ?_⟩) (by assumption) ?_
  rotate_left
  · (intro w hSw; (try dsimp only at hSw); first | (go_simp; done) | (go_simp; with_reducible rfl))
  try simp only [Act.put, List.setIfInBounds_toArray, List.set_cons_zero, List.set_cons_succ]
  refine wpAnyH_take (i := 16) (v := ?_) (takeL rfl) (by kernel_rfl) (by kernel_rfl) (by kernel_rfl) (fun _ _ _ h => h) (Or.inl ⟨by rfl, ?_⟩) (by assumption) ?_
  rotate_left
  · (intro w hSw; (try dsimp only at hSw); first | (go_simp; done) | (go_simp; with_reducible rfl))
  try simp only [Act.put, List.setIfInBounds_toArray, List.set_cons_zero, List.set_cons_succ]
  refine wpAnyH_take (i := 17) (v := ?_) (takeL rfl) (by kernel_rfl) (by kernel_rfl) (by kernel_rfl) (fun _ _ _ h => h) (Or.inl ⟨by rfl, ?_⟩) (by assumption) ?_
  rotate_left
  · (intro w hSw; (try dsimp only at hSw); first | (go_simp; done) | (go_simp; with_reducible rfl))
  try simp only [Act.put, List.setIfInBounds_toArray, List.set_cons_zero, List.set_cons_succ]
  refine wpAnyH_take (i := 18) (v := ?_) (takeL rfl) (by kernel_rfl) (by kernel_rfl) (by kernel_rfl) (fun _ _ _ h => h) (Or.inl ⟨by rfl, ?_⟩) (by assumption) ?_
  rotate_left
  · (intro w hSw; (try dsimp only at hSw); first | (go_simp; done) | (go_simp; with_reducible rfl))
  try simp only [Act.put, List.setIfInBounds_toArray, List.set_cons_zero, List.set_cons_succ]
  refine wpAnyH_take (i := 19) (v := ?_) (takeL rfl) (by kernel_rfl) (by kernel_rfl) (by kernel_rfl) (fun _ _ _ h => h) (Or.inl ⟨by rfl, ?_⟩) (by assumption) ?_
  rotate_left
  · (intro w hSw; (try dsimp only at hSw); first | (go_simp; done) | (go_simp; with_reducible rfl))
  try simp only [Act.put, List.setIfInBounds_toArray, List.set_cons_zero, List.set_cons_succ]
  refine wpAnyH_take (i := 20) (v := ?_) (takeL rfl) (by kernel_rfl) (by kernel_rfl) (by kernel_rfl) (fun _ _ _ h => h) (Or.inl ⟨by rfl, ?_⟩) (by assumption) ?_
  rotate_left
  · (intro w hSw; (try dsimp only at hSw); first | (go_simp; done) | (go_simp; with_reducible rfl))
  try simp only [Act.put, List.setIfInBounds_toArray, List.set_cons_zero, List.set_cons_succ]
  refine wpAnyH_take (i := 21) (v := ?_) (takeL rfl) (by kernel_rfl) (by kernel_rfl) (by kernel_rfl) (fun _ _ _ h => h) (Or.inl ⟨by rfl, ?_⟩) (by assumption) ?_
  rotate_left
  · (intro w hSw; (try dsimp only at hSw); first | (go_simp; done) | (go_simp; with_reducible rfl))
  try simp only [Act.put, List.setIfInBounds_toArray, List.set_cons_zero, List.set_cons_succ]
  refine wpAnyH_take (i := 22) (v := ?_) (takeL rfl) (by kernel_rfl) (by kernel_rfl) (by kernel_rfl) (fun _ _ _ h => h) (Or.inl ⟨by rfl, ?_⟩) (by assumption) ?_
  rotate_left
  · (intro w hSw; (try dsimp only at hSw); first | (go_simp; done) | (go_simp; with_reducible rfl))
  try simp only [Act.put, List.setIfInBounds_toArray, List.set_cons_zero, List.set_cons_succ]
  refine wpAnyH_take (i := 23) (v := ?_) (takeL rfl) (by kernel_rfl) (by kernel_rfl) (by kernel_rfl) (fun _ _ _ h => h) (Or.inl ⟨by rfl, ?_⟩) (by assumption) ?_
  rotate_left
  · (intro w hSw; (try dsimp only at hSw); first | (go_simp; done) | (go_simp; with_reducible rfl))
  try simp only [Act.put, List.setIfInBounds_toArray, List.set_cons_zero, List.set_cons_succ]
  refine wpAnyH_take (i := 24) (v := ?_) (takeL rfl) (by kernel_rfl) (by kernel_rfl) (by kernel_rfl) (fun _ _ _ h => h) (Or.inl ⟨by rfl, ?_⟩) (by assumption) ?_
  rotate_left
  · (intro w hSw; (try dsimp only at hSw); first | (go_simp; done) | (go_simp; with_reducible rfl))
  try simp only [Act.put, List.setIfInBounds_toArray, List.set_cons_zero, List.set_cons_succ]
  refine wpAnyH_take (i := 25) (v := ?_) (takeL rfl) (by kernel_rfl) (by kernel_rfl) (by kernel_rfl) (fun _ _ _ h => h) (Or.inl ⟨by rfl, ?_⟩) (by assumption) ?_
  rotate_left
  · (intro w hSw; (try dsimp only at hSw); first | (go_simp; done) | (go_simp; with_reducible rfl))
  try simp only [Act.put, List.setIfInBounds_toArray, List.set_cons_zero, List.set_cons_succ]
  refine wpAnyH_take (i := 26) (v := ?_) (takeL rfl) (by kernel_rfl) (by kernel_rfl) (by kernel_rfl) (fun _ _ _ h => h) (Or.inl ⟨by rfl, ?_⟩) (by assumption) ?_
  rotate_left
  · (intro w hSw; (try dsimp only at hSw); first | (go_simp; done) | (go_simp; with_reducible rfl))
  try simp only [Act.put, List.setIfInBounds_toArray, List.set_cons_zero, List.set_cons_succ]
  refine wpAnyH_take (i := 27) (v := ?_) (takeL rfl) (by kernel_rfl) (by kernel_rfl) (by kernel_rfl) (fun _ _ _ h => h) (Or.inl ⟨by rfl, ?_⟩) (by assumption) ?_
  rotate_left
  · (intro w hSw; (try dsimp only at hSw); first | (go_simp; done) | (go_simp; with_reducible rfl))
  try simp only [Act.put, List.setIfInBounds_toArray, List.set_cons_zero, List.set_cons_succ]
  refine wpAnyH_take (i := 28) (v := ?_) (takeL rfl) (by kernel_rfl) (by kernel_rfl) (by kernel_rfl) (fun _ _ _ h => h) (Or.inl ⟨by rfl, ?_⟩) (by assumption) ?_
  rotate_left
  · (intro w hSw; (try dsimp only at hSw); first | (go_simp; done) | (go_simp; with_reducible rfl))
  try simp only [Act.put, List.setIfInBounds_toArray, List.set_cons_zero, List.set_cons_succ]
  refine wpAnyH_ready (rs := [29]) (by kernel_rfl) (by simp) ?_
  refine AllReadyH.cons (takeL rfl) (fun K hK => ?_) AllReadyH.nil
  go_simp
  refine hK.out _ _ (by obtain ⟨k0, k1, k2, k3, k4, k5, k6, k7, k8⟩ := hHeld; exact ⟨cell_al k0, cell_al k1, cell_al k2, cell_al k3, cell_al k4, cell_al k5, cell_al k6, cell_al k7, cell_al k8⟩) (fun hHeld => ?_)
  clear hK K
  refine wpAnyH_ready (rs := [30]) (by kernel_rfl) (by simp) ?_
  refine AllReadyH.cons (takeL rfl) (fun K hK => ?_) AllReadyH.nil
  rw [if_pos (by rfl)]
  refine wp_store_row 35 _ _ rfl w2.heap.size #[.int .i64 k, .int .i64 f, .int .i64 s, .int .i64 p, .int .i64 fl, .string ⟨#[]⟩, .slice none 0 0, .slice none 0 0, .slice none 0 0, .slice none 0 0, .slice none 0 0, .int .i64 d0, .int .i64 d1, .int .i64 rc, .int .i64 lg] (by rfl) (by rfl) 35 #[.int .i64 0, .int .i64 0, .int .i64 0, .int .i64 0, .int .i64 0, .string ⟨#[]⟩, .slice none 0 0, .slice none 0 0, .slice none 0 0, .slice none 0 0, .slice none 0 0, .int .i64 0, .int .i64 0, .int .i64 0, .int .i64 0] (Blk.new _ _ _) infoWire rfl hone ?_
  refine hK.out _ _ (by obtain ⟨k0, k1, k2, k3, k4, k5, k6, k7, k8⟩ := hHeld; exact ⟨cell_row hgn k0, cell_row hgn k1, cell_row hgn k2, cell_row hgn k3, cell_row hgn k4, cell_row hgn k5, cell_row hgn k6, cell_row hgn k7, cell_row hgn k8⟩) (fun hHeld => ?_)
  clear hK K hHeld
  refine wpAnyH_done (by kernel_rfl) ?_ _
  refine NoPanic.normal ?_
  rw [← hw3.out, ← hv.out]
  clear hone hgn
  as_aux_lemma =>
    go_upto_region 6 with fail
    have q5 := red_text r1 8000 (by decide)
    have z5 := r1.text_sz 8000
    have htx := refrtext_any b r1 8000 w3 HR.out (by omega) (by decide)
    obtain ⟨r2, hr2⟩ := nm (r1.text 8000).1
    obtain ⟨mark, hmark⟩ := nm (r1.text 8000).2
    rw [← hr2.out, ← hmark.out] at q5 htx
    rw [← hr2.out] at z5
    have hs2 : r2.left.size ≤ 1000000 := by omega
    have D2 := Lib.hid q5
    have HTX := Lib.hid htx
    clear htx q5 z5 c0 c1 c2 c3 c4 c5 c6 c7 c8
    go_wp2_with fail
    refine (HTX.out).mono ?_; rintro e w4 ⟨rfl, hr, hk⟩
    replace HR := Lib.hid hr
    replace Kx := Lib.hid (hk.blk Kx.out (by omega))
    replace Kv := Lib.hid (hk.blk Kv.out (by omega))
    replace HB := Lib.hid (HB.out.trans (hk.below hwb.out HB.out.size))
    clear hr hk
    have c5 : w4.cell? ⟨v, 5, none⟩ = some (.string ⟨#[]⟩) := Kv.out.cell 5
    have f5 : w4.frozen? ⟨v, 5, none⟩ = false := Kv.out.free 5
    obtain ⟨w5, hw5⟩ := nm (w4.setCell ⟨v, 5, none⟩ (.string mark))
    replace Kx : Hid (Blk w5 x #[.int .i64 0, .int .i64 0, .int .i64 0, .int .i64 0, .int .i64 0, .string ⟨#[]⟩, .slice none 0 0, .slice none 0 0, .slice none 0 0, .slice none 0 0, .slice none 0 0, .int .i64 0, .int .i64 0, .int .i64 0, .int .i64 0] 35) := by show Blk _ _ _ _; rw [hw5.out]; exact (Blk.setOther Kx.out (by simp only; omega) _)
    replace HR : Hid (IsRr w5 b r2) := by show IsRr _ _ _; rw [hw5.out]; exact (Blk.setOther HR.out (by simp only; omega) _)
    replace Kv : Hid (Blk w5 v #[.int .i64 k, .int .i64 f, .int .i64 s, .int .i64 p, .int .i64 fl, .string mark, .slice none 0 0, .slice none 0 0, .slice none 0 0, .slice none 0 0, .slice none 0 0, .int .i64 d0, .int .i64 d1, .int .i64 rc, .int .i64 lg] 35) := by show Blk _ _ _ _; rw [hw5.out]; exact (Blk.set Kv.out 5 _)
    replace HB : Hid (Below w.heap.size w w5) := by show Below _ _ _; rw [hw5.out]; exact (Below.setCell HB.out (p := ⟨v, 5, none⟩) hwv.out _)
    go_upto_region 7 with fail
    rw [← hw5.out]
    clear c5 f5 hw5
    go_wp2_with fail
    refine (refrbag_any b r2 _ HR.out hs2).mono ?_; rintro e w6 ⟨am, ab, ac, nl, kl, nb, kb, nc, kc, live, bs, cl, r3, rfl, hln, g0, g1, g2, fr0, fr1, fr2, hr, hd3, hs3, hk⟩
    have hv5 : v < w5.heap.size := Kv.out.lt
    have G0 := Lib.hid g0
    have G1 := Lib.hid g1
    have G2 := Lib.hid g2
    have D3 := Lib.hid hd3
    have HLN := Lib.hid hln
    have FR : Hid ((∀ a, am = some a → v < a.block) ∧ (∀ a, ab = some a → v < a.block) ∧ ∀ a, ac = some a → v < a.block) := ⟨fun a ha => by have := fr0 a ha; omega, fun a ha => by have := fr1 a ha; omega, fun a ha => by have := fr2 a ha; omega⟩
    have HT6 : Hid (Tri b v x w6 w6) := Tri.refl _ _ _ _
    clear g0 g1 g2 fr0 fr1 fr2 hd3 hln
    replace HR := Lib.hid hr
    replace Kx := Lib.hid (hk.blk Kx.out (by omega))
    replace Kv := Lib.hid (hk.blk Kv.out (by omega))
    replace HB := Lib.hid (HB.out.trans (hk.below hwb.out HB.out.size))
    clear hr hk
    have c6 : w6.cell? ⟨v, 6, none⟩ = some (.slice none 0 0) := Kv.out.cell 6
    have f6 : w6.frozen? ⟨v, 6, none⟩ = false := Kv.out.free 6
    have c7 : w6.cell? ⟨v, 7, none⟩ = some (.slice none 0 0) := Kv.out.cell 7
    have f7 : w6.frozen? ⟨v, 7, none⟩ = false := Kv.out.free 7
    have c8 : w6.cell? ⟨v, 8, none⟩ = some (.slice none 0 0) := Kv.out.cell 8
    have f8 : w6.frozen? ⟨v, 8, none⟩ = false := Kv.out.free 8
    obtain ⟨w7, hw7⟩ := nm (((w6.setCell ⟨v, 6, none⟩ (.slice am nl kl)).setCell ⟨v, 7, none⟩ (.slice ab nb kb)).setCell ⟨v, 8, none⟩ (.slice ac nc kc))
    replace Kx : Hid (Blk w7 x #[.int .i64 0, .int .i64 0, .int .i64 0, .int .i64 0, .int .i64 0, .string ⟨#[]⟩, .slice none 0 0, .slice none 0 0, .slice none 0 0, .slice none 0 0, .slice none 0 0, .int .i64 0, .int .i64 0, .int .i64 0, .int .i64 0] 35) := by show Blk _ _ _ _; rw [hw7.out]; exact (Blk.setOther (Blk.setOther (Blk.setOther Kx.out (by simp only; omega) _) (by simp only; omega) _) (by simp only; omega) _)
    replace HR : Hid (IsRr w7 b r3) := by show IsRr _ _ _; rw [hw7.out]; exact (Blk.setOther (Blk.setOther (Blk.setOther HR.out (by simp only; omega) _) (by simp only; omega) _) (by simp only; omega) _)
    replace Kv : Hid (Blk w7 v #[.int .i64 k, .int .i64 f, .int .i64 s, .int .i64 p, .int .i64 fl, .string mark, .slice am nl kl, .slice ab nb kb, .slice ac nc kc, .slice none 0 0, .slice none 0 0, .int .i64 d0, .int .i64 d1, .int .i64 rc, .int .i64 lg] 35) := by show Blk _ _ _ _; rw [hw7.out]; exact (Blk.set (Blk.set (Blk.set Kv.out 6 _) 7 _) 8 _)
    replace HB : Hid (Below w.heap.size w w7) := by show Below _ _ _; rw [hw7.out]; exact (Below.setCell (Below.setCell (Below.setCell HB.out (p := ⟨v, 6, none⟩) hwv.out _) (p := ⟨v, 7, none⟩) hwv.out _) (p := ⟨v, 8, none⟩) hwv.out _)
    replace HT6 : Hid (Tri b v x w6 w7) := by show Tri _ _ _ _ _; rw [hw7.out]; exact (Tri.set (Tri.set (Tri.set HT6.out (p := ⟨v, 6, none⟩) (.inr (.inl rfl)) _) (p := ⟨v, 7, none⟩) (.inr (.inl rfl)) _) (p := ⟨v, 8, none⟩) (.inr (.inl rfl)) _)
    go_upto_region 8 with fail
    rw [← hw7.out]
    clear c6 f6 c7 f7 c8 f8 hw7
    go_wp2_with fail
    refine (refrtag_any b r3 _ HR.out hs3).mono ?_; rintro e w8 ⟨ag, ng, kg, tags, r4, rfl, hln3, g3, fr3, hr, hd4, hs4, hk⟩
    have hv7 : v < w7.heap.size := Kv.out.lt
    have G3 := Lib.hid g3
    have D4 := Lib.hid hd4
    have HLN3 := Lib.hid hln3
    have FR3 : Hid (∀ a, ag = some a → v < a.block) := fun a ha => by have := fr3 a ha; omega
    have HT8 : Hid (Tri b v x w8 w8) := Tri.refl _ _ _ _
    clear g3 fr3 hd4 hln3
    replace HR := Lib.hid hr
    replace Kx := Lib.hid (hk.blk Kx.out (by omega))
    replace Kv := Lib.hid (hk.blk Kv.out (by omega))
    replace HB := Lib.hid (HB.out.trans (hk.below hwb.out HB.out.size))
    replace HT6 := Lib.hid (HT6.out.trans (Tri.ofKept hk))
    clear hr hk
    have c9 : w8.cell? ⟨v, 9, none⟩ = some (.slice none 0 0) := Kv.out.cell 9
    have f9 : w8.frozen? ⟨v, 9, none⟩ = false := Kv.out.free 9
    obtain ⟨w9, hw9⟩ := nm (w8.setCell ⟨v, 9, none⟩ (.slice ag ng kg))
    replace Kx : Hid (Blk w9 x #[.int .i64 0, .int .i64 0, .int .i64 0, .int .i64 0, .int .i64 0, .string ⟨#[]⟩, .slice none 0 0, .slice none 0 0, .slice none 0 0, .slice none 0 0, .slice none 0 0, .int .i64 0, .int .i64 0, .int .i64 0, .int .i64 0] 35) := by show Blk _ _ _ _; rw [hw9.out]; exact (Blk.setOther Kx.out (by simp only; omega) _)
    replace HR : Hid (IsRr w9 b r4) := by show IsRr _ _ _; rw [hw9.out]; exact (Blk.setOther HR.out (by simp only; omega) _)
    replace Kv : Hid (Blk w9 v #[.int .i64 k, .int .i64 f, .int .i64 s, .int .i64 p, .int .i64 fl, .string mark, .slice am nl kl, .slice ab nb kb, .slice ac nc kc, .slice ag ng kg, .slice none 0 0, .int .i64 d0, .int .i64 d1, .int .i64 rc, .int .i64 lg] 35) := by show Blk _ _ _ _; rw [hw9.out]; exact (Blk.set Kv.out 9 _)
    replace HB : Hid (Below w.heap.size w w9) := by show Below _ _ _; rw [hw9.out]; exact (Below.setCell HB.out (p := ⟨v, 9, none⟩) hwv.out _)
    replace HT6 : Hid (Tri b v x w6 w9) := by show Tri _ _ _ _ _; rw [hw9.out]; exact (Tri.set HT6.out (p := ⟨v, 9, none⟩) (.inr (.inl rfl)) _)
    replace HT8 : Hid (Tri b v x w8 w9) := by show Tri _ _ _ _ _; rw [hw9.out]; exact (Tri.set HT8.out (p := ⟨v, 9, none⟩) (.inr (.inl rfl)) _)
    go_upto_region 9 with fail
    rw [← hw9.out]
    clear c9 f9 hw9
    go_wp2_with fail
    refine (refrvw_any b r4 _ HR.out hs4).mono ?_; rintro e wa ⟨av, nv, kv, view, r5, rfl, hln4, g4, fr4, hr, hd5, hs5, hk⟩
    have hv9 : v < w9.heap.size := Kv.out.lt
    have G4 := Lib.hid g4
    have D5 := Lib.hid hd5
    have HLN4 := Lib.hid hln4
    have FR4 : Hid (∀ a, av = some a → v < a.block) := fun a ha => by have := fr4 a ha; omega
    have HTA : Hid (Tri b v x wa wa) := Tri.refl _ _ _ _
    clear g4 fr4 hd5 hln4
    replace HR := Lib.hid hr
    replace Kx := Lib.hid (hk.blk Kx.out (by omega))
    replace Kv := Lib.hid (hk.blk Kv.out (by omega))
    replace HB := Lib.hid (HB.out.trans (hk.below hwb.out HB.out.size))
    replace HT6 := Lib.hid (HT6.out.trans (Tri.ofKept hk))
    replace HT8 := Lib.hid (HT8.out.trans (Tri.ofKept hk))
    clear hr hk
    have c10 : wa.cell? ⟨v, 10, none⟩ = some (.slice none 0 0) := Kv.out.cell 10
    have f10 : wa.frozen? ⟨v, 10, none⟩ = false := Kv.out.free 10
    obtain ⟨wb, hwb⟩ := nm (wa.setCell ⟨v, 10, none⟩ (.slice av nv kv))
    replace Kx : Hid (Blk wb x #[.int .i64 0, .int .i64 0, .int .i64 0, .int .i64 0, .int .i64 0, .string ⟨#[]⟩, .slice none 0 0, .slice none 0 0, .slice none 0 0, .slice none 0 0, .slice none 0 0, .int .i64 0, .int .i64 0, .int .i64 0, .int .i64 0] 35) := by show Blk _ _ _ _; rw [hwb.out]; exact (Blk.setOther Kx.out (by simp only; omega) _)
    replace HR : Hid (IsRr wb b r5) := by show IsRr _ _ _; rw [hwb.out]; exact (Blk.setOther HR.out (by simp only; omega) _)
    replace Kv : Hid (Blk wb v #[.int .i64 k, .int .i64 f, .int .i64 s, .int .i64 p, .int .i64 fl, .string mark, .slice am nl kl, .slice ab nb kb, .slice ac nc kc, .slice ag ng kg, .slice av nv kv, .int .i64 d0, .int .i64 d1, .int .i64 rc, .int .i64 lg] 35) := by show Blk _ _ _ _; rw [hwb.out]; exact (Blk.set Kv.out 10 _)
    replace HB : Hid (Below w.heap.size w wb) := by show Below _ _ _; rw [hwb.out]; exact (Below.setCell HB.out (p := ⟨v, 10, none⟩) hwv.out _)
    replace HT6 : Hid (Tri b v x w6 wb) := by show Tri _ _ _ _ _; rw [hwb.out]; exact (Tri.set HT6.out (p := ⟨v, 10, none⟩) (.inr (.inl rfl)) _)
    replace HT8 : Hid (Tri b v x w8 wb) := by show Tri _ _ _ _ _; rw [hwb.out]; exact (Tri.set HT8.out (p := ⟨v, 10, none⟩) (.inr (.inl rfl)) _)
    replace HTA : Hid (Tri b v x wa wb) := by show Tri _ _ _ _ _; rw [hwb.out]; exact (Tri.set HTA.out (p := ⟨v, 10, none⟩) (.inr (.inl rfl)) _)
    go_upto_region 10 with fail
    rw [← hwb.out]
    clear c10 f10 hwb
    have hred : Red PW fW ⟨S, false⟩ r5 (WL.mk k f s p fl d0 d1 rc lg mark live bs cl tags view).t := by
      have e1 : Red NineR (rowL numZ) ⟨S, false⟩ r1 [k, f, s, p, fl, d0, d1, rc, lg] := by rw [← HZ.out]; exact D1.out
      exact e1.seq (D2.out.seq (D3.out.seq (D4.out.seq D5.out tells_tagsP) tells_bagR) (tells_tx (by decide))) tells_nine
    have RED := Lib.hid hred
    have LIES : Hid (r5.torn = false → ∀ w', Tri b v x wb w' → Lies w' am ab ac ag av nl nb nc ng nv live bs cl tags view) := by
      show _ → ∀ w', _
      intro ht w' h
      obtain ⟨_, hp, _⟩ := RED.out.is ht
      obtain ⟨f0, f1, f2⟩ := FR.out
      have f3 := FR3.out
      have f4 := FR4.out
      obtain ⟨l0, l1, l2⟩ := HLN.out
      have l3 := HLN3.out
      have l4 := HLN4.out
      obtain ⟨⟨b1, b2, b3⟩, _⟩ := hp.2.2.1
      have b4 := hp.2.2.2.1.many
      have b5 := hp.2.2.2.2.many
      simp only [WL.t] at b1 b2 b3 b4 b5
      have t6 := HT6.out.trans h
      have t8 := HT8.out.trans h
      have ta := HTA.out.trans h
      exact ⟨l0, l1, l2, l3, l4, by omega, by omega, by omega, by omega, by omega, G0.out.tri (fun a ha => by have := f0 a ha; exact ⟨by omega, by omega, by omega⟩) t6, G1.out.tri (fun a ha => by have := f1 a ha; exact ⟨by omega, by omega, by omega⟩) t6, G2.out.tri (fun a ha => by have := f2 a ha; exact ⟨by omega, by omega, by omega⟩) t6, G3.out.tri (fun a ha => by have := f3 a ha; exact ⟨by omega, by omega, by omega⟩) t8, G4.out.tri (fun a ha => by have := f4 a ha; exact ⟨by omega, by omega, by omega⟩) ta⟩
    have FRS : Hid (FreshW w.heap.size am ab ac ag av) := by
      show FreshW _ _ _ _ _ _
      obtain ⟨f0, f1, f2⟩ := FR.out
      have hh := hwv.out
      exact ⟨fun a ha => by have := f0 a ha; omega, fun a ha => by have := f1 a ha; omega, fun a ha => by have := f2 a ha; omega, fun a ha => by have := FR3.out a ha; omega, fun a ha => by have := FR4.out a ha; omega⟩
    clear hred D1 D2 D3 D4 D5 G0 G1 G2 G3 G4 HT6 HT8 HTA HLN HLN3 HLN4 FR FR3 FR4
    obtain ⟨F, hF⟩ := nm r5.fin
    have hfc : F = 10 ∨ (F = 0 ∧ r5.torn = false) := by
      rw [hF.out]
      unfold Rd.fin
      split
      · exact .inl rfl
      · rename_i hc
        refine .inr ⟨rfl, ?_⟩
        cases ht : r5.torn with
        | false => rfl
        | true => exact absurd (.inl ht) hc
    have hend := refrend_any b r5 wb HR.out
    rw [← hF.out] at hend
    have HEND := Lib.hid hend
    clear hend
    rcases hfc with rfl | ⟨rfl, htt⟩
    · have HNOT := Lib.hid (HW2.out (WL.mk k f s p fl d0 d1 rc lg mark live bs cl tags view) r5 RED.out (.inl hF.out.symm))
      go_wp2_with fail
      refine HEND.out.mono ?_; rintro e wc ⟨rfl, rfl⟩
      have hone : (#[.int .i64 0, .int .i64 0, .int .i64 0, .int .i64 0, .int .i64 0, .string ⟨#[]⟩, .slice none 0 0, .slice none 0 0, .slice none 0 0, .slice none 0 0, .slice none 0 0, .int .i64 0, .int .i64 0, .int .i64 0, .int .i64 0] : Array Value).all (·.oneCell') = true := by simp [Value.oneCell']
      go_wp2_with (refine wpList_store_row rfl 35 _ _ rfl x #[.int .i64 0, .int .i64 0, .int .i64 0, .int .i64 0, .int .i64 0, .string ⟨#[]⟩, .slice none 0 0, .slice none 0 0, .slice none 0 0, .slice none 0 0, .slice none 0 0, .int .i64 0, .int .i64 0, .int .i64 0, .int .i64 0] rfl rfl 35 #[.int .i64 0, .int .i64 0, .int .i64 0, .int .i64 0, .int .i64 0, .string ⟨#[]⟩, .slice none 0 0, .slice none 0 0, .slice none 0 0, .slice none 0 0, .slice none 0 0, .int .i64 0, .int .i64 0, .int .i64 0, .int .i64 0] Kx.out infoWire rfl hone ?_)
      obtain ⟨wz, hwz⟩ := nm (wb.setRow x #[.int .i64 0, .int .i64 0, .int .i64 0, .int .i64 0, .int .i64 0, .string ⟨#[]⟩, .slice none 0 0, .slice none 0 0, .slice none 0 0, .slice none 0 0, .slice none 0 0, .int .i64 0, .int .i64 0, .int .i64 0, .int .i64 0])
      rw [← hwz.out]
      have Kz : Blk wz x #[.int .i64 0, .int .i64 0, .int .i64 0, .int .i64 0, .int .i64 0, .string ⟨#[]⟩, .slice none 0 0, .slice none 0 0, .slice none 0 0, .slice none 0 0, .slice none 0 0, .int .i64 0, .int .i64 0, .int .i64 0, .int .i64 0] 35 := by rw [hwz.out]; exact setRow_heap wb x _ _ _ _ Kx.out
      have HBz : Below w.heap.size w wz := by rw [hwz.out]; exact below_setRow HB.out hxw.out _
      have r0 : wz.cell? ⟨x, 0, none⟩ = some (.int .i64 0) := Kz.cell 0
      have r1 : wz.cell? ⟨x, 1, none⟩ = some (.int .i64 0) := Kz.cell 1
      have r2 : wz.cell? ⟨x, 2, none⟩ = some (.int .i64 0) := Kz.cell 2
      have r3 : wz.cell? ⟨x, 3, none⟩ = some (.int .i64 0) := Kz.cell 3
      have r4 : wz.cell? ⟨x, 4, none⟩ = some (.int .i64 0) := Kz.cell 4
      have r5 : wz.cell? ⟨x, 5, none⟩ = some (.string ⟨#[]⟩) := Kz.cell 5
      have r6 : wz.cell? ⟨x, 6, none⟩ = some (.slice none 0 0) := Kz.cell 6
      have r7 : wz.cell? ⟨x, 7, none⟩ = some (.slice none 0 0) := Kz.cell 7
      have r8 : wz.cell? ⟨x, 8, none⟩ = some (.slice none 0 0) := Kz.cell 8
      have r9 : wz.cell? ⟨x, 9, none⟩ = some (.slice none 0 0) := Kz.cell 9
      have r10 : wz.cell? ⟨x, 10, none⟩ = some (.slice none 0 0) := Kz.cell 10
      have r11 : wz.cell? ⟨x, 11, none⟩ = some (.int .i64 0) := Kz.cell 11
      have r12 : wz.cell? ⟨x, 12, none⟩ = some (.int .i64 0) := Kz.cell 12
      have r13 : wz.cell? ⟨x, 13, none⟩ = some (.int .i64 0) := Kz.cell 13
      have r14 : wz.cell? ⟨x, 14, none⟩ = some (.int .i64 0) := Kz.cell 14
      refine bodyPost_ret (v := .tuple #[.agg #[.int .i64 0, .int .i64 0, .int .i64 0, .int .i64 0, .int .i64 0, .string ⟨#[]⟩, .slice none 0 0, .slice none 0 0, .slice none 0 0, .slice none 0 0, .slice none 0 0, .int .i64 0, .int .i64 0, .int .i64 0, .int .i64 0], .int .i64 10]) (by simp [results, Tryz.results7, go_sem, r0, r1, r2, r3, r4, r5, r6, r7, r8, r9, r10, r11, r12, r13, r14]) rfl ?_
      exact HRB.out _ HNOT.out HBz
    have LIE := Lib.hid (LIES.out htt)
    obtain ⟨B, hB, hBf, hBt⟩ := boolOf (WL.mk k f s p fl d0 d1 rc lg mark live bs cl tags view).May
    obtain ⟨E, hE⟩ := nm (errno B)
    have hck := refwcheck_any k f s p fl d0 d1 rc lg mark am ab ac ag av nl kl nb kb nc kc ng kg nv kv live bs cl tags view B hB E hE wb (LIE.out wb (Tri.refl _ _ _ _))
    have HCK := Lib.hid hck
    clear hck LIES
    have c0 : wb.cell? ⟨v, 0, none⟩ = some (.int .i64 k) := Kv.out.cell 0
    have c1 : wb.cell? ⟨v, 1, none⟩ = some (.int .i64 f) := Kv.out.cell 1
    have c2 : wb.cell? ⟨v, 2, none⟩ = some (.int .i64 s) := Kv.out.cell 2
    have c3 : wb.cell? ⟨v, 3, none⟩ = some (.int .i64 p) := Kv.out.cell 3
    have c4 : wb.cell? ⟨v, 4, none⟩ = some (.int .i64 fl) := Kv.out.cell 4
    have c5 : wb.cell? ⟨v, 5, none⟩ = some (.string mark) := Kv.out.cell 5
    have c6 : wb.cell? ⟨v, 6, none⟩ = some (.slice am nl kl) := Kv.out.cell 6
    have c7 : wb.cell? ⟨v, 7, none⟩ = some (.slice ab nb kb) := Kv.out.cell 7
    have c8 : wb.cell? ⟨v, 8, none⟩ = some (.slice ac nc kc) := Kv.out.cell 8
    have c9 : wb.cell? ⟨v, 9, none⟩ = some (.slice ag ng kg) := Kv.out.cell 9
    have c10 : wb.cell? ⟨v, 10, none⟩ = some (.slice av nv kv) := Kv.out.cell 10
    have c11 : wb.cell? ⟨v, 11, none⟩ = some (.int .i64 d0) := Kv.out.cell 11
    have c12 : wb.cell? ⟨v, 12, none⟩ = some (.int .i64 d1) := Kv.out.cell 12
    have c13 : wb.cell? ⟨v, 13, none⟩ = some (.int .i64 rc) := Kv.out.cell 13
    have c14 : wb.cell? ⟨v, 14, none⟩ = some (.int .i64 lg) := Kv.out.cell 14
    go_wp2_with fail
    refine HEND.out.mono ?_; rintro e wc ⟨rfl, rfl⟩
    go_wp2_with fail
    refine HCK.out.mono ?_; rintro e wd ⟨rfl, hBd⟩
    have hxr := Kx.out.lt
    have hvr := Kv.out.lt
    replace Kx := Lib.hid (Kx.out.below hBd hxr)
    replace Kv := Lib.hid (Kv.out.below hBd hvr)
    replace HB := Lib.hid (bNext HB.out hBd)
    have HTD : Hid (Tri b v x wb wd) := Tri.ofBelow hBd
    clear hBd c0 c1 c2 c3 c4 c5 c6 c7 c8 c9 c10 c11 c12 c13 c14 hxr hvr HEND HCK
    have hE2 := hE.out
    cases B
    · obtain rfl : E = 1 := hE2
      have HNOT := Lib.hid (HW2.out (WL.mk k f s p fl d0 d1 rc lg mark live bs cl tags view) r5 RED.out (.inr (hBf.out (by first | exact rfl | exact trivial))))
      have hone : (#[.int .i64 0, .int .i64 0, .int .i64 0, .int .i64 0, .int .i64 0, .string ⟨#[]⟩, .slice none 0 0, .slice none 0 0, .slice none 0 0, .slice none 0 0, .slice none 0 0, .int .i64 0, .int .i64 0, .int .i64 0, .int .i64 0] : Array Value).all (·.oneCell') = true := by simp [Value.oneCell']
      go_wp2_with (refine wpList_store_row rfl 35 _ _ rfl x #[.int .i64 0, .int .i64 0, .int .i64 0, .int .i64 0, .int .i64 0, .string ⟨#[]⟩, .slice none 0 0, .slice none 0 0, .slice none 0 0, .slice none 0 0, .slice none 0 0, .int .i64 0, .int .i64 0, .int .i64 0, .int .i64 0] rfl rfl 35 #[.int .i64 0, .int .i64 0, .int .i64 0, .int .i64 0, .int .i64 0, .string ⟨#[]⟩, .slice none 0 0, .slice none 0 0, .slice none 0 0, .slice none 0 0, .slice none 0 0, .int .i64 0, .int .i64 0, .int .i64 0, .int .i64 0] Kx.out infoWire rfl hone ?_)
      obtain ⟨wz, hwz⟩ := nm (wd.setRow x #[.int .i64 0, .int .i64 0, .int .i64 0, .int .i64 0, .int .i64 0, .string ⟨#[]⟩, .slice none 0 0, .slice none 0 0, .slice none 0 0, .slice none 0 0, .slice none 0 0, .int .i64 0, .int .i64 0, .int .i64 0, .int .i64 0])
      rw [← hwz.out]
      have Kz : Blk wz x #[.int .i64 0, .int .i64 0, .int .i64 0, .int .i64 0, .int .i64 0, .string ⟨#[]⟩, .slice none 0 0, .slice none 0 0, .slice none 0 0, .slice none 0 0, .slice none 0 0, .int .i64 0, .int .i64 0, .int .i64 0, .int .i64 0] 35 := by rw [hwz.out]; exact setRow_heap wd x _ _ _ _ Kx.out
      have HBz : Below w.heap.size w wz := by rw [hwz.out]; exact below_setRow HB.out hxw.out _
      have r0 : wz.cell? ⟨x, 0, none⟩ = some (.int .i64 0) := Kz.cell 0
      have r1 : wz.cell? ⟨x, 1, none⟩ = some (.int .i64 0) := Kz.cell 1
      have r2 : wz.cell? ⟨x, 2, none⟩ = some (.int .i64 0) := Kz.cell 2
      have r3 : wz.cell? ⟨x, 3, none⟩ = some (.int .i64 0) := Kz.cell 3
      have r4 : wz.cell? ⟨x, 4, none⟩ = some (.int .i64 0) := Kz.cell 4
      have r5 : wz.cell? ⟨x, 5, none⟩ = some (.string ⟨#[]⟩) := Kz.cell 5
      have r6 : wz.cell? ⟨x, 6, none⟩ = some (.slice none 0 0) := Kz.cell 6
      have r7 : wz.cell? ⟨x, 7, none⟩ = some (.slice none 0 0) := Kz.cell 7
      have r8 : wz.cell? ⟨x, 8, none⟩ = some (.slice none 0 0) := Kz.cell 8
      have r9 : wz.cell? ⟨x, 9, none⟩ = some (.slice none 0 0) := Kz.cell 9
      have r10 : wz.cell? ⟨x, 10, none⟩ = some (.slice none 0 0) := Kz.cell 10
      have r11 : wz.cell? ⟨x, 11, none⟩ = some (.int .i64 0) := Kz.cell 11
      have r12 : wz.cell? ⟨x, 12, none⟩ = some (.int .i64 0) := Kz.cell 12
      have r13 : wz.cell? ⟨x, 13, none⟩ = some (.int .i64 0) := Kz.cell 13
      have r14 : wz.cell? ⟨x, 14, none⟩ = some (.int .i64 0) := Kz.cell 14
      refine bodyPost_ret (v := .tuple #[.agg #[.int .i64 0, .int .i64 0, .int .i64 0, .int .i64 0, .int .i64 0, .string ⟨#[]⟩, .slice none 0 0, .slice none 0 0, .slice none 0 0, .slice none 0 0, .slice none 0 0, .int .i64 0, .int .i64 0, .int .i64 0, .int .i64 0], .int .i64 10]) (by simp [results, Tryz.results7, go_sem, r0, r1, r2, r3, r4, r5, r6, r7, r8, r9, r10, r11, r12, r13, r14]) rfl ?_
      exact HRB.out _ HNOT.out HBz
    · obtain rfl : E = 0 := hE2
      have HSAID := Lib.hid (HW1.out (WL.mk k f s p fl d0 d1 rc lg mark live bs cl tags view) r5 RED.out HS8.out hF.out.symm (hBt.out (by first | exact rfl | exact trivial)))
      have c0 : wd.cell? ⟨v, 0, none⟩ = some (.int .i64 k) := Kv.out.cell 0
      have c1 : wd.cell? ⟨v, 1, none⟩ = some (.int .i64 f) := Kv.out.cell 1
      have c2 : wd.cell? ⟨v, 2, none⟩ = some (.int .i64 s) := Kv.out.cell 2
      have c3 : wd.cell? ⟨v, 3, none⟩ = some (.int .i64 p) := Kv.out.cell 3
      have c4 : wd.cell? ⟨v, 4, none⟩ = some (.int .i64 fl) := Kv.out.cell 4
      have c5 : wd.cell? ⟨v, 5, none⟩ = some (.string mark) := Kv.out.cell 5
      have c6 : wd.cell? ⟨v, 6, none⟩ = some (.slice am nl kl) := Kv.out.cell 6
      have c7 : wd.cell? ⟨v, 7, none⟩ = some (.slice ab nb kb) := Kv.out.cell 7
      have c8 : wd.cell? ⟨v, 8, none⟩ = some (.slice ac nc kc) := Kv.out.cell 8
      have c9 : wd.cell? ⟨v, 9, none⟩ = some (.slice ag ng kg) := Kv.out.cell 9
      have c10 : wd.cell? ⟨v, 10, none⟩ = some (.slice av nv kv) := Kv.out.cell 10
      have c11 : wd.cell? ⟨v, 11, none⟩ = some (.int .i64 d0) := Kv.out.cell 11
      have c12 : wd.cell? ⟨v, 12, none⟩ = some (.int .i64 d1) := Kv.out.cell 12
      have c13 : wd.cell? ⟨v, 13, none⟩ = some (.int .i64 rc) := Kv.out.cell 13
      have c14 : wd.cell? ⟨v, 14, none⟩ = some (.int .i64 lg) := Kv.out.cell 14
      have hone : (#[.int .i64 k, .int .i64 f, .int .i64 s, .int .i64 p, .int .i64 fl, .string mark, .slice am nl kl, .slice ab nb kb, .slice ac nc kc, .slice ag ng kg, .slice av nv kv, .int .i64 d0, .int .i64 d1, .int .i64 rc, .int .i64 lg] : Array Value).all (·.oneCell') = true := by simp [Value.oneCell']
      go_wp2_with (refine wpList_store_row rfl 35 _ _ rfl x #[.int .i64 k, .int .i64 f, .int .i64 s, .int .i64 p, .int .i64 fl, .string mark, .slice am nl kl, .slice ab nb kb, .slice ac nc kc, .slice ag ng kg, .slice av nv kv, .int .i64 d0, .int .i64 d1, .int .i64 rc, .int .i64 lg] rfl rfl 35 #[.int .i64 0, .int .i64 0, .int .i64 0, .int .i64 0, .int .i64 0, .string ⟨#[]⟩, .slice none 0 0, .slice none 0 0, .slice none 0 0, .slice none 0 0, .slice none 0 0, .int .i64 0, .int .i64 0, .int .i64 0, .int .i64 0] Kx.out infoWire rfl hone ?_)
      obtain ⟨wz, hwz⟩ := nm (wd.setRow x #[.int .i64 k, .int .i64 f, .int .i64 s, .int .i64 p, .int .i64 fl, .string mark, .slice am nl kl, .slice ab nb kb, .slice ac nc kc, .slice ag ng kg, .slice av nv kv, .int .i64 d0, .int .i64 d1, .int .i64 rc, .int .i64 lg])
      rw [← hwz.out]
      have Kz : Blk wz x #[.int .i64 k, .int .i64 f, .int .i64 s, .int .i64 p, .int .i64 fl, .string mark, .slice am nl kl, .slice ab nb kb, .slice ac nc kc, .slice ag ng kg, .slice av nv kv, .int .i64 d0, .int .i64 d1, .int .i64 rc, .int .i64 lg] 35 := by rw [hwz.out]; exact setRow_heap wd x _ _ _ _ Kx.out
      have HBz : Below w.heap.size w wz := by rw [hwz.out]; exact below_setRow HB.out hxw.out _
      have r0 : wz.cell? ⟨x, 0, none⟩ = some (.int .i64 k) := Kz.cell 0
      have r1 : wz.cell? ⟨x, 1, none⟩ = some (.int .i64 f) := Kz.cell 1
      have r2 : wz.cell? ⟨x, 2, none⟩ = some (.int .i64 s) := Kz.cell 2
      have r3 : wz.cell? ⟨x, 3, none⟩ = some (.int .i64 p) := Kz.cell 3
      have r4 : wz.cell? ⟨x, 4, none⟩ = some (.int .i64 fl) := Kz.cell 4
      have r5 : wz.cell? ⟨x, 5, none⟩ = some (.string mark) := Kz.cell 5
      have r6 : wz.cell? ⟨x, 6, none⟩ = some (.slice am nl kl) := Kz.cell 6
      have r7 : wz.cell? ⟨x, 7, none⟩ = some (.slice ab nb kb) := Kz.cell 7
      have r8 : wz.cell? ⟨x, 8, none⟩ = some (.slice ac nc kc) := Kz.cell 8
      have r9 : wz.cell? ⟨x, 9, none⟩ = some (.slice ag ng kg) := Kz.cell 9
      have r10 : wz.cell? ⟨x, 10, none⟩ = some (.slice av nv kv) := Kz.cell 10
      have r11 : wz.cell? ⟨x, 11, none⟩ = some (.int .i64 d0) := Kz.cell 11
      have r12 : wz.cell? ⟨x, 12, none⟩ = some (.int .i64 d1) := Kz.cell 12
      have r13 : wz.cell? ⟨x, 13, none⟩ = some (.int .i64 rc) := Kz.cell 13
      have r14 : wz.cell? ⟨x, 14, none⟩ = some (.int .i64 lg) := Kz.cell 14
      refine bodyPost_ret (v := .tuple #[.agg #[.int .i64 k, .int .i64 f, .int .i64 s, .int .i64 p, .int .i64 fl, .string mark, .slice am nl kl, .slice ab nb kb, .slice ac nc kc, .slice ag ng kg, .slice av nv kv, .int .i64 d0, .int .i64 d1, .int .i64 rc, .int .i64 lg], .int .i64 0]) (by simp [results, Tryz.results7, go_sem, r0, r1, r2, r3, r4, r5, r6, r7, r8, r9, r10, r11, r12, r13, r14]) rfl ?_
      have htz : Tri b v x wd wz := by rw [hwz.out]; exact ⟨by simp [World.setRow], fun i _ _ _ h3 => setRow_other _ _ _ _ h3⟩
      exact ⟨k, f, s, p, fl, d0, d1, rc, lg, mark, am, ab, ac, ag, av, nl, kl, nb, kb, nc, kc, ng, kg, nv, kv, live, bs, cl, tags, view, 0, rfl, LIE.out _ (HTD.out.trans htz), FRS.out, .inl ⟨rfl, HSAID.out⟩, HBz⟩
end Go.Proofs.YtfpjdmplepepjaaGreat
