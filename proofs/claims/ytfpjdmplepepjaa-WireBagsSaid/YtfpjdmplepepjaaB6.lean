/- Wire's Read, of any bytes: what they say, or nothing. (and what stands on it: 3 texts in one) -/
import Derived.Test.YtfpjdmplepepjaaB5
/-! WReadW: Wire's Read, of any bytes: what they say, or nothing. -/
namespace Go.Proofs.Ytfpjdmplepepjaa
open Go.RowKit

/-- The rows lie at B or above. -/
structure FreshW (B : Nat) (am ab ac ag av : Option Addr) : Prop where
  f0 : ∀ a, am = some a → B ≤ a.block
  f1 : ∀ a, ab = some a → B ≤ a.block
  f2 : ∀ a, ac = some a → B ≤ a.block
  f3 : ∀ a, ag = some a → B ≤ a.block
  f4 : ∀ a, av = some a → B ≤ a.block
def WL.zero : WL := ⟨0, 0, 0, 0, 0, 0, 0, 0, 0, ⟨#[]⟩, [], [], [], [], []⟩
/-- What reading tells: m, or nothing. -/
def Heard (S : ByteArray) (m : WL) (E : Int) : Prop := E = 0 ∧ SaidBy S m ∨ E = 10 ∧ m = WL.zero ∧ ∀ m', ¬ SaidBy S m'
def ReadTells (S : ByteArray) (w : World) (e : Ending) (w' : World) : Prop :=
  ∃ (k f s p fl d0 d1 rc lg : Int) (mark : ByteArray) (am ab ac ag av : Option Addr) (nl kl nb kb nc kc ng kg nv kv : Nat) (live : List Msg5) (bs cl : List Dot2) (tags : List Tag2) (view : List Peer3) (E : Int), e = .returned (.tuple #[.agg #[.int .i64 k, .int .i64 f, .int .i64 s, .int .i64 p, .int .i64 fl, .string mark, .slice am nl kl, .slice ab nb kb, .slice ac nc kc, .slice ag ng kg, .slice av nv kv, .int .i64 d0, .int .i64 d1, .int .i64 rc, .int .i64 lg], .int .i64 E]) ∧ Lies w' am ab ac ag av nl nb nc ng nv live bs cl tags view ∧ FreshW w.heap.size am ab ac ag av ∧ Heard S (WL.mk k f s p fl d0 d1 rc lg mark live bs cl tags view) E ∧ Below w.heap.size w w'
theorem Lies.none (w : World) : Lies w none none none none none 0 0 0 0 0 [] [] [] [] [] :=
  ⟨rfl, rfl, rfl, rfl, rfl, by decide, by decide, by decide, by decide, by decide, SlE.nil _ _ _ _, SlP.nil _ _, SlP.nil _ _, SlE.nil _ _ _ _, SlE.nil _ _ _ _⟩
theorem FreshW.none (B : Nat) : FreshW B none none none none none :=
  ⟨fun _ h => (by cases h), fun _ h => (by cases h), fun _ h => (by cases h), fun _ h => (by cases h), fun _ h => (by cases h)⟩
theorem ReadTells.bad {S : ByteArray} {w w' : World} (h : ∀ m', ¬ SaidBy S m') (hb : Below w.heap.size w w') : ReadTells S w (.returned (.tuple #[.agg #[.int .i64 0, .int .i64 0, .int .i64 0, .int .i64 0, .int .i64 0, .string ⟨#[]⟩, .slice none 0 0, .slice none 0 0, .slice none 0 0, .slice none 0 0, .slice none 0 0, .int .i64 0, .int .i64 0, .int .i64 0, .int .i64 0], .int .i64 10])) w' :=
  ⟨0, 0, 0, 0, 0, 0, 0, 0, 0, ⟨#[]⟩, none, none, none, none, none, 0, 0, 0, 0, 0, 0, 0, 0, 0, 0, [], [], [], [], [], 10, rfl, Lies.none _, FreshW.none _, .inr ⟨rfl, rfl, h⟩, hb⟩
theorem list9 (l : List Int) (h : l.length = 9) : ∃ a b c d e f g i j, l = [a, b, c, d, e, f, g, i, j] := by
  match l, h with
  | [a, b, c, d, e, f, g, i, j], _ => exact ⟨a, b, c, d, e, f, g, i, j, rfl⟩
set_option maxRecDepth 100000 in
set_option maxHeartbeats 16000000 in
theorem wread_any (S : ByteArray) (w : World) (hS : S.size ≤ 1000000) : Calls Try.prog 14 #[.string S] w (ReadTells S w) := by
  obtain ⟨w0, hw0⟩ := nm (w.alloc (.cells #[.int .i64 0, .int .i64 0, .int .i64 0, .int .i64 0, .int .i64 0, .string ⟨#[]⟩, .slice none 0 0, .slice none 0 0, .slice none 0 0, .slice none 0 0, .slice none 0 0, .int .i64 0, .int .i64 0, .int .i64 0, .int .i64 0] 33))
  obtain ⟨x, hx⟩ := nm w.heap.size
  have Kx : Hid (Blk w0 x #[.int .i64 0, .int .i64 0, .int .i64 0, .int .i64 0, .int .i64 0, .string ⟨#[]⟩, .slice none 0 0, .slice none 0 0, .slice none 0 0, .slice none 0 0, .slice none 0 0, .int .i64 0, .int .i64 0, .int .i64 0, .int .i64 0] 33) := by show Blk _ _ _ _; rw [hw0.out, hx.out]; exact Blk.new _ _ _
  have HB : Hid (Below w.heap.size w w0) := by show Below _ _ _; rw [hw0.out]; exact bOld _
  have hxw : Hid (w.heap.size ≤ x) := by show _ ≤ _; rw [hx.out]; exact Nat.le_refl _
  have HW1 : Hid (∀ (m : WL) (r : Rd), Red PW fW ⟨S, false⟩ r m.t → S.size ≤ 8000 → r.fin = 0 → m.May → SaidBy S m) := fun m r => read_said
  have HW2 : Hid (∀ (m : WL) (r : Rd), Red PW fW ⟨S, false⟩ r m.t → (r.fin = 10 ∨ ¬ m.May) → ∀ m', ¬ SaidBy S m') := fun m r => read_not
  have HW3 : Hid ((∀ y t, (Rd.mk S false).torn = false → NineR y → bl (Rd.mk S false).left ≠ rowL numZ y ++ t) → ∀ m', ¬ SaidBy S m') := nine_not
  have HW4 : Hid (8000 < S.size → ∀ m', ¬ SaidBy S m') := long_not
  have HRB : Hid (∀ w', (∀ m', ¬ SaidBy S m') → Below w.heap.size w w' → ReadTells S w (.returned (.tuple #[.agg #[.int .i64 0, .int .i64 0, .int .i64 0, .int .i64 0, .int .i64 0, .string ⟨#[]⟩, .slice none 0 0, .slice none 0 0, .slice none 0 0, .slice none 0 0, .slice none 0 0, .int .i64 0, .int .i64 0, .int .i64 0, .int .i64 0], .int .i64 10])) w') := fun w' h hb => ReadTells.bad h hb
  obtain ⟨b, hb⟩ := nm w0.heap.size
  have hxb : x < b := by rw [hb.out]; exact Kx.out.lt
  have hrd := read_any S w0
  rw [← hb.out] at hrd
  have HRD := Lib.hid hrd
  clear hrd
  by_cases hlen : 8000 < S.size
  · have HNOT := Lib.hid (HW4.out hlen)
    have hdl : decide ((8000 : Int) < (S.size : Int)) = true := decide_eq_true (by omega)
    go_enter Try.func14, Try.ntmps14
    go_upto_region 1 with fail
    rw [← hw0.out, ← hx.out]
    have hone : (#[.int .i64 0, .int .i64 0, .int .i64 0, .int .i64 0, .int .i64 0, .string ⟨#[]⟩, .slice none 0 0, .slice none 0 0, .slice none 0 0, .slice none 0 0, .slice none 0 0, .int .i64 0, .int .i64 0, .int .i64 0, .int .i64 0] : Array Value).all (·.oneCell') = true := by simp [Value.oneCell']
    go_wp2_with (refine wpList_store_row rfl 33 _ _ rfl x #[.int .i64 0, .int .i64 0, .int .i64 0, .int .i64 0, .int .i64 0, .string ⟨#[]⟩, .slice none 0 0, .slice none 0 0, .slice none 0 0, .slice none 0 0, .slice none 0 0, .int .i64 0, .int .i64 0, .int .i64 0, .int .i64 0] rfl rfl 33 #[.int .i64 0, .int .i64 0, .int .i64 0, .int .i64 0, .int .i64 0, .string ⟨#[]⟩, .slice none 0 0, .slice none 0 0, .slice none 0 0, .slice none 0 0, .slice none 0 0, .int .i64 0, .int .i64 0, .int .i64 0, .int .i64 0] Kx.out infoWire rfl hone ?_)
    obtain ⟨wz, hwz⟩ := nm (w0.setRow x #[.int .i64 0, .int .i64 0, .int .i64 0, .int .i64 0, .int .i64 0, .string ⟨#[]⟩, .slice none 0 0, .slice none 0 0, .slice none 0 0, .slice none 0 0, .slice none 0 0, .int .i64 0, .int .i64 0, .int .i64 0, .int .i64 0])
    rw [← hwz.out]
    have Kz : Blk wz x #[.int .i64 0, .int .i64 0, .int .i64 0, .int .i64 0, .int .i64 0, .string ⟨#[]⟩, .slice none 0 0, .slice none 0 0, .slice none 0 0, .slice none 0 0, .slice none 0 0, .int .i64 0, .int .i64 0, .int .i64 0, .int .i64 0] 33 := by rw [hwz.out]; exact setRow_heap w0 x _ _ _ _ Kx.out
    have HBz : Below w.heap.size w wz := by rw [hwz.out]; exact below_setRow HB.out hxw.out _
    have r0 : wz.cell? ⟨x, 0, none⟩ = some (.int .i64 0) := Kz.cell 0
    have r1 : wz.cell? ⟨x, 1, none⟩ = some (.int .i64 0) := Kz.cell 1
    have r2 : wz.cell? ⟨x, 2, none⟩ = some (.int .i64 0) := Kz.cell 2
    have r3 : wz.cell? ⟨x, 3, none⟩ = some (.int .i64 0) := Kz.cell 3
    have r4 : wz.cell? ⟨x, 4, none⟩ = some (.int .i64 0) := Kz.cell 4
    have r5 : wz.cell? ⟨x, 5, none⟩ = some (.string ⟨#[]⟩) := Kz.cell 5
    have r6 : wz.cell? ⟨x, 6, none⟩ = some (.slice none 0 0) := Kz.cell 6
    have r7 : wz.cell? ⟨x, 7, none⟩ = some (.slice none 0 0) := Kz.cell 7
    have r8 : wz.cell? ⟨x, 8, none⟩ = some (.slice none 0 0) := Kz.cell 8
    have r9 : wz.cell? ⟨x, 9, none⟩ = some (.slice none 0 0) := Kz.cell 9
    have r10 : wz.cell? ⟨x, 10, none⟩ = some (.slice none 0 0) := Kz.cell 10
    have r11 : wz.cell? ⟨x, 11, none⟩ = some (.int .i64 0) := Kz.cell 11
    have r12 : wz.cell? ⟨x, 12, none⟩ = some (.int .i64 0) := Kz.cell 12
    have r13 : wz.cell? ⟨x, 13, none⟩ = some (.int .i64 0) := Kz.cell 13
    have r14 : wz.cell? ⟨x, 14, none⟩ = some (.int .i64 0) := Kz.cell 14
    refine bodyPost_ret (v := .tuple #[.agg #[.int .i64 0, .int .i64 0, .int .i64 0, .int .i64 0, .int .i64 0, .string ⟨#[]⟩, .slice none 0 0, .slice none 0 0, .slice none 0 0, .slice none 0 0, .slice none 0 0, .int .i64 0, .int .i64 0, .int .i64 0, .int .i64 0], .int .i64 10]) (by simp [results, Try.results14, go_sem, r0, r1, r2, r3, r4, r5, r6, r7, r8, r9, r10, r11, r12, r13, r14]) rfl ?_
    exact HRB.out _ HNOT.out HBz
  have hdl : decide ((8000 : Int) < (S.size : Int)) = false := decide_eq_false (by omega)
  have HS8 : Hid (S.size ≤ 8000) := by show _ ≤ _; omega
  go_enter Try.func14, Try.ntmps14
  go_upto_region 1 with fail
  rw [← hw0.out, ← hx.out]
  go_wp2_with fail
  refine HRD.out.mono ?_; rintro e w1 ⟨rfl, hw1⟩
  have HR : Hid (IsRd w1 b ⟨S, false⟩) := by show IsRd _ _ _; rw [hw1, hb.out]; exact Blk.new _ _ _
  replace Kx : Hid (Blk w1 x #[.int .i64 0, .int .i64 0, .int .i64 0, .int .i64 0, .int .i64 0, .string ⟨#[]⟩, .slice none 0 0, .slice none 0 0, .slice none 0 0, .slice none 0 0, .slice none 0 0, .int .i64 0, .int .i64 0, .int .i64 0, .int .i64 0] 33) := by show Blk _ _ _ _; rw [hw1]; exact Kx.out.alloc _
  replace HB : Hid (Below w.heap.size w w1) := by show Below _ _ _; rw [hw1]; exact bNew HB.out _
  have hwb : Hid (w.heap.size ≤ b) := by show _ ≤ _; rw [← hx.out]; omega
  obtain ⟨n1, n2⟩ := nums_red ⟨S, false⟩
  have hz1 := (Rd.mk S false).nums_sz 9 1099511627776
  have hnm := rnums_any b ⟨S, false⟩ 9 1099511627776 w1 HR.out (by simp only; omega) (by decide) (by decide)
  obtain ⟨r1, hr1⟩ := nm ((Rd.mk S false).nums 9 1099511627776).1
  obtain ⟨zs, hzs⟩ := nm ((Rd.mk S false).nums 9 1099511627776).2
  rw [← hr1.out, ← hzs.out] at hnm
  rw [← hzs.out] at n1 n2
  rw [← hr1.out] at n1 hz1
  have HN1 := Lib.hid n1
  have HN2 := Lib.hid n2
  have hs1 : r1.left.size ≤ 1000000 := by simp only at hz1; omega
  have HNM := Lib.hid hnm
  clear hw1 hnm n1 n2 hz1
  go_wp2_with fail
  refine HNM.out.mono ?_; rintro e w2 ⟨ao, cap, rfl, hcap, hsl, h2, hk⟩
  replace HR := Lib.hid h2
  replace Kx := Lib.hid (hk.blk Kx.out (by omega))
  replace HB := Lib.hid (HB.out.trans (hk.below hwb.out HB.out.size))
  by_cases hz9 : zs.length = 9
  rotate_left
  · have HNOT := Lib.hid (HW3.out (HN2.out hz9))
    obtain ⟨L9, hL9⟩ := nm zs.length
    rw [← hL9.out]
    have hne : ((L9 : Int) == 9) = false := by
      have : L9 ≠ 9 := by rw [hL9.out]; exact hz9
      simp; omega
    clear hsl hcap hz9 hk h2
    have hone : (#[.int .i64 0, .int .i64 0, .int .i64 0, .int .i64 0, .int .i64 0, .string ⟨#[]⟩, .slice none 0 0, .slice none 0 0, .slice none 0 0, .slice none 0 0, .slice none 0 0, .int .i64 0, .int .i64 0, .int .i64 0, .int .i64 0] : Array Value).all (·.oneCell') = true := by simp [Value.oneCell']
    go_wp2_with (refine wpList_store_row rfl 33 _ _ rfl x #[.int .i64 0, .int .i64 0, .int .i64 0, .int .i64 0, .int .i64 0, .string ⟨#[]⟩, .slice none 0 0, .slice none 0 0, .slice none 0 0, .slice none 0 0, .slice none 0 0, .int .i64 0, .int .i64 0, .int .i64 0, .int .i64 0] rfl rfl 33 #[.int .i64 0, .int .i64 0, .int .i64 0, .int .i64 0, .int .i64 0, .string ⟨#[]⟩, .slice none 0 0, .slice none 0 0, .slice none 0 0, .slice none 0 0, .slice none 0 0, .int .i64 0, .int .i64 0, .int .i64 0, .int .i64 0] Kx.out infoWire rfl hone ?_)
    obtain ⟨wz, hwz⟩ := nm (w2.setRow x #[.int .i64 0, .int .i64 0, .int .i64 0, .int .i64 0, .int .i64 0, .string ⟨#[]⟩, .slice none 0 0, .slice none 0 0, .slice none 0 0, .slice none 0 0, .slice none 0 0, .int .i64 0, .int .i64 0, .int .i64 0, .int .i64 0])
    rw [← hwz.out]
    have Kz : Blk wz x #[.int .i64 0, .int .i64 0, .int .i64 0, .int .i64 0, .int .i64 0, .string ⟨#[]⟩, .slice none 0 0, .slice none 0 0, .slice none 0 0, .slice none 0 0, .slice none 0 0, .int .i64 0, .int .i64 0, .int .i64 0, .int .i64 0] 33 := by rw [hwz.out]; exact setRow_heap w2 x _ _ _ _ Kx.out
    have HBz : Below w.heap.size w wz := by rw [hwz.out]; exact below_setRow HB.out hxw.out _
    have r0 : wz.cell? ⟨x, 0, none⟩ = some (.int .i64 0) := Kz.cell 0
    have r1 : wz.cell? ⟨x, 1, none⟩ = some (.int .i64 0) := Kz.cell 1
    have r2 : wz.cell? ⟨x, 2, none⟩ = some (.int .i64 0) := Kz.cell 2
    have r3 : wz.cell? ⟨x, 3, none⟩ = some (.int .i64 0) := Kz.cell 3
    have r4 : wz.cell? ⟨x, 4, none⟩ = some (.int .i64 0) := Kz.cell 4
    have r5 : wz.cell? ⟨x, 5, none⟩ = some (.string ⟨#[]⟩) := Kz.cell 5
    have r6 : wz.cell? ⟨x, 6, none⟩ = some (.slice none 0 0) := Kz.cell 6
    have r7 : wz.cell? ⟨x, 7, none⟩ = some (.slice none 0 0) := Kz.cell 7
    have r8 : wz.cell? ⟨x, 8, none⟩ = some (.slice none 0 0) := Kz.cell 8
    have r9 : wz.cell? ⟨x, 9, none⟩ = some (.slice none 0 0) := Kz.cell 9
    have r10 : wz.cell? ⟨x, 10, none⟩ = some (.slice none 0 0) := Kz.cell 10
    have r11 : wz.cell? ⟨x, 11, none⟩ = some (.int .i64 0) := Kz.cell 11
    have r12 : wz.cell? ⟨x, 12, none⟩ = some (.int .i64 0) := Kz.cell 12
    have r13 : wz.cell? ⟨x, 13, none⟩ = some (.int .i64 0) := Kz.cell 13
    have r14 : wz.cell? ⟨x, 14, none⟩ = some (.int .i64 0) := Kz.cell 14
    refine bodyPost_ret (v := .tuple #[.agg #[.int .i64 0, .int .i64 0, .int .i64 0, .int .i64 0, .int .i64 0, .string ⟨#[]⟩, .slice none 0 0, .slice none 0 0, .slice none 0 0, .slice none 0 0, .slice none 0 0, .int .i64 0, .int .i64 0, .int .i64 0, .int .i64 0], .int .i64 10]) (by simp [results, Try.results14, go_sem, r0, r1, r2, r3, r4, r5, r6, r7, r8, r9, r10, r11, r12, r13, r14]) rfl ?_
    exact HRB.out _ HNOT.out HBz
  have D1 := Lib.hid (HN1.out hz9)
  obtain ⟨k, f, s, p, fl, d0, d1, rc, lg, hz⟩ := list9 zs hz9
  have HZ := Lib.hid hz
  rw [hz9] at hcap ⊢
  have hs2 : ∃ g off, ao = some ⟨g, off, none⟩ ∧ g < w2.heap.size ∧ ∀ j, j < 9 → w2.cell? ⟨g, off + j, none⟩ = (zs.map (Value.int .i64))[j]? := by
    obtain ⟨g, off, h1, h2, h3⟩ := hsl 0 (by rw [List.length_map, hz9]; decide)
    exact ⟨g, off, h1, h2, fun j hj => h3 j (by rw [List.length_map, hz9]; exact hj)⟩
  obtain ⟨g, off, rfl, hg, hat⟩ := hs2
  rw [hz] at hat
  clear hsl hz hz9
  have c0 : w2.cell? ⟨g, off, none⟩ = some (.int .i64 k) := hat 0 (by decide)
  have c1 : w2.cell? ⟨g, off + 1, none⟩ = some (.int .i64 f) := hat 1 (by decide)
  have c2 : w2.cell? ⟨g, off + 2, none⟩ = some (.int .i64 s) := hat 2 (by decide)
  have c3 : w2.cell? ⟨g, off + 3, none⟩ = some (.int .i64 p) := hat 3 (by decide)
  have c4 : w2.cell? ⟨g, off + 4, none⟩ = some (.int .i64 fl) := hat 4 (by decide)
  have c5 : w2.cell? ⟨g, off + 5, none⟩ = some (.int .i64 d0) := hat 5 (by decide)
  have c6 : w2.cell? ⟨g, off + 6, none⟩ = some (.int .i64 d1) := hat 6 (by decide)
  have c7 : w2.cell? ⟨g, off + 7, none⟩ = some (.int .i64 rc) := hat 7 (by decide)
  have c8 : w2.cell? ⟨g, off + 8, none⟩ = some (.int .i64 lg) := hat 8 (by decide)
  obtain ⟨v, hv⟩ := nm (w2.heap.size + 1)
  obtain ⟨w3, hw3⟩ := nm ((w2.alloc (.cells #[.int .i64 k, .int .i64 f, .int .i64 s, .int .i64 p, .int .i64 fl, .int .i64 d0, .int .i64 d1, .int .i64 rc, .int .i64 lg] 54)).alloc (.cells #[.int .i64 k, .int .i64 f, .int .i64 s, .int .i64 p, .int .i64 fl, .string ⟨#[]⟩, .slice none 0 0, .slice none 0 0, .slice none 0 0, .slice none 0 0, .slice none 0 0, .int .i64 d0, .int .i64 d1, .int .i64 rc, .int .i64 lg] 33))
  have hbv : b < v := by rw [hv.out]; have := h2.lt; omega
  have hxv : x < v := by rw [hv.out]; have := Kx.out.lt; omega
  have Kv : Hid (Blk w3 v #[.int .i64 k, .int .i64 f, .int .i64 s, .int .i64 p, .int .i64 fl, .string ⟨#[]⟩, .slice none 0 0, .slice none 0 0, .slice none 0 0, .slice none 0 0, .slice none 0 0, .int .i64 d0, .int .i64 d1, .int .i64 rc, .int .i64 lg] 33) := by show Blk _ _ _ _; rw [hw3.out]; exact blk_at (by rw [hv.out]; simp)
  replace HR : Hid (IsRd w3 b r1) := by show IsRd _ _ _; rw [hw3.out]; exact Blk.alloc (Blk.alloc h2 _) _
  replace Kx : Hid (Blk w3 x #[.int .i64 0, .int .i64 0, .int .i64 0, .int .i64 0, .int .i64 0, .string ⟨#[]⟩, .slice none 0 0, .slice none 0 0, .slice none 0 0, .slice none 0 0, .slice none 0 0, .int .i64 0, .int .i64 0, .int .i64 0, .int .i64 0] 33) := by show Blk _ _ _ _; rw [hw3.out]; exact (Kx.out.alloc _).alloc _
  replace HB : Hid (Below w.heap.size w w3) := by show Below _ _ _; rw [hw3.out]; exact bNew (bNew HB.out _) _
  have hwv : Hid (w.heap.size ≤ v) := by show _ ≤ _; have := hxw.out; omega
  clear h2 hk hat
  have harr := fun w : World => run_arrayAt (P := Try.prog) w 54 3 9 (some ⟨g, off, none⟩) 9 cap Try.underlying54 (Nat.le_refl _)
  go_upto_region 9 with fail
  rw [← hw3.out, ← hv.out]
  have q5 := red_text r1 8000 (by decide)
  have z5 := r1.text_sz 8000
  have htx := rtext_any b r1 8000 w3 HR.out (by omega) (by decide)
  obtain ⟨r2, hr2⟩ := nm (r1.text 8000).1
  obtain ⟨mark, hmark⟩ := nm (r1.text 8000).2
  rw [← hr2.out, ← hmark.out] at q5 htx
  rw [← hr2.out] at z5
  have hs2 : r2.left.size ≤ 1000000 := by omega
  have D2 := Lib.hid q5
  have HTX := Lib.hid htx
  clear htx q5 z5 harr c0 c1 c2 c3 c4 c5 c6 c7 c8
  go_wp2_with fail
  refine (HTX.out).mono ?_; rintro e w4 ⟨rfl, hr, hk⟩
  replace HR := Lib.hid hr
  replace Kx := Lib.hid (hk.blk Kx.out (by omega))
  replace Kv := Lib.hid (hk.blk Kv.out (by omega))
  replace HB := Lib.hid (HB.out.trans (hk.below hwb.out HB.out.size))
  clear hr hk
  have c5 : w4.cell? ⟨v, 5, none⟩ = some (.string ⟨#[]⟩) := Kv.out.cell 5
  have f5 : w4.frozen? ⟨v, 5, none⟩ = false := Kv.out.free 5
  obtain ⟨w5, hw5⟩ := nm (w4.setCell ⟨v, 5, none⟩ (.string mark))
  replace Kx : Hid (Blk w5 x #[.int .i64 0, .int .i64 0, .int .i64 0, .int .i64 0, .int .i64 0, .string ⟨#[]⟩, .slice none 0 0, .slice none 0 0, .slice none 0 0, .slice none 0 0, .slice none 0 0, .int .i64 0, .int .i64 0, .int .i64 0, .int .i64 0] 33) := by show Blk _ _ _ _; rw [hw5.out]; exact (Blk.setOther Kx.out (by simp only; omega) _)
  replace HR : Hid (IsRd w5 b r2) := by show IsRd _ _ _; rw [hw5.out]; exact (Blk.setOther HR.out (by simp only; omega) _)
  replace Kv : Hid (Blk w5 v #[.int .i64 k, .int .i64 f, .int .i64 s, .int .i64 p, .int .i64 fl, .string mark, .slice none 0 0, .slice none 0 0, .slice none 0 0, .slice none 0 0, .slice none 0 0, .int .i64 d0, .int .i64 d1, .int .i64 rc, .int .i64 lg] 33) := by show Blk _ _ _ _; rw [hw5.out]; exact (Blk.set Kv.out 5 _)
  replace HB : Hid (Below w.heap.size w w5) := by show Below _ _ _; rw [hw5.out]; exact (Below.setCell HB.out (p := ⟨v, 5, none⟩) hwv.out _)
  go_upto_region 10 with fail
  rw [← hw5.out]
  clear c5 f5 hw5
  go_wp2_with fail
  refine (rbag_any b r2 _ HR.out hs2).mono ?_; rintro e w6 ⟨am, ab, ac, nl, kl, nb, kb, nc, kc, live, bs, cl, r3, rfl, hln, g0, g1, g2, fr0, fr1, fr2, hr, hd3, hs3, hk⟩
  have hv5 : v < w5.heap.size := Kv.out.lt
  have G0 := Lib.hid g0
  have G1 := Lib.hid g1
  have G2 := Lib.hid g2
  have D3 := Lib.hid hd3
  have HLN := Lib.hid hln
  have FR : Hid ((∀ a, am = some a → v < a.block) ∧ (∀ a, ab = some a → v < a.block) ∧ ∀ a, ac = some a → v < a.block) := ⟨fun a ha => by have := fr0 a ha; omega, fun a ha => by have := fr1 a ha; omega, fun a ha => by have := fr2 a ha; omega⟩
  have HT6 : Hid (Tri b v x w6 w6) := Tri.refl _ _ _ _
  clear g0 g1 g2 fr0 fr1 fr2 hd3 hln
  replace HR := Lib.hid hr
  replace Kx := Lib.hid (hk.blk Kx.out (by omega))
  replace Kv := Lib.hid (hk.blk Kv.out (by omega))
  replace HB := Lib.hid (HB.out.trans (hk.below hwb.out HB.out.size))
  clear hr hk
  have c6 : w6.cell? ⟨v, 6, none⟩ = some (.slice none 0 0) := Kv.out.cell 6
  have f6 : w6.frozen? ⟨v, 6, none⟩ = false := Kv.out.free 6
  have c7 : w6.cell? ⟨v, 7, none⟩ = some (.slice none 0 0) := Kv.out.cell 7
  have f7 : w6.frozen? ⟨v, 7, none⟩ = false := Kv.out.free 7
  have c8 : w6.cell? ⟨v, 8, none⟩ = some (.slice none 0 0) := Kv.out.cell 8
  have f8 : w6.frozen? ⟨v, 8, none⟩ = false := Kv.out.free 8
  obtain ⟨w7, hw7⟩ := nm (((w6.setCell ⟨v, 6, none⟩ (.slice am nl kl)).setCell ⟨v, 7, none⟩ (.slice ab nb kb)).setCell ⟨v, 8, none⟩ (.slice ac nc kc))
  replace Kx : Hid (Blk w7 x #[.int .i64 0, .int .i64 0, .int .i64 0, .int .i64 0, .int .i64 0, .string ⟨#[]⟩, .slice none 0 0, .slice none 0 0, .slice none 0 0, .slice none 0 0, .slice none 0 0, .int .i64 0, .int .i64 0, .int .i64 0, .int .i64 0] 33) := by show Blk _ _ _ _; rw [hw7.out]; exact (Blk.setOther (Blk.setOther (Blk.setOther Kx.out (by simp only; omega) _) (by simp only; omega) _) (by simp only; omega) _)
  replace HR : Hid (IsRd w7 b r3) := by show IsRd _ _ _; rw [hw7.out]; exact (Blk.setOther (Blk.setOther (Blk.setOther HR.out (by simp only; omega) _) (by simp only; omega) _) (by simp only; omega) _)
  replace Kv : Hid (Blk w7 v #[.int .i64 k, .int .i64 f, .int .i64 s, .int .i64 p, .int .i64 fl, .string mark, .slice am nl kl, .slice ab nb kb, .slice ac nc kc, .slice none 0 0, .slice none 0 0, .int .i64 d0, .int .i64 d1, .int .i64 rc, .int .i64 lg] 33) := by show Blk _ _ _ _; rw [hw7.out]; exact (Blk.set (Blk.set (Blk.set Kv.out 6 _) 7 _) 8 _)
  replace HB : Hid (Below w.heap.size w w7) := by show Below _ _ _; rw [hw7.out]; exact (Below.setCell (Below.setCell (Below.setCell HB.out (p := ⟨v, 6, none⟩) hwv.out _) (p := ⟨v, 7, none⟩) hwv.out _) (p := ⟨v, 8, none⟩) hwv.out _)
  replace HT6 : Hid (Tri b v x w6 w7) := by show Tri _ _ _ _ _; rw [hw7.out]; exact (Tri.set (Tri.set (Tri.set HT6.out (p := ⟨v, 6, none⟩) (.inr (.inl rfl)) _) (p := ⟨v, 7, none⟩) (.inr (.inl rfl)) _) (p := ⟨v, 8, none⟩) (.inr (.inl rfl)) _)
  go_upto_region 11 with fail
  rw [← hw7.out]
  clear c6 f6 c7 f7 c8 f8 hw7
  go_wp2_with fail
  refine (rtag_any b r3 _ HR.out hs3).mono ?_; rintro e w8 ⟨ag, ng, kg, tags, r4, rfl, hln3, g3, fr3, hr, hd4, hs4, hk⟩
  have hv7 : v < w7.heap.size := Kv.out.lt
  have G3 := Lib.hid g3
  have D4 := Lib.hid hd4
  have HLN3 := Lib.hid hln3
  have FR3 : Hid (∀ a, ag = some a → v < a.block) := fun a ha => by have := fr3 a ha; omega
  have HT8 : Hid (Tri b v x w8 w8) := Tri.refl _ _ _ _
  clear g3 fr3 hd4 hln3
  replace HR := Lib.hid hr
  replace Kx := Lib.hid (hk.blk Kx.out (by omega))
  replace Kv := Lib.hid (hk.blk Kv.out (by omega))
  replace HB := Lib.hid (HB.out.trans (hk.below hwb.out HB.out.size))
  replace HT6 := Lib.hid (HT6.out.trans (Tri.ofKept hk))
  clear hr hk
  have c9 : w8.cell? ⟨v, 9, none⟩ = some (.slice none 0 0) := Kv.out.cell 9
  have f9 : w8.frozen? ⟨v, 9, none⟩ = false := Kv.out.free 9
  obtain ⟨w9, hw9⟩ := nm (w8.setCell ⟨v, 9, none⟩ (.slice ag ng kg))
  replace Kx : Hid (Blk w9 x #[.int .i64 0, .int .i64 0, .int .i64 0, .int .i64 0, .int .i64 0, .string ⟨#[]⟩, .slice none 0 0, .slice none 0 0, .slice none 0 0, .slice none 0 0, .slice none 0 0, .int .i64 0, .int .i64 0, .int .i64 0, .int .i64 0] 33) := by show Blk _ _ _ _; rw [hw9.out]; exact (Blk.setOther Kx.out (by simp only; omega) _)
  replace HR : Hid (IsRd w9 b r4) := by show IsRd _ _ _; rw [hw9.out]; exact (Blk.setOther HR.out (by simp only; omega) _)
  replace Kv : Hid (Blk w9 v #[.int .i64 k, .int .i64 f, .int .i64 s, .int .i64 p, .int .i64 fl, .string mark, .slice am nl kl, .slice ab nb kb, .slice ac nc kc, .slice ag ng kg, .slice none 0 0, .int .i64 d0, .int .i64 d1, .int .i64 rc, .int .i64 lg] 33) := by show Blk _ _ _ _; rw [hw9.out]; exact (Blk.set Kv.out 9 _)
  replace HB : Hid (Below w.heap.size w w9) := by show Below _ _ _; rw [hw9.out]; exact (Below.setCell HB.out (p := ⟨v, 9, none⟩) hwv.out _)
  replace HT6 : Hid (Tri b v x w6 w9) := by show Tri _ _ _ _ _; rw [hw9.out]; exact (Tri.set HT6.out (p := ⟨v, 9, none⟩) (.inr (.inl rfl)) _)
  replace HT8 : Hid (Tri b v x w8 w9) := by show Tri _ _ _ _ _; rw [hw9.out]; exact (Tri.set HT8.out (p := ⟨v, 9, none⟩) (.inr (.inl rfl)) _)
  go_upto_region 12 with fail
  rw [← hw9.out]
  clear c9 f9 hw9
  go_wp2_with fail
  refine (rvw_any b r4 _ HR.out hs4).mono ?_; rintro e wa ⟨av, nv, kv, view, r5, rfl, hln4, g4, fr4, hr, hd5, hs5, hk⟩
  have hv9 : v < w9.heap.size := Kv.out.lt
  have G4 := Lib.hid g4
  have D5 := Lib.hid hd5
  have HLN4 := Lib.hid hln4
  have FR4 : Hid (∀ a, av = some a → v < a.block) := fun a ha => by have := fr4 a ha; omega
  have HTA : Hid (Tri b v x wa wa) := Tri.refl _ _ _ _
  clear g4 fr4 hd5 hln4
  replace HR := Lib.hid hr
  replace Kx := Lib.hid (hk.blk Kx.out (by omega))
  replace Kv := Lib.hid (hk.blk Kv.out (by omega))
  replace HB := Lib.hid (HB.out.trans (hk.below hwb.out HB.out.size))
  replace HT6 := Lib.hid (HT6.out.trans (Tri.ofKept hk))
  replace HT8 := Lib.hid (HT8.out.trans (Tri.ofKept hk))
  clear hr hk
  have c10 : wa.cell? ⟨v, 10, none⟩ = some (.slice none 0 0) := Kv.out.cell 10
  have f10 : wa.frozen? ⟨v, 10, none⟩ = false := Kv.out.free 10
  obtain ⟨wb, hwb⟩ := nm (wa.setCell ⟨v, 10, none⟩ (.slice av nv kv))
  replace Kx : Hid (Blk wb x #[.int .i64 0, .int .i64 0, .int .i64 0, .int .i64 0, .int .i64 0, .string ⟨#[]⟩, .slice none 0 0, .slice none 0 0, .slice none 0 0, .slice none 0 0, .slice none 0 0, .int .i64 0, .int .i64 0, .int .i64 0, .int .i64 0] 33) := by show Blk _ _ _ _; rw [hwb.out]; exact (Blk.setOther Kx.out (by simp only; omega) _)
  replace HR : Hid (IsRd wb b r5) := by show IsRd _ _ _; rw [hwb.out]; exact (Blk.setOther HR.out (by simp only; omega) _)
  replace Kv : Hid (Blk wb v #[.int .i64 k, .int .i64 f, .int .i64 s, .int .i64 p, .int .i64 fl, .string mark, .slice am nl kl, .slice ab nb kb, .slice ac nc kc, .slice ag ng kg, .slice av nv kv, .int .i64 d0, .int .i64 d1, .int .i64 rc, .int .i64 lg] 33) := by show Blk _ _ _ _; rw [hwb.out]; exact (Blk.set Kv.out 10 _)
  replace HB : Hid (Below w.heap.size w wb) := by show Below _ _ _; rw [hwb.out]; exact (Below.setCell HB.out (p := ⟨v, 10, none⟩) hwv.out _)
  replace HT6 : Hid (Tri b v x w6 wb) := by show Tri _ _ _ _ _; rw [hwb.out]; exact (Tri.set HT6.out (p := ⟨v, 10, none⟩) (.inr (.inl rfl)) _)
  replace HT8 : Hid (Tri b v x w8 wb) := by show Tri _ _ _ _ _; rw [hwb.out]; exact (Tri.set HT8.out (p := ⟨v, 10, none⟩) (.inr (.inl rfl)) _)
  replace HTA : Hid (Tri b v x wa wb) := by show Tri _ _ _ _ _; rw [hwb.out]; exact (Tri.set HTA.out (p := ⟨v, 10, none⟩) (.inr (.inl rfl)) _)
  go_upto_region 13 with fail
  rw [← hwb.out]
  clear c10 f10 hwb
  have hred : Red PW fW ⟨S, false⟩ r5 (WL.mk k f s p fl d0 d1 rc lg mark live bs cl tags view).t := by
    have e1 : Red NineR (rowL numZ) ⟨S, false⟩ r1 [k, f, s, p, fl, d0, d1, rc, lg] := by rw [← HZ.out]; exact D1.out
    exact e1.seq (D2.out.seq (D3.out.seq (D4.out.seq D5.out tells_tagsP) tells_bagR) (tells_tx (by decide))) tells_nine
  have RED := Lib.hid hred
  have LIES : Hid (r5.torn = false → ∀ w', Tri b v x wb w' → Lies w' am ab ac ag av nl nb nc ng nv live bs cl tags view) := by
    show _ → ∀ w', _
    intro ht w' h
    obtain ⟨_, hp, _⟩ := RED.out.is ht
    obtain ⟨f0, f1, f2⟩ := FR.out
    have f3 := FR3.out
    have f4 := FR4.out
    obtain ⟨l0, l1, l2⟩ := HLN.out
    have l3 := HLN3.out
    have l4 := HLN4.out
    obtain ⟨⟨b1, b2, b3⟩, _⟩ := hp.2.2.1
    have b4 := hp.2.2.2.1.many
    have b5 := hp.2.2.2.2.many
    simp only [WL.t] at b1 b2 b3 b4 b5
    have t6 := HT6.out.trans h
    have t8 := HT8.out.trans h
    have ta := HTA.out.trans h
    exact ⟨l0, l1, l2, l3, l4, by omega, by omega, by omega, by omega, by omega, G0.out.tri (fun a ha => by have := f0 a ha; exact ⟨by omega, by omega, by omega⟩) t6, G1.out.tri (fun a ha => by have := f1 a ha; exact ⟨by omega, by omega, by omega⟩) t6, G2.out.tri (fun a ha => by have := f2 a ha; exact ⟨by omega, by omega, by omega⟩) t6, G3.out.tri (fun a ha => by have := f3 a ha; exact ⟨by omega, by omega, by omega⟩) t8, G4.out.tri (fun a ha => by have := f4 a ha; exact ⟨by omega, by omega, by omega⟩) ta⟩
  have FRS : Hid (FreshW w.heap.size am ab ac ag av) := by
    show FreshW _ _ _ _ _ _
    obtain ⟨f0, f1, f2⟩ := FR.out
    have hh := hwv.out
    exact ⟨fun a ha => by have := f0 a ha; omega, fun a ha => by have := f1 a ha; omega, fun a ha => by have := f2 a ha; omega, fun a ha => by have := FR3.out a ha; omega, fun a ha => by have := FR4.out a ha; omega⟩
  clear hred D1 D2 D3 D4 D5 G0 G1 G2 G3 G4 HT6 HT8 HTA HLN HLN3 HLN4 FR FR3 FR4
  obtain ⟨F, hF⟩ := nm r5.fin
  have hfc : F = 10 ∨ (F = 0 ∧ r5.torn = false) := by
    rw [hF.out]
    unfold Rd.fin
    split
    · exact .inl rfl
    · rename_i hc
      refine .inr ⟨rfl, ?_⟩
      cases ht : r5.torn with
      | false => rfl
      | true => exact absurd (.inl ht) hc
  have hend := rend_any b r5 wb HR.out
  rw [← hF.out] at hend
  have HEND := Lib.hid hend
  clear hend
  rcases hfc with rfl | ⟨rfl, htt⟩
  · have HNOT := Lib.hid (HW2.out (WL.mk k f s p fl d0 d1 rc lg mark live bs cl tags view) r5 RED.out (.inl hF.out.symm))
    go_wp2_with fail
    refine HEND.out.mono ?_; rintro e wc ⟨rfl, rfl⟩
    have hone : (#[.int .i64 0, .int .i64 0, .int .i64 0, .int .i64 0, .int .i64 0, .string ⟨#[]⟩, .slice none 0 0, .slice none 0 0, .slice none 0 0, .slice none 0 0, .slice none 0 0, .int .i64 0, .int .i64 0, .int .i64 0, .int .i64 0] : Array Value).all (·.oneCell') = true := by simp [Value.oneCell']
    go_wp2_with (refine wpList_store_row rfl 33 _ _ rfl x #[.int .i64 0, .int .i64 0, .int .i64 0, .int .i64 0, .int .i64 0, .string ⟨#[]⟩, .slice none 0 0, .slice none 0 0, .slice none 0 0, .slice none 0 0, .slice none 0 0, .int .i64 0, .int .i64 0, .int .i64 0, .int .i64 0] rfl rfl 33 #[.int .i64 0, .int .i64 0, .int .i64 0, .int .i64 0, .int .i64 0, .string ⟨#[]⟩, .slice none 0 0, .slice none 0 0, .slice none 0 0, .slice none 0 0, .slice none 0 0, .int .i64 0, .int .i64 0, .int .i64 0, .int .i64 0] Kx.out infoWire rfl hone ?_)
    obtain ⟨wz, hwz⟩ := nm (wb.setRow x #[.int .i64 0, .int .i64 0, .int .i64 0, .int .i64 0, .int .i64 0, .string ⟨#[]⟩, .slice none 0 0, .slice none 0 0, .slice none 0 0, .slice none 0 0, .slice none 0 0, .int .i64 0, .int .i64 0, .int .i64 0, .int .i64 0])
    rw [← hwz.out]
    have Kz : Blk wz x #[.int .i64 0, .int .i64 0, .int .i64 0, .int .i64 0, .int .i64 0, .string ⟨#[]⟩, .slice none 0 0, .slice none 0 0, .slice none 0 0, .slice none 0 0, .slice none 0 0, .int .i64 0, .int .i64 0, .int .i64 0, .int .i64 0] 33 := by rw [hwz.out]; exact setRow_heap wb x _ _ _ _ Kx.out
    have HBz : Below w.heap.size w wz := by rw [hwz.out]; exact below_setRow HB.out hxw.out _
    have r0 : wz.cell? ⟨x, 0, none⟩ = some (.int .i64 0) := Kz.cell 0
    have r1 : wz.cell? ⟨x, 1, none⟩ = some (.int .i64 0) := Kz.cell 1
    have r2 : wz.cell? ⟨x, 2, none⟩ = some (.int .i64 0) := Kz.cell 2
    have r3 : wz.cell? ⟨x, 3, none⟩ = some (.int .i64 0) := Kz.cell 3
    have r4 : wz.cell? ⟨x, 4, none⟩ = some (.int .i64 0) := Kz.cell 4
    have r5 : wz.cell? ⟨x, 5, none⟩ = some (.string ⟨#[]⟩) := Kz.cell 5
    have r6 : wz.cell? ⟨x, 6, none⟩ = some (.slice none 0 0) := Kz.cell 6
    have r7 : wz.cell? ⟨x, 7, none⟩ = some (.slice none 0 0) := Kz.cell 7
    have r8 : wz.cell? ⟨x, 8, none⟩ = some (.slice none 0 0) := Kz.cell 8
    have r9 : wz.cell? ⟨x, 9, none⟩ = some (.slice none 0 0) := Kz.cell 9
    have r10 : wz.cell? ⟨x, 10, none⟩ = some (.slice none 0 0) := Kz.cell 10
    have r11 : wz.cell? ⟨x, 11, none⟩ = some (.int .i64 0) := Kz.cell 11
    have r12 : wz.cell? ⟨x, 12, none⟩ = some (.int .i64 0) := Kz.cell 12
    have r13 : wz.cell? ⟨x, 13, none⟩ = some (.int .i64 0) := Kz.cell 13
    have r14 : wz.cell? ⟨x, 14, none⟩ = some (.int .i64 0) := Kz.cell 14
    refine bodyPost_ret (v := .tuple #[.agg #[.int .i64 0, .int .i64 0, .int .i64 0, .int .i64 0, .int .i64 0, .string ⟨#[]⟩, .slice none 0 0, .slice none 0 0, .slice none 0 0, .slice none 0 0, .slice none 0 0, .int .i64 0, .int .i64 0, .int .i64 0, .int .i64 0], .int .i64 10]) (by simp [results, Try.results14, go_sem, r0, r1, r2, r3, r4, r5, r6, r7, r8, r9, r10, r11, r12, r13, r14]) rfl ?_
    exact HRB.out _ HNOT.out HBz
  have LIE := Lib.hid (LIES.out htt)
  obtain ⟨B, hB, hBf, hBt⟩ := boolOf (WL.mk k f s p fl d0 d1 rc lg mark live bs cl tags view).May
  obtain ⟨E, hE⟩ := nm (errno B)
  have hck := wcheck_any k f s p fl d0 d1 rc lg mark am ab ac ag av nl kl nb kb nc kc ng kg nv kv live bs cl tags view B hB E hE wb (LIE.out wb (Tri.refl _ _ _ _))
  have HCK := Lib.hid hck
  clear hck LIES
  have c0 : wb.cell? ⟨v, 0, none⟩ = some (.int .i64 k) := Kv.out.cell 0
  have c1 : wb.cell? ⟨v, 1, none⟩ = some (.int .i64 f) := Kv.out.cell 1
  have c2 : wb.cell? ⟨v, 2, none⟩ = some (.int .i64 s) := Kv.out.cell 2
  have c3 : wb.cell? ⟨v, 3, none⟩ = some (.int .i64 p) := Kv.out.cell 3
  have c4 : wb.cell? ⟨v, 4, none⟩ = some (.int .i64 fl) := Kv.out.cell 4
  have c5 : wb.cell? ⟨v, 5, none⟩ = some (.string mark) := Kv.out.cell 5
  have c6 : wb.cell? ⟨v, 6, none⟩ = some (.slice am nl kl) := Kv.out.cell 6
  have c7 : wb.cell? ⟨v, 7, none⟩ = some (.slice ab nb kb) := Kv.out.cell 7
  have c8 : wb.cell? ⟨v, 8, none⟩ = some (.slice ac nc kc) := Kv.out.cell 8
  have c9 : wb.cell? ⟨v, 9, none⟩ = some (.slice ag ng kg) := Kv.out.cell 9
  have c10 : wb.cell? ⟨v, 10, none⟩ = some (.slice av nv kv) := Kv.out.cell 10
  have c11 : wb.cell? ⟨v, 11, none⟩ = some (.int .i64 d0) := Kv.out.cell 11
  have c12 : wb.cell? ⟨v, 12, none⟩ = some (.int .i64 d1) := Kv.out.cell 12
  have c13 : wb.cell? ⟨v, 13, none⟩ = some (.int .i64 rc) := Kv.out.cell 13
  have c14 : wb.cell? ⟨v, 14, none⟩ = some (.int .i64 lg) := Kv.out.cell 14
  go_wp2_with fail
  refine HEND.out.mono ?_; rintro e wc ⟨rfl, rfl⟩
  go_wp2_with fail
  refine HCK.out.mono ?_; rintro e wd ⟨rfl, hBd⟩
  have hxr := Kx.out.lt
  have hvr := Kv.out.lt
  replace Kx := Lib.hid (Kx.out.below hBd hxr)
  replace Kv := Lib.hid (Kv.out.below hBd hvr)
  replace HB := Lib.hid (bNext HB.out hBd)
  have HTD : Hid (Tri b v x wb wd) := Tri.ofBelow hBd
  clear hBd c0 c1 c2 c3 c4 c5 c6 c7 c8 c9 c10 c11 c12 c13 c14 hxr hvr HEND HCK
  have hE2 := hE.out
  cases B
  · obtain rfl : E = 1 := hE2
    have HNOT := Lib.hid (HW2.out (WL.mk k f s p fl d0 d1 rc lg mark live bs cl tags view) r5 RED.out (.inr (hBf.out (by first | exact rfl | exact trivial))))
    have hone : (#[.int .i64 0, .int .i64 0, .int .i64 0, .int .i64 0, .int .i64 0, .string ⟨#[]⟩, .slice none 0 0, .slice none 0 0, .slice none 0 0, .slice none 0 0, .slice none 0 0, .int .i64 0, .int .i64 0, .int .i64 0, .int .i64 0] : Array Value).all (·.oneCell') = true := by simp [Value.oneCell']
    go_wp2_with (refine wpList_store_row rfl 33 _ _ rfl x #[.int .i64 0, .int .i64 0, .int .i64 0, .int .i64 0, .int .i64 0, .string ⟨#[]⟩, .slice none 0 0, .slice none 0 0, .slice none 0 0, .slice none 0 0, .slice none 0 0, .int .i64 0, .int .i64 0, .int .i64 0, .int .i64 0] rfl rfl 33 #[.int .i64 0, .int .i64 0, .int .i64 0, .int .i64 0, .int .i64 0, .string ⟨#[]⟩, .slice none 0 0, .slice none 0 0, .slice none 0 0, .slice none 0 0, .slice none 0 0, .int .i64 0, .int .i64 0, .int .i64 0, .int .i64 0] Kx.out infoWire rfl hone ?_)
    obtain ⟨wz, hwz⟩ := nm (wd.setRow x #[.int .i64 0, .int .i64 0, .int .i64 0, .int .i64 0, .int .i64 0, .string ⟨#[]⟩, .slice none 0 0, .slice none 0 0, .slice none 0 0, .slice none 0 0, .slice none 0 0, .int .i64 0, .int .i64 0, .int .i64 0, .int .i64 0])
    rw [← hwz.out]
    have Kz : Blk wz x #[.int .i64 0, .int .i64 0, .int .i64 0, .int .i64 0, .int .i64 0, .string ⟨#[]⟩, .slice none 0 0, .slice none 0 0, .slice none 0 0, .slice none 0 0, .slice none 0 0, .int .i64 0, .int .i64 0, .int .i64 0, .int .i64 0] 33 := by rw [hwz.out]; exact setRow_heap wd x _ _ _ _ Kx.out
    have HBz : Below w.heap.size w wz := by rw [hwz.out]; exact below_setRow HB.out hxw.out _
    have r0 : wz.cell? ⟨x, 0, none⟩ = some (.int .i64 0) := Kz.cell 0
    have r1 : wz.cell? ⟨x, 1, none⟩ = some (.int .i64 0) := Kz.cell 1
    have r2 : wz.cell? ⟨x, 2, none⟩ = some (.int .i64 0) := Kz.cell 2
    have r3 : wz.cell? ⟨x, 3, none⟩ = some (.int .i64 0) := Kz.cell 3
    have r4 : wz.cell? ⟨x, 4, none⟩ = some (.int .i64 0) := Kz.cell 4
    have r5 : wz.cell? ⟨x, 5, none⟩ = some (.string ⟨#[]⟩) := Kz.cell 5
    have r6 : wz.cell? ⟨x, 6, none⟩ = some (.slice none 0 0) := Kz.cell 6
    have r7 : wz.cell? ⟨x, 7, none⟩ = some (.slice none 0 0) := Kz.cell 7
    have r8 : wz.cell? ⟨x, 8, none⟩ = some (.slice none 0 0) := Kz.cell 8
    have r9 : wz.cell? ⟨x, 9, none⟩ = some (.slice none 0 0) := Kz.cell 9
    have r10 : wz.cell? ⟨x, 10, none⟩ = some (.slice none 0 0) := Kz.cell 10
    have r11 : wz.cell? ⟨x, 11, none⟩ = some (.int .i64 0) := Kz.cell 11
    have r12 : wz.cell? ⟨x, 12, none⟩ = some (.int .i64 0) := Kz.cell 12
    have r13 : wz.cell? ⟨x, 13, none⟩ = some (.int .i64 0) := Kz.cell 13
    have r14 : wz.cell? ⟨x, 14, none⟩ = some (.int .i64 0) := Kz.cell 14
    refine bodyPost_ret (v := .tuple #[.agg #[.int .i64 0, .int .i64 0, .int .i64 0, .int .i64 0, .int .i64 0, .string ⟨#[]⟩, .slice none 0 0, .slice none 0 0, .slice none 0 0, .slice none 0 0, .slice none 0 0, .int .i64 0, .int .i64 0, .int .i64 0, .int .i64 0], .int .i64 10]) (by simp [results, Try.results14, go_sem, r0, r1, r2, r3, r4, r5, r6, r7, r8, r9, r10, r11, r12, r13, r14]) rfl ?_
    exact HRB.out _ HNOT.out HBz
  · obtain rfl : E = 0 := hE2
    have HSAID := Lib.hid (HW1.out (WL.mk k f s p fl d0 d1 rc lg mark live bs cl tags view) r5 RED.out HS8.out hF.out.symm (hBt.out (by first | exact rfl | exact trivial)))
    have c0 : wd.cell? ⟨v, 0, none⟩ = some (.int .i64 k) := Kv.out.cell 0
    have c1 : wd.cell? ⟨v, 1, none⟩ = some (.int .i64 f) := Kv.out.cell 1
    have c2 : wd.cell? ⟨v, 2, none⟩ = some (.int .i64 s) := Kv.out.cell 2
    have c3 : wd.cell? ⟨v, 3, none⟩ = some (.int .i64 p) := Kv.out.cell 3
    have c4 : wd.cell? ⟨v, 4, none⟩ = some (.int .i64 fl) := Kv.out.cell 4
    have c5 : wd.cell? ⟨v, 5, none⟩ = some (.string mark) := Kv.out.cell 5
    have c6 : wd.cell? ⟨v, 6, none⟩ = some (.slice am nl kl) := Kv.out.cell 6
    have c7 : wd.cell? ⟨v, 7, none⟩ = some (.slice ab nb kb) := Kv.out.cell 7
    have c8 : wd.cell? ⟨v, 8, none⟩ = some (.slice ac nc kc) := Kv.out.cell 8
    have c9 : wd.cell? ⟨v, 9, none⟩ = some (.slice ag ng kg) := Kv.out.cell 9
    have c10 : wd.cell? ⟨v, 10, none⟩ = some (.slice av nv kv) := Kv.out.cell 10
    have c11 : wd.cell? ⟨v, 11, none⟩ = some (.int .i64 d0) := Kv.out.cell 11
    have c12 : wd.cell? ⟨v, 12, none⟩ = some (.int .i64 d1) := Kv.out.cell 12
    have c13 : wd.cell? ⟨v, 13, none⟩ = some (.int .i64 rc) := Kv.out.cell 13
    have c14 : wd.cell? ⟨v, 14, none⟩ = some (.int .i64 lg) := Kv.out.cell 14
    have hone : (#[.int .i64 k, .int .i64 f, .int .i64 s, .int .i64 p, .int .i64 fl, .string mark, .slice am nl kl, .slice ab nb kb, .slice ac nc kc, .slice ag ng kg, .slice av nv kv, .int .i64 d0, .int .i64 d1, .int .i64 rc, .int .i64 lg] : Array Value).all (·.oneCell') = true := by simp [Value.oneCell']
    go_wp2_with (refine wpList_store_row rfl 33 _ _ rfl x #[.int .i64 k, .int .i64 f, .int .i64 s, .int .i64 p, .int .i64 fl, .string mark, .slice am nl kl, .slice ab nb kb, .slice ac nc kc, .slice ag ng kg, .slice av nv kv, .int .i64 d0, .int .i64 d1, .int .i64 rc, .int .i64 lg] rfl rfl 33 #[.int .i64 0, .int .i64 0, .int .i64 0, .int .i64 0, .int .i64 0, .string ⟨#[]⟩, .slice none 0 0, .slice none 0 0, .slice none 0 0, .slice none 0 0, .slice none 0 0, .int .i64 0, .int .i64 0, .int .i64 0, .int .i64 0] Kx.out infoWire rfl hone ?_)
    obtain ⟨wz, hwz⟩ := nm (wd.setRow x #[.int .i64 k, .int .i64 f, .int .i64 s, .int .i64 p, .int .i64 fl, .string mark, .slice am nl kl, .slice ab nb kb, .slice ac nc kc, .slice ag ng kg, .slice av nv kv, .int .i64 d0, .int .i64 d1, .int .i64 rc, .int .i64 lg])
    rw [← hwz.out]
    have Kz : Blk wz x #[.int .i64 k, .int .i64 f, .int .i64 s, .int .i64 p, .int .i64 fl, .string mark, .slice am nl kl, .slice ab nb kb, .slice ac nc kc, .slice ag ng kg, .slice av nv kv, .int .i64 d0, .int .i64 d1, .int .i64 rc, .int .i64 lg] 33 := by rw [hwz.out]; exact setRow_heap wd x _ _ _ _ Kx.out
    have HBz : Below w.heap.size w wz := by rw [hwz.out]; exact below_setRow HB.out hxw.out _
    have r0 : wz.cell? ⟨x, 0, none⟩ = some (.int .i64 k) := Kz.cell 0
    have r1 : wz.cell? ⟨x, 1, none⟩ = some (.int .i64 f) := Kz.cell 1
    have r2 : wz.cell? ⟨x, 2, none⟩ = some (.int .i64 s) := Kz.cell 2
    have r3 : wz.cell? ⟨x, 3, none⟩ = some (.int .i64 p) := Kz.cell 3
    have r4 : wz.cell? ⟨x, 4, none⟩ = some (.int .i64 fl) := Kz.cell 4
    have r5 : wz.cell? ⟨x, 5, none⟩ = some (.string mark) := Kz.cell 5
    have r6 : wz.cell? ⟨x, 6, none⟩ = some (.slice am nl kl) := Kz.cell 6
    have r7 : wz.cell? ⟨x, 7, none⟩ = some (.slice ab nb kb) := Kz.cell 7
    have r8 : wz.cell? ⟨x, 8, none⟩ = some (.slice ac nc kc) := Kz.cell 8
    have r9 : wz.cell? ⟨x, 9, none⟩ = some (.slice ag ng kg) := Kz.cell 9
    have r10 : wz.cell? ⟨x, 10, none⟩ = some (.slice av nv kv) := Kz.cell 10
    have r11 : wz.cell? ⟨x, 11, none⟩ = some (.int .i64 d0) := Kz.cell 11
    have r12 : wz.cell? ⟨x, 12, none⟩ = some (.int .i64 d1) := Kz.cell 12
    have r13 : wz.cell? ⟨x, 13, none⟩ = some (.int .i64 rc) := Kz.cell 13
    have r14 : wz.cell? ⟨x, 14, none⟩ = some (.int .i64 lg) := Kz.cell 14
    refine bodyPost_ret (v := .tuple #[.agg #[.int .i64 k, .int .i64 f, .int .i64 s, .int .i64 p, .int .i64 fl, .string mark, .slice am nl kl, .slice ab nb kb, .slice ac nc kc, .slice ag ng kg, .slice av nv kv, .int .i64 d0, .int .i64 d1, .int .i64 rc, .int .i64 lg], .int .i64 0]) (by simp [results, Try.results14, go_sem, r0, r1, r2, r3, r4, r5, r6, r7, r8, r9, r10, r11, r12, r13, r14]) rfl ?_
    have htz : Tri b v x wd wz := by rw [hwz.out]; exact ⟨by simp [World.setRow], fun i _ _ _ h3 => setRow_other _ _ _ _ h3⟩
    exact ⟨k, f, s, p, fl, d0, d1, rc, lg, mark, am, ab, ac, ag, av, nl, kl, nb, kb, nc, kc, ng, kg, nv, kv, live, bs, cl, tags, view, 0, rfl, LIE.out _ (HTD.out.trans htz), FRS.out, .inl ⟨rfl, HSAID.out⟩, HBz⟩
end Go.Proofs.Ytfpjdmplepepjaa

/-! WRefSame: The document's Same: rows, contexts, bags. -/
namespace Go.Proofs.Ytfpjdmplepepjaa
open Go.RowKit

set_option maxRecDepth 100000 in
set_option maxHeartbeats 4000000 in
theorem refdots_any (a1 a2 : Option Addr) (c1 c2 n m : Nat) (xs ys : List Dot2) (hx : Hid (xs.length = n)) (hy : Hid (ys.length = m)) (w : World) (hlen : n ≤ 1000000000) (h1 : SlE eDot 2 w a1 xs) (h2 : SlE eDot 2 w a2 ys) (r : Bool) (hr : Hid (r = decide (xs = ys))) :
    Calls Try.prog 90 #[.slice a1 n c1, .slice a2 m c2] w fun e w' => e = .returned (.bool r) ∧ ∃ q, w' = w.drewN q := by
  by_cases hmn : n = m
  rotate_left
  · have hne : r = false := by rw [hr.out]; exact decide_eq_false (by intro e; apply hmn; rw [← hx.out, ← hy.out, e])
    subst hne
    go_enter Try.func90, Try.ntmps90
    go_wp2_with fail
    go_ret
    exact ⟨rfl, 0, rfl⟩
  subst hmn
  have H1 := Lib.hid h1
  have H2 := Lib.hid h2
  clear h1 h2
  go_enter Try.func90, Try.ntmps90
  go_wp2_with fail
  go_loopw [5] (fun i wr => ∃ (k q : Nat), k ≤ n ∧ i = .int .i64 (k : Int) ∧ wr = w.drewN q ∧ Hid (xs.take k = ys.take k)) (fun i _ => n - (intOf i).toNat)
  case atStart => exact ⟨0, 0, by omega, rfl, rfl, Lib.hid (by simp)⟩
  case round =>
    obtain ⟨k, q, hk, rfl, rfl, ht⟩ := hrel
    by_cases hlt : k < n
    · obtain ⟨b1, o1, ⟨x1, x2⟩, rfl, hb1, e1, g1⟩ := H1.out.get k (by rw [hx.out]; exact hlt)
      obtain ⟨b2, o2, ⟨y1, y2⟩, rfl, hb2, e2, g2⟩ := H2.out.get k (by rw [hy.out]; exact hlt)
      have d1 : w.cell? ⟨b1, o1 + k * 2, none⟩ = some (.int .i64 x1) := g1 0 _ rfl
      have d2 : w.cell? ⟨b1, o1 + k * 2 + 1, none⟩ = some (.int .i64 x2) := g1 1 _ rfl
      have d3 : w.cell? ⟨b2, o2 + k * 2, none⟩ = some (.int .i64 y1) := g2 0 _ rfl
      have d4 : w.cell? ⟨b2, o2 + k * 2 + 1, none⟩ = some (.int .i64 y2) := g2 1 _ rfl
      obtain ⟨B, hBB⟩ := nm (decide ((x1, x2) = (y1, y2)))
      have heq := fun w => neqD x1 x2 y1 y2 B hBB.out.symm w
      have hgd := fun (a b : Operand) (w : World) => guardD .neq a b #[.int .i64 x1, .int .i64 x2] #[.int .i64 y1, .int .i64 y2] w
      clear g1 g2
      cases B
      · have HE : Hid (r = false) := by
          show _ = _
          rw [hr.out]
          refine decide_eq_false fun e => ?_
          have h3 := e1.out
          rw [e, e2.out] at h3
          have h4 := Option.some.inj h3
          have := hBB.out
          rw [h4] at this
          simp at this
        go_wp2_with fail
        go_quiet (fail)
        go_wp2_with fail
        go_ret
        rw [HE.out]
        exact ⟨rfl, q + nq, by rw [World.drewN_drewN]⟩
      · have HT : Hid (xs.take (k + 1) = ys.take (k + 1)) := by
          show _ = _
          have e : (x1, x2) = (y1, y2) := by simpa using hBB.out.symm
          rw [take_snocE e1.out, take_snocE e2.out, ht.out, e]
        clear ht
        go_wp2_with fail
        go_quiet (fail)
        go_wp2_with fail
        go_roundw
        case rel => exact ⟨k + 1, q + nq, by omega, by go_num, rfl, HT⟩
        case measure => simp [intOf]; omega
    · obtain rfl : k = n := by omega
      have HE : Hid (r = true) := by
        show _ = _
        rw [hr.out]
        refine decide_eq_true ?_
        have e := ht.out
        rw [List.take_of_length_le (by rw [hx.out]; exact Nat.le_refl _), List.take_of_length_le (by rw [hy.out]; exact Nat.le_refl _)] at e
        exact e
      go_wp2_with fail
      go_ret
      rw [HE.out]
      exact ⟨rfl, q, rfl⟩

set_option maxRecDepth 100000 in
set_option maxHeartbeats 4000000 in
theorem refmsgs_any (a1 a2 : Option Addr) (c1 c2 n m : Nat) (xs ys : List Msg5) (hx : Hid (xs.length = n)) (hy : Hid (ys.length = m)) (w : World) (hlen : n ≤ 1000000000) (h1 : SlE eMsg 5 w a1 xs) (h2 : SlE eMsg 5 w a2 ys) (r : Bool) (hr : Hid (r = true ↔ xs = ys)) :
    Calls Try.prog 52 #[.slice a1 n c1, .slice a2 m c2] w fun e w' => e = .returned (.bool r) ∧ ∃ q, w' = w.drewN q := by
  by_cases hmn : n = m
  rotate_left
  · have hne : r = false := by
      cases r
      · rfl
      · exact absurd (by rw [← hx.out, ← hy.out, hr.out.1 rfl]) hmn
    subst hne
    go_enter Try.func52, Try.ntmps52
    go_wp2_with fail
    go_ret
    exact ⟨rfl, 0, rfl⟩
  subst hmn
  have H1 := Lib.hid h1
  have H2 := Lib.hid h2
  clear h1 h2
  go_enter Try.func52, Try.ntmps52
  go_wp2_with fail
  go_loopw [5] (fun i wr => ∃ (k q : Nat), k ≤ n ∧ i = .int .i64 (k : Int) ∧ wr = w.drewN q ∧ Hid (xs.take k = ys.take k)) (fun i _ => n - (intOf i).toNat)
  case atStart => exact ⟨0, 0, by omega, rfl, rfl, Lib.hid (by simp)⟩
  case round =>
    obtain ⟨k, q, hk, rfl, rfl, ht⟩ := hrel
    by_cases hlt : k < n
    · obtain ⟨b1, o1, ⟨x1, x2, x3, x4, x5⟩, rfl, hb1, e1, g1⟩ := H1.out.get k (by rw [hx.out]; exact hlt)
      obtain ⟨b2, o2, ⟨y1, y2, y3, y4, y5⟩, rfl, hb2, e2, g2⟩ := H2.out.get k (by rw [hy.out]; exact hlt)
      have dx0 : w.cell? ⟨b1, o1 + k * 5, none⟩ = some (.int .i64 x1) := g1 0 _ rfl
      have dx1 : w.cell? ⟨b1, o1 + k * 5 + 1, none⟩ = some (.int .i64 x2) := g1 1 _ rfl
      have dx2 : w.cell? ⟨b1, o1 + k * 5 + 2, none⟩ = some (.string x3) := g1 2 _ rfl
      have dx3 : w.cell? ⟨b1, o1 + k * 5 + 3, none⟩ = some (.string x4) := g1 3 _ rfl
      have dx4 : w.cell? ⟨b1, o1 + k * 5 + 4, none⟩ = some (.int .i64 x5) := g1 4 _ rfl
      have dy0 : w.cell? ⟨b2, o2 + k * 5, none⟩ = some (.int .i64 y1) := g2 0 _ rfl
      have dy1 : w.cell? ⟨b2, o2 + k * 5 + 1, none⟩ = some (.int .i64 y2) := g2 1 _ rfl
      have dy2 : w.cell? ⟨b2, o2 + k * 5 + 2, none⟩ = some (.string y3) := g2 2 _ rfl
      have dy3 : w.cell? ⟨b2, o2 + k * 5 + 3, none⟩ = some (.string y4) := g2 3 _ rfl
      have dy4 : w.cell? ⟨b2, o2 + k * 5 + 4, none⟩ = some (.int .i64 y5) := g2 4 _ rfl
      obtain ⟨B, hB, hBf, hBt⟩ : ∃ B : Bool, Hid (B = true ↔ Msg5.mk x1 x2 x3 x4 x5 = Msg5.mk y1 y2 y3 y4 y5) ∧ Hid (B = false → Msg5.mk x1 x2 x3 x4 x5 ≠ Msg5.mk y1 y2 y3 y4 y5) ∧ Hid (B = true → Msg5.mk x1 x2 x3 x4 x5 = Msg5.mk y1 y2 y3 y4 y5) := by
        by_cases h : Msg5.mk x1 x2 x3 x4 x5 = Msg5.mk y1 y2 y3 y4 y5
        · exact ⟨true, show true = true ↔ _ from ⟨fun _ => h, fun _ => rfl⟩, (fun e => by cases e), fun _ => h⟩
        · exact ⟨false, show false = true ↔ _ from ⟨fun e => (by cases e), fun g => absurd g h⟩, fun _ => h, fun e => by cases e⟩
      have heq := fun w => neqM x1 x2 y1 y2 x3 x4 y3 y4 x5 y5 B hB w
      have hgd := fun (a b : Operand) (w : World) => guardM .neq a b #[.int .i64 x1, .int .i64 x2, .string x3, .string x4, .int .i64 x5] #[.int .i64 y1, .int .i64 y2, .string y3, .string y4, .int .i64 y5] w
      clear hB
      clear g1 g2
      cases B
      · obtain rfl : r = false := by
          cases r
          · rfl
          · have e := hr.out.1 rfl
            have h3 := e1.out
            rw [e, e2.out] at h3
            exact absurd (Option.some.inj h3).symm (hBf.out rfl)
        go_wp2_with fail
        go_quiet (fail)
        go_wp2_with fail
        go_ret
        exact ⟨rfl, q + nq, by rw [World.drewN_drewN]⟩
      · have HT : Hid (xs.take (k + 1) = ys.take (k + 1)) := by
          show _ = _
          have e : Msg5.mk x1 x2 x3 x4 x5 = Msg5.mk y1 y2 y3 y4 y5 := hBt.out rfl
          rw [take_snocE e1.out, take_snocE e2.out, ht.out, e]
        clear ht
        go_wp2_with fail
        go_quiet (fail)
        go_wp2_with fail
        go_roundw
        case rel => exact ⟨k + 1, q + nq, by omega, by go_num, rfl, HT⟩
        case measure => simp [intOf]; omega
    · obtain rfl : k = n := by omega
      obtain rfl : r = true := by
        refine hr.out.2 ?_
        have e := ht.out
        rw [List.take_of_length_le (by rw [hx.out]; exact Nat.le_refl _), List.take_of_length_le (by rw [hy.out]; exact Nat.le_refl _)] at e
        exact e
      go_wp2_with fail
      go_ret
      exact ⟨rfl, q, rfl⟩

set_option maxRecDepth 100000 in
set_option maxHeartbeats 4000000 in
theorem refctx_any (a1 a2 b1 b2 : Option Addr) (n1 k1 n2 k2 m1 j1 m2 j2 : Nat) (bs cl bs' cl' : List Dot2) (h1 : Hid (bs.length = n1)) (h2 : Hid (cl.length = n2)) (h3 : Hid (bs'.length = m1)) (h4 : Hid (cl'.length = m2)) (hm : n1 ≤ 1000000) (hm2 : n2 ≤ 1000000) (r : Bool) (hr : Hid (r = true ↔ bs = bs' ∧ cl = cl')) (w : World) (s1 : SlP w a1 bs) (s2 : SlP w a2 cl) (s3 : SlP w b1 bs') (s4 : SlP w b2 cl') :
    Calls Try.prog 53 #[.agg #[.slice a1 n1 k1, .slice a2 n2 k2], .agg #[.slice b1 m1 j1, .slice b2 m2 j2]] w fun e w' => e = .returned (.bool r) ∧ Below w.heap.size w w' := by
  obtain ⟨wa, hwa⟩ := nm (w.alloc (.cells #[.slice a1 n1 k1, .slice a2 n2 k2] 25))
  obtain ⟨w0, hw0⟩ := nm (wa.alloc (.cells #[.slice b1 m1 j1, .slice b2 m2 j2] 25))
  obtain ⟨x, hx⟩ := nm w.heap.size
  obtain ⟨y, hy⟩ := nm wa.heap.size
  have Kx : Hid (Blk w0 x #[.slice a1 n1 k1, .slice a2 n2 k2] 25) := by show Blk _ _ _ _; rw [hw0.out]; exact (blkN hwa.out hx.out).alloc _
  have Ky : Hid (Blk w0 y #[.slice b1 m1 j1, .slice b2 m2 j2] 25) := blkN hw0.out hy.out
  have HB0 : Hid (Below w.heap.size w w0) := by rw [hw0.out, hwa.out]; exact bNew (bOld _) _
  have HS1 : Hid (SlE eDot 2 w0 a1 bs) := (s1.below HB0.out).rows
  have HS2 : Hid (SlE eDot 2 w0 a2 cl) := (s2.below HB0.out).rows
  have HS3 : Hid (SlE eDot 2 w0 b1 bs') := (s3.below HB0.out).rows
  have HS4 : Hid (SlE eDot 2 w0 b2 cl') := (s4.below HB0.out).rows
  have HSZ : Hid (x + 1 = y) := by show _ = _; rw [hy.out, hwa.out, hx.out]; simp
  clear s1 s2 s3 s4
  obtain ⟨A, hA⟩ := nm (decide (bs = bs'))
  obtain ⟨B, hB⟩ := nm (decide (cl = cl'))
  have hR : Hid (r = (A && B)) := by
    show _ = _
    rw [Bool.eq_iff_iff, hr.out, hA.out, hB.out, Bool.and_eq_true, decide_eq_true_iff, decide_eq_true_iff]
  go_enter Try.func53, Try.ntmps53
  go_upto_region 1 with fail
  rw [← hwa.out, ← hw0.out, ← hx.out]
  rw [HSZ.out]
  have c0 : w0.cell? ⟨x, 0, none⟩ = some (.slice a1 n1 k1) := Kx.out.cell 0
  have c1 : w0.cell? ⟨x, 1, none⟩ = some (.slice a2 n2 k2) := Kx.out.cell 1
  have d0 : w0.cell? ⟨y, 0, none⟩ = some (.slice b1 m1 j1) := Ky.out.cell 0
  have d1 : w0.cell? ⟨y, 1, none⟩ = some (.slice b2 m2 j2) := Ky.out.cell 1
  go_wp2_with fail
  refine (refdots_any a1 b1 k1 j1 n1 m1 bs bs' h1 h3 _ (by omega) HS1.out HS3.out A hA).mono ?_; rintro e w1 ⟨rfl, q, rfl⟩
  go_wp2_with fail
  refine (refdots_any a2 b2 k2 j2 n2 m2 cl cl' h2 h4 _ (by omega) (HS2.out.below (bDrewN (Below.refl _ _) _)) (HS4.out.below (bDrewN (Below.refl _ _) _)) B hB).mono ?_; rintro e w1 ⟨rfl, q', rfl⟩
  cases A
  · obtain rfl : r = false := by rw [hR.out]; rfl
    go_wp2_with fail
    go_ret
    exact ⟨rfl, bDrewN HB0.out _⟩
  · obtain rfl : r = B := by rw [hR.out]; simp
    go_wp2_with fail
    go_ret
    exact ⟨rfl, bDrewN HB0.out _⟩

set_option maxRecDepth 100000 in
set_option maxHeartbeats 4000000 in
theorem refbag_any (am ab ac am' ab' ac' : Option Addr) (nl kl nb kb nc kc nl' kl' nb' kb' nc' kc' : Nat) (live live' : List Msg5) (bs cl bs' cl' : List Dot2) (h0 : Hid (live.length = nl)) (h1 : Hid (bs.length = nb)) (h2 : Hid (cl.length = nc)) (h0' : Hid (live'.length = nl')) (h3 : Hid (bs'.length = nb')) (h4 : Hid (cl'.length = nc')) (hm0 : nl ≤ 1000000) (hm : nb ≤ 1000000) (hm2 : nc ≤ 1000000) (r : Bool) (hr : Hid (r = true ↔ live = live' ∧ bs = bs' ∧ cl = cl')) (w : World) (s0 : SlE eMsg 5 w am live) (s1 : SlP w ab bs) (s2 : SlP w ac cl) (s0' : SlE eMsg 5 w am' live') (s3 : SlP w ab' bs') (s4 : SlP w ac' cl') :
    Calls Try.prog 19 #[.agg #[.slice am nl kl, .slice ab nb kb, .slice ac nc kc], .agg #[.slice am' nl' kl', .slice ab' nb' kb', .slice ac' nc' kc']] w fun e w' => e = .returned (.bool r) ∧ Below w.heap.size w w' := by
  obtain ⟨wa, hwa⟩ := nm (w.alloc (.cells #[.slice am nl kl, .slice ab nb kb, .slice ac nc kc] 27))
  obtain ⟨w0, hw0⟩ := nm (wa.alloc (.cells #[.slice am' nl' kl', .slice ab' nb' kb', .slice ac' nc' kc'] 27))
  obtain ⟨x, hx⟩ := nm w.heap.size
  obtain ⟨y, hy⟩ := nm wa.heap.size
  have Kx : Hid (Blk w0 x #[.slice am nl kl, .slice ab nb kb, .slice ac nc kc] 27) := by show Blk _ _ _ _; rw [hw0.out]; exact (blkN hwa.out hx.out).alloc _
  have Ky : Hid (Blk w0 y #[.slice am' nl' kl', .slice ab' nb' kb', .slice ac' nc' kc'] 27) := blkN hw0.out hy.out
  have HB0 : Hid (Below w.heap.size w w0) := by rw [hw0.out, hwa.out]; exact bNew (bOld _) _
  have HS0 : Hid (SlE eMsg 5 w0 am live) := s0.below HB0.out
  have HS0' : Hid (SlE eMsg 5 w0 am' live') := s0'.below HB0.out
  have HS1 : Hid (SlP w0 ab bs) := s1.below HB0.out
  have HS2 : Hid (SlP w0 ac cl) := s2.below HB0.out
  have HS3 : Hid (SlP w0 ab' bs') := s3.below HB0.out
  have HS4 : Hid (SlP w0 ac' cl') := s4.below HB0.out
  have HSZ : Hid (x + 1 = y) := by show _ = _; rw [hy.out, hwa.out, hx.out]; simp
  clear s1 s2 s3 s4 s0 s0'
  obtain ⟨A, hA, hAf, hAt⟩ := boolOf (bs = bs' ∧ cl = cl')
  obtain ⟨B, hB, hBf, hBt⟩ := boolOf (live = live')
  have hR : Hid (r = (A && B)) := by
    show _ = _
    rw [Bool.eq_iff_iff, hr.out, Bool.and_eq_true, hA.out, hB.out]
    exact ⟨fun h => ⟨h.2, h.1⟩, fun h => ⟨h.2, h.1⟩⟩
  go_enter Try.func19, Try.ntmps19
  go_upto_region 1 with fail
  rw [← hwa.out, ← hw0.out, ← hx.out]
  rw [HSZ.out]
  have c0 : w0.cell? ⟨x, 0, none⟩ = some (.slice am nl kl) := Kx.out.cell 0
  have d0 : w0.cell? ⟨y, 0, none⟩ = some (.slice am' nl' kl') := Ky.out.cell 0
  have c1 : w0.cell? ⟨x, 1, none⟩ = some (.slice ab nb kb) := Kx.out.cell 1
  have d1 : w0.cell? ⟨y, 1, none⟩ = some (.slice ab' nb' kb') := Ky.out.cell 1
  have c2 : w0.cell? ⟨x, 2, none⟩ = some (.slice ac nc kc) := Kx.out.cell 2
  have d2 : w0.cell? ⟨y, 2, none⟩ = some (.slice ac' nc' kc') := Ky.out.cell 2
  go_wp2_with fail
  refine (refmsgs_any am am' kl kl' nl nl' live live' h0 h0' _ (by omega) HS0.out HS0'.out B hB).mono ?_; rintro e w1 ⟨rfl, q', rfl⟩
  go_wp2_with fail
  refine (refctx_any ab ac ab' ac' nb kb nc kc nb' kb' nc' kc' bs cl bs' cl' h1 h2 h3 h4 hm hm2 A hA _ (HS1.out.below (bDrewN (Below.refl _ _) _)) (HS2.out.below (bDrewN (Below.refl _ _) _)) (HS3.out.below (bDrewN (Below.refl _ _) _)) (HS4.out.below (bDrewN (Below.refl _ _) _))).mono ?_; rintro e w1 ⟨rfl, hB1⟩
  clear c0 d0 c1 d1 c2 d2
  cases B
  · obtain rfl : r = false := by rw [hR.out]; simp
    go_wp2_with fail
    go_ret
    exact ⟨rfl, bNext (bDrewN HB0.out _) hB1⟩
  · obtain rfl : r = A := by rw [hR.out]; simp
    go_wp2_with fail
    go_ret
    exact ⟨rfl, bNext (bDrewN HB0.out _) hB1⟩
end Go.Proofs.Ytfpjdmplepepjaa

/-! WireAwake: Wire's Same, of the chapter's example; awake. -/
namespace Go.Proofs.Ytfpjdmplepepjaa
open Go.RowKit

set_option maxRecDepth 100000 in
set_option maxHeartbeats 16000000 in
theorem same7 (w : World) : Calls Try.prog 16 #[.agg #[.int .i64 7, .int .i64 1, .int .i64 0, .int .i64 0, .int .i64 0, .string ⟨#[]⟩, .slice none 0 0, .slice none 0 0, .slice none 0 0, .slice none 0 0, .slice none 0 0, .int .i64 0, .int .i64 0, .int .i64 0, .int .i64 0], .agg #[.int .i64 7, .int .i64 1, .int .i64 0, .int .i64 0, .int .i64 0, .string ⟨#[]⟩, .slice none 0 0, .slice none 0 0, .slice none 0 0, .slice none 0 0, .slice none 0 0, .int .i64 0, .int .i64 0, .int .i64 0, .int .i64 0]] w fun e w' => e = .returned (.bool true) ∧ Below w.heap.size w w' := by
  obtain ⟨w0, hw0⟩ := nm ((w.alloc (.cells #[.int .i64 7, .int .i64 1, .int .i64 0, .int .i64 0, .int .i64 0, .string ⟨#[]⟩, .slice none 0 0, .slice none 0 0, .slice none 0 0, .slice none 0 0, .slice none 0 0, .int .i64 0, .int .i64 0, .int .i64 0, .int .i64 0] 33)).alloc (.cells #[.int .i64 7, .int .i64 1, .int .i64 0, .int .i64 0, .int .i64 0, .string ⟨#[]⟩, .slice none 0 0, .slice none 0 0, .slice none 0 0, .slice none 0 0, .slice none 0 0, .int .i64 0, .int .i64 0, .int .i64 0, .int .i64 0] 33))
  obtain ⟨x, hx⟩ := nm w.heap.size
  obtain ⟨y, hy⟩ := nm (x + 1)
  have Kx : Hid (Blk w0 x #[.int .i64 7, .int .i64 1, .int .i64 0, .int .i64 0, .int .i64 0, .string ⟨#[]⟩, .slice none 0 0, .slice none 0 0, .slice none 0 0, .slice none 0 0, .slice none 0 0, .int .i64 0, .int .i64 0, .int .i64 0, .int .i64 0] 33) := by show Blk _ _ _ _; rw [hw0.out, hx.out]; exact (Blk.new _ _ _).alloc _
  have Ky : Hid (Blk w0 y #[.int .i64 7, .int .i64 1, .int .i64 0, .int .i64 0, .int .i64 0, .string ⟨#[]⟩, .slice none 0 0, .slice none 0 0, .slice none 0 0, .slice none 0 0, .slice none 0 0, .int .i64 0, .int .i64 0, .int .i64 0, .int .i64 0] 33) := by show Blk _ _ _ _; rw [hw0.out, hy.out, hx.out]; exact blk_at (by simp)
  have HB : Hid (Below w.heap.size w w0) := by show Below _ _ _; rw [hw0.out]; exact bNew (bOld _) _
  have hlx : x < w0.heap.size := Kx.out.lt
  have hly : y < w0.heap.size := Ky.out.lt
  have cx0 : w0.cell? ⟨x, 0, none⟩ = some (.int .i64 7) := Kx.out.cell 0
  have cy0 : w0.cell? ⟨y, 0, none⟩ = some (.int .i64 7) := Ky.out.cell 0
  have cx1 : w0.cell? ⟨x, 1, none⟩ = some (.int .i64 1) := Kx.out.cell 1
  have cy1 : w0.cell? ⟨y, 1, none⟩ = some (.int .i64 1) := Ky.out.cell 1
  have cx2 : w0.cell? ⟨x, 2, none⟩ = some (.int .i64 0) := Kx.out.cell 2
  have cy2 : w0.cell? ⟨y, 2, none⟩ = some (.int .i64 0) := Ky.out.cell 2
  have cx3 : w0.cell? ⟨x, 3, none⟩ = some (.int .i64 0) := Kx.out.cell 3
  have cy3 : w0.cell? ⟨y, 3, none⟩ = some (.int .i64 0) := Ky.out.cell 3
  have cx4 : w0.cell? ⟨x, 4, none⟩ = some (.int .i64 0) := Kx.out.cell 4
  have cy4 : w0.cell? ⟨y, 4, none⟩ = some (.int .i64 0) := Ky.out.cell 4
  have cx5 : w0.cell? ⟨x, 5, none⟩ = some (.string ⟨#[]⟩) := Kx.out.cell 5
  have cy5 : w0.cell? ⟨y, 5, none⟩ = some (.string ⟨#[]⟩) := Ky.out.cell 5
  have cx6 : w0.cell? ⟨x, 6, none⟩ = some (.slice none 0 0) := Kx.out.cell 6
  have cy6 : w0.cell? ⟨y, 6, none⟩ = some (.slice none 0 0) := Ky.out.cell 6
  have cx7 : w0.cell? ⟨x, 7, none⟩ = some (.slice none 0 0) := Kx.out.cell 7
  have cy7 : w0.cell? ⟨y, 7, none⟩ = some (.slice none 0 0) := Ky.out.cell 7
  have cx8 : w0.cell? ⟨x, 8, none⟩ = some (.slice none 0 0) := Kx.out.cell 8
  have cy8 : w0.cell? ⟨y, 8, none⟩ = some (.slice none 0 0) := Ky.out.cell 8
  have cx9 : w0.cell? ⟨x, 9, none⟩ = some (.slice none 0 0) := Kx.out.cell 9
  have cy9 : w0.cell? ⟨y, 9, none⟩ = some (.slice none 0 0) := Ky.out.cell 9
  have cx10 : w0.cell? ⟨x, 10, none⟩ = some (.slice none 0 0) := Kx.out.cell 10
  have cy10 : w0.cell? ⟨y, 10, none⟩ = some (.slice none 0 0) := Ky.out.cell 10
  have cx11 : w0.cell? ⟨x, 11, none⟩ = some (.int .i64 0) := Kx.out.cell 11
  have cy11 : w0.cell? ⟨y, 11, none⟩ = some (.int .i64 0) := Ky.out.cell 11
  have cx12 : w0.cell? ⟨x, 12, none⟩ = some (.int .i64 0) := Kx.out.cell 12
  have cy12 : w0.cell? ⟨y, 12, none⟩ = some (.int .i64 0) := Ky.out.cell 12
  have cx13 : w0.cell? ⟨x, 13, none⟩ = some (.int .i64 0) := Kx.out.cell 13
  have cy13 : w0.cell? ⟨y, 13, none⟩ = some (.int .i64 0) := Ky.out.cell 13
  have cx14 : w0.cell? ⟨x, 14, none⟩ = some (.int .i64 0) := Kx.out.cell 14
  have cy14 : w0.cell? ⟨y, 14, none⟩ = some (.int .i64 0) := Ky.out.cell 14
  have HKEEP : Hid (∀ wa : World, Below w0.drew.heap.size w0.drew wa → wa.cell? ⟨x, 0, none⟩ = some (.int .i64 7) ∧ wa.cell? ⟨x, 1, none⟩ = some (.int .i64 1) ∧ wa.cell? ⟨x, 2, none⟩ = some (.int .i64 0) ∧ wa.cell? ⟨x, 3, none⟩ = some (.int .i64 0) ∧ wa.cell? ⟨x, 4, none⟩ = some (.int .i64 0) ∧ wa.cell? ⟨x, 5, none⟩ = some (.string ⟨#[]⟩) ∧ wa.cell? ⟨x, 6, none⟩ = some (.slice none 0 0) ∧ wa.cell? ⟨x, 7, none⟩ = some (.slice none 0 0) ∧ wa.cell? ⟨x, 8, none⟩ = some (.slice none 0 0) ∧ wa.cell? ⟨x, 9, none⟩ = some (.slice none 0 0) ∧ wa.cell? ⟨x, 10, none⟩ = some (.slice none 0 0) ∧ wa.cell? ⟨x, 11, none⟩ = some (.int .i64 0) ∧ wa.cell? ⟨x, 12, none⟩ = some (.int .i64 0) ∧ wa.cell? ⟨x, 13, none⟩ = some (.int .i64 0) ∧ wa.cell? ⟨x, 14, none⟩ = some (.int .i64 0) ∧ wa.cell? ⟨y, 0, none⟩ = some (.int .i64 7) ∧ wa.cell? ⟨y, 1, none⟩ = some (.int .i64 1) ∧ wa.cell? ⟨y, 2, none⟩ = some (.int .i64 0) ∧ wa.cell? ⟨y, 3, none⟩ = some (.int .i64 0) ∧ wa.cell? ⟨y, 4, none⟩ = some (.int .i64 0) ∧ wa.cell? ⟨y, 5, none⟩ = some (.string ⟨#[]⟩) ∧ wa.cell? ⟨y, 6, none⟩ = some (.slice none 0 0) ∧ wa.cell? ⟨y, 7, none⟩ = some (.slice none 0 0) ∧ wa.cell? ⟨y, 8, none⟩ = some (.slice none 0 0) ∧ wa.cell? ⟨y, 9, none⟩ = some (.slice none 0 0) ∧ wa.cell? ⟨y, 10, none⟩ = some (.slice none 0 0) ∧ wa.cell? ⟨y, 11, none⟩ = some (.int .i64 0) ∧ wa.cell? ⟨y, 12, none⟩ = some (.int .i64 0) ∧ wa.cell? ⟨y, 13, none⟩ = some (.int .i64 0) ∧ wa.cell? ⟨y, 14, none⟩ = some (.int .i64 0)) := by
    show ∀ wa : World, _
    intro wa h
    exact ⟨(h.cell (p := ⟨x, 0, none⟩) hlx).trans cx0, (h.cell (p := ⟨x, 1, none⟩) hlx).trans cx1, (h.cell (p := ⟨x, 2, none⟩) hlx).trans cx2, (h.cell (p := ⟨x, 3, none⟩) hlx).trans cx3, (h.cell (p := ⟨x, 4, none⟩) hlx).trans cx4, (h.cell (p := ⟨x, 5, none⟩) hlx).trans cx5, (h.cell (p := ⟨x, 6, none⟩) hlx).trans cx6, (h.cell (p := ⟨x, 7, none⟩) hlx).trans cx7, (h.cell (p := ⟨x, 8, none⟩) hlx).trans cx8, (h.cell (p := ⟨x, 9, none⟩) hlx).trans cx9, (h.cell (p := ⟨x, 10, none⟩) hlx).trans cx10, (h.cell (p := ⟨x, 11, none⟩) hlx).trans cx11, (h.cell (p := ⟨x, 12, none⟩) hlx).trans cx12, (h.cell (p := ⟨x, 13, none⟩) hlx).trans cx13, (h.cell (p := ⟨x, 14, none⟩) hlx).trans cx14, (h.cell (p := ⟨y, 0, none⟩) hly).trans cy0, (h.cell (p := ⟨y, 1, none⟩) hly).trans cy1, (h.cell (p := ⟨y, 2, none⟩) hly).trans cy2, (h.cell (p := ⟨y, 3, none⟩) hly).trans cy3, (h.cell (p := ⟨y, 4, none⟩) hly).trans cy4, (h.cell (p := ⟨y, 5, none⟩) hly).trans cy5, (h.cell (p := ⟨y, 6, none⟩) hly).trans cy6, (h.cell (p := ⟨y, 7, none⟩) hly).trans cy7, (h.cell (p := ⟨y, 8, none⟩) hly).trans cy8, (h.cell (p := ⟨y, 9, none⟩) hly).trans cy9, (h.cell (p := ⟨y, 10, none⟩) hly).trans cy10, (h.cell (p := ⟨y, 11, none⟩) hly).trans cy11, (h.cell (p := ⟨y, 12, none⟩) hly).trans cy12, (h.cell (p := ⟨y, 13, none⟩) hly).trans cy13, (h.cell (p := ⟨y, 14, none⟩) hly).trans cy14⟩
  have heq : ∀ w : World, Sem.run Try.prog (binOp .eql 54 (.agg #[.int .i64 7, .int .i64 1, .int .i64 0, .int .i64 0, .int .i64 0, .int .i64 0, .int .i64 0, .int .i64 0, .int .i64 0]) (.agg #[.int .i64 7, .int .i64 1, .int .i64 0, .int .i64 0, .int .i64 0, .int .i64 0, .int .i64 0, .int .i64 0, .int .i64 0])) w = .ok (.bool true) w := fun w => by kernel_rfl
  have hgd := fun (a b : Operand) (w : World) => run_eqGuard_agg (P := Try.prog) w .eql 54 a b #[.int .i64 7, .int .i64 1, .int .i64 0, .int .i64 0, .int .i64 0, .int .i64 0, .int .i64 0, .int .i64 0, .int .i64 0] #[.int .i64 7, .int .i64 1, .int .i64 0, .int .i64 0, .int .i64 0, .int .i64 0, .int .i64 0, .int .i64 0, .int .i64 0] (by kernel_rfl)
  have hT : True := trivial
  go_enter Try.func16, Try.ntmps16
  go_upto_region 1 with fail
  rw [← hw0.out, ← hx.out, ← hy.out]
  go_region_held3 (fun w' => w'.cell? ⟨x, 0, none⟩ = some (.int .i64 7) ∧ w'.cell? ⟨x, 1, none⟩ = some (.int .i64 1) ∧ w'.cell? ⟨x, 2, none⟩ = some (.int .i64 0) ∧ w'.cell? ⟨x, 3, none⟩ = some (.int .i64 0) ∧ w'.cell? ⟨x, 4, none⟩ = some (.int .i64 0) ∧ w'.cell? ⟨x, 5, none⟩ = some (.string ⟨#[]⟩) ∧ w'.cell? ⟨x, 6, none⟩ = some (.slice none 0 0) ∧ w'.cell? ⟨x, 7, none⟩ = some (.slice none 0 0) ∧ w'.cell? ⟨x, 8, none⟩ = some (.slice none 0 0) ∧ w'.cell? ⟨x, 9, none⟩ = some (.slice none 0 0) ∧ w'.cell? ⟨x, 10, none⟩ = some (.slice none 0 0) ∧ w'.cell? ⟨x, 11, none⟩ = some (.int .i64 0) ∧ w'.cell? ⟨x, 12, none⟩ = some (.int .i64 0) ∧ w'.cell? ⟨x, 13, none⟩ = some (.int .i64 0) ∧ w'.cell? ⟨x, 14, none⟩ = some (.int .i64 0) ∧ w'.cell? ⟨y, 0, none⟩ = some (.int .i64 7) ∧ w'.cell? ⟨y, 1, none⟩ = some (.int .i64 1) ∧ w'.cell? ⟨y, 2, none⟩ = some (.int .i64 0) ∧ w'.cell? ⟨y, 3, none⟩ = some (.int .i64 0) ∧ w'.cell? ⟨y, 4, none⟩ = some (.int .i64 0) ∧ w'.cell? ⟨y, 5, none⟩ = some (.string ⟨#[]⟩) ∧ w'.cell? ⟨y, 6, none⟩ = some (.slice none 0 0) ∧ w'.cell? ⟨y, 7, none⟩ = some (.slice none 0 0) ∧ w'.cell? ⟨y, 8, none⟩ = some (.slice none 0 0) ∧ w'.cell? ⟨y, 9, none⟩ = some (.slice none 0 0) ∧ w'.cell? ⟨y, 10, none⟩ = some (.slice none 0 0) ∧ w'.cell? ⟨y, 11, none⟩ = some (.int .i64 0) ∧ w'.cell? ⟨y, 12, none⟩ = some (.int .i64 0) ∧ w'.cell? ⟨y, 13, none⟩ = some (.int .i64 0) ∧ w'.cell? ⟨y, 14, none⟩ = some (.int .i64 0))
    (first
      | exact HKEEP.out _ (bNext (bNext h1 h2) h3)
      | exact HKEEP.out _ (bNext h1 h2)
      | exact HKEEP.out _ h1
      | exact ⟨cell_dr cx0, cell_dr cx1, cell_dr cx2, cell_dr cx3, cell_dr cx4, cell_dr cx5, cell_dr cx6, cell_dr cx7, cell_dr cx8, cell_dr cx9, cell_dr cx10, cell_dr cx11, cell_dr cx12, cell_dr cx13, cell_dr cx14, cell_dr cy0, cell_dr cy1, cell_dr cy2, cell_dr cy3, cell_dr cy4, cell_dr cy5, cell_dr cy6, cell_dr cy7, cell_dr cy8, cell_dr cy9, cell_dr cy10, cell_dr cy11, cell_dr cy12, cell_dr cy13, cell_dr cy14⟩
      | exact ⟨cx0, cx1, cx2, cx3, cx4, cx5, cx6, cx7, cx8, cx9, cx10, cx11, cx12, cx13, cx14, cy0, cy1, cy2, cy3, cy4, cy5, cy6, cy7, cy8, cy9, cy10, cy11, cy12, cy13, cy14⟩)
    (first
      | (go_at_call 20; clear hT; refine (numbers_any 7 1 0 0 0 0 0 0 0 _).mono ?_; rintro e v1 ⟨rfl, h1⟩)
      | (go_at_call 20; refine (numbers_any 7 1 0 0 0 0 0 0 0 _).mono ?_; rintro e v2 ⟨rfl, h2⟩)
      | (go_at_call 45; refine (bagsame0 _).mono ?_; rintro e v3 ⟨rfl, h3⟩)
      | (go_at_call 46; refine (sameT0 _).mono ?_; rintro e v4 ⟨rfl, rfl⟩)
      | (go_at_call 47; refine (sameP0 _).mono ?_; rintro e v5 ⟨rfl, rfl⟩))
  go_wp2_with fail
  go_ret
  exact ⟨rfl, bNext (bDrew HB.out) (bNext (bNext h1 h2) h3)⟩

set_option maxRecDepth 100000 in
set_option maxHeartbeats 16000000 in
theorem awake_any (w : World) : Calls Try.prog 8 #[] w fun e w' => e = .returned (.bool true) ∧ Below w.heap.size w w' := by
  obtain ⟨w0, hw0⟩ := nm (w.alloc (.cells #[.int .i64 7, .int .i64 1, .int .i64 0, .int .i64 0, .int .i64 0, .string ⟨#[]⟩, .slice none 0 0, .slice none 0 0, .slice none 0 0, .slice none 0 0, .slice none 0 0, .int .i64 0, .int .i64 0, .int .i64 0, .int .i64 0] 33))
  obtain ⟨x, hx⟩ := nm w.heap.size
  have Kx : Hid (Blk w0 x #[.int .i64 7, .int .i64 1, .int .i64 0, .int .i64 0, .int .i64 0, .string ⟨#[]⟩, .slice none 0 0, .slice none 0 0, .slice none 0 0, .slice none 0 0, .slice none 0 0, .int .i64 0, .int .i64 0, .int .i64 0, .int .i64 0] 33) := by show Blk _ _ _ _; rw [hw0.out, hx.out]; exact Blk.new _ _ _
  have HB : Hid (Below w.heap.size w w0) := by show Below _ _ _; rw [hw0.out]; exact bOld _
  obtain ⟨S, hS⟩ := nm (ofL (wireL [7, 1, 0, 0, 0, 0, 0, 0, 0]))
  have hSp : 0 < S.size := by
    rw [hS.out, ofL_size]
    unfold wireL
    simp
  have HBY : Hid (∀ w, Calls Try.prog 10 #[.agg #[.int .i64 7, .int .i64 1, .int .i64 0, .int .i64 0, .int .i64 0, .string ⟨#[]⟩, .slice none 0 0, .slice none 0 0, .slice none 0 0, .slice none 0 0, .slice none 0 0, .int .i64 0, .int .i64 0, .int .i64 0, .int .i64 0]] w fun e w' => e = .returned (.tuple #[.string S, .int .i64 0]) ∧ Below w.heap.size w w') := by intro w; rw [hS.out]; exact bytes_ok 7 1 0 0 0 0 0 0 0 (by decide) (by decide) w
  have HRD : Hid (∀ w, Calls Try.prog 14 #[.string S] w fun e w' => e = .returned (.tuple #[.agg #[.int .i64 7, .int .i64 1, .int .i64 0, .int .i64 0, .int .i64 0, .string ⟨#[]⟩, .slice none 0 0, .slice none 0 0, .slice none 0 0, .slice none 0 0, .slice none 0 0, .int .i64 0, .int .i64 0, .int .i64 0, .int .i64 0], .int .i64 0]) ∧ Below w.heap.size w w') := by intro w; rw [hS.out]; exact read_ok 7 1 0 0 0 0 0 0 0 (by decide) (by decide) w
  go_enter Try.func8, Try.ntmps8
  go_upto_region 2 with fail
  rw [← hw0.out, ← hx.out]
  have c0 : w0.cell? ⟨x, 0, none⟩ = some (.int .i64 7) := Kx.out.cell 0
  have c1 : w0.cell? ⟨x, 1, none⟩ = some (.int .i64 1) := Kx.out.cell 1
  have c2 : w0.cell? ⟨x, 2, none⟩ = some (.int .i64 0) := Kx.out.cell 2
  have c3 : w0.cell? ⟨x, 3, none⟩ = some (.int .i64 0) := Kx.out.cell 3
  have c4 : w0.cell? ⟨x, 4, none⟩ = some (.int .i64 0) := Kx.out.cell 4
  have c5 : w0.cell? ⟨x, 5, none⟩ = some (.string ⟨#[]⟩) := Kx.out.cell 5
  have c6 : w0.cell? ⟨x, 6, none⟩ = some (.slice none 0 0) := Kx.out.cell 6
  have c7 : w0.cell? ⟨x, 7, none⟩ = some (.slice none 0 0) := Kx.out.cell 7
  have c8 : w0.cell? ⟨x, 8, none⟩ = some (.slice none 0 0) := Kx.out.cell 8
  have c9 : w0.cell? ⟨x, 9, none⟩ = some (.slice none 0 0) := Kx.out.cell 9
  have c10 : w0.cell? ⟨x, 10, none⟩ = some (.slice none 0 0) := Kx.out.cell 10
  have c11 : w0.cell? ⟨x, 11, none⟩ = some (.int .i64 0) := Kx.out.cell 11
  have c12 : w0.cell? ⟨x, 12, none⟩ = some (.int .i64 0) := Kx.out.cell 12
  have c13 : w0.cell? ⟨x, 13, none⟩ = some (.int .i64 0) := Kx.out.cell 13
  have c14 : w0.cell? ⟨x, 14, none⟩ = some (.int .i64 0) := Kx.out.cell 14
  go_wp2_with fail
  refine (HBY.out _).mono ?_; rintro e w1 ⟨rfl, h1⟩
  replace Kx := Lib.hid (Kx.out.below h1 Kx.out.lt)
  replace HB := Lib.hid (bNext HB.out h1)
  clear h1 c0 c1 c2 c3 c4 c5 c6 c7 c8 c9 c10 c11 c12 c13 c14
  go_wp2_with fail
  refine (HRD.out _).mono ?_; rintro e w2 ⟨rfl, h2⟩
  replace Kx := Lib.hid (Kx.out.below h2 Kx.out.lt)
  replace HB := Lib.hid (bNext HB.out h2)
  obtain ⟨y, hy⟩ := nm w2.heap.size
  obtain ⟨w3, hw3⟩ := nm (w2.alloc (.cells #[.int .i64 7, .int .i64 1, .int .i64 0, .int .i64 0, .int .i64 0, .string ⟨#[]⟩, .slice none 0 0, .slice none 0 0, .slice none 0 0, .slice none 0 0, .slice none 0 0, .int .i64 0, .int .i64 0, .int .i64 0, .int .i64 0] 33))
  have Ky : Hid (Blk w3 y #[.int .i64 7, .int .i64 1, .int .i64 0, .int .i64 0, .int .i64 0, .string ⟨#[]⟩, .slice none 0 0, .slice none 0 0, .slice none 0 0, .slice none 0 0, .slice none 0 0, .int .i64 0, .int .i64 0, .int .i64 0, .int .i64 0] 33) := by show Blk _ _ _ _; rw [hw3.out, hy.out]; exact Blk.new _ _ _
  replace Kx : Hid (Blk w3 x #[.int .i64 7, .int .i64 1, .int .i64 0, .int .i64 0, .int .i64 0, .string ⟨#[]⟩, .slice none 0 0, .slice none 0 0, .slice none 0 0, .slice none 0 0, .slice none 0 0, .int .i64 0, .int .i64 0, .int .i64 0, .int .i64 0] 33) := by show Blk _ _ _ _; rw [hw3.out]; exact Kx.out.alloc _
  replace HB : Hid (Below w.heap.size w w3) := by show Below _ _ _; rw [hw3.out]; exact bNew HB.out _
  clear h2
  go_upto_region 4 with fail
  rw [← hw3.out, ← hy.out]
  go_wp2_with fail
  refine (check_zero _).mono ?_; rintro e w4 ⟨rfl, h4⟩
  replace Kx := Lib.hid (Kx.out.below h4 Kx.out.lt)
  replace Ky := Lib.hid (Ky.out.below h4 Ky.out.lt)
  replace HB := Lib.hid (bNext HB.out h4)
  clear h4
  have c0 : w4.cell? ⟨x, 0, none⟩ = some (.int .i64 7) := Kx.out.cell 0
  have d0 : w4.cell? ⟨y, 0, none⟩ = some (.int .i64 7) := Ky.out.cell 0
  have c1 : w4.cell? ⟨x, 1, none⟩ = some (.int .i64 1) := Kx.out.cell 1
  have d1 : w4.cell? ⟨y, 1, none⟩ = some (.int .i64 1) := Ky.out.cell 1
  have c2 : w4.cell? ⟨x, 2, none⟩ = some (.int .i64 0) := Kx.out.cell 2
  have d2 : w4.cell? ⟨y, 2, none⟩ = some (.int .i64 0) := Ky.out.cell 2
  have c3 : w4.cell? ⟨x, 3, none⟩ = some (.int .i64 0) := Kx.out.cell 3
  have d3 : w4.cell? ⟨y, 3, none⟩ = some (.int .i64 0) := Ky.out.cell 3
  have c4 : w4.cell? ⟨x, 4, none⟩ = some (.int .i64 0) := Kx.out.cell 4
  have d4 : w4.cell? ⟨y, 4, none⟩ = some (.int .i64 0) := Ky.out.cell 4
  have c5 : w4.cell? ⟨x, 5, none⟩ = some (.string ⟨#[]⟩) := Kx.out.cell 5
  have d5 : w4.cell? ⟨y, 5, none⟩ = some (.string ⟨#[]⟩) := Ky.out.cell 5
  have c6 : w4.cell? ⟨x, 6, none⟩ = some (.slice none 0 0) := Kx.out.cell 6
  have d6 : w4.cell? ⟨y, 6, none⟩ = some (.slice none 0 0) := Ky.out.cell 6
  have c7 : w4.cell? ⟨x, 7, none⟩ = some (.slice none 0 0) := Kx.out.cell 7
  have d7 : w4.cell? ⟨y, 7, none⟩ = some (.slice none 0 0) := Ky.out.cell 7
  have c8 : w4.cell? ⟨x, 8, none⟩ = some (.slice none 0 0) := Kx.out.cell 8
  have d8 : w4.cell? ⟨y, 8, none⟩ = some (.slice none 0 0) := Ky.out.cell 8
  have c9 : w4.cell? ⟨x, 9, none⟩ = some (.slice none 0 0) := Kx.out.cell 9
  have d9 : w4.cell? ⟨y, 9, none⟩ = some (.slice none 0 0) := Ky.out.cell 9
  have c10 : w4.cell? ⟨x, 10, none⟩ = some (.slice none 0 0) := Kx.out.cell 10
  have d10 : w4.cell? ⟨y, 10, none⟩ = some (.slice none 0 0) := Ky.out.cell 10
  have c11 : w4.cell? ⟨x, 11, none⟩ = some (.int .i64 0) := Kx.out.cell 11
  have d11 : w4.cell? ⟨y, 11, none⟩ = some (.int .i64 0) := Ky.out.cell 11
  have c12 : w4.cell? ⟨x, 12, none⟩ = some (.int .i64 0) := Kx.out.cell 12
  have d12 : w4.cell? ⟨y, 12, none⟩ = some (.int .i64 0) := Ky.out.cell 12
  have c13 : w4.cell? ⟨x, 13, none⟩ = some (.int .i64 0) := Kx.out.cell 13
  have d13 : w4.cell? ⟨y, 13, none⟩ = some (.int .i64 0) := Ky.out.cell 13
  have c14 : w4.cell? ⟨x, 14, none⟩ = some (.int .i64 0) := Kx.out.cell 14
  have d14 : w4.cell? ⟨y, 14, none⟩ = some (.int .i64 0) := Ky.out.cell 14
  go_wp2_with fail
  refine (same7 _).mono ?_; rintro e w5 ⟨rfl, h5⟩
  replace HB := Lib.hid (bNext HB.out h5)
  clear h5 c0 d0 c1 d1 c2 d2 c3 d3 c4 d4 c5 d5 c6 d6 c7 d7 c8 d8 c9 d9 c10 d10 c11 d11 c12 d12 c13 d13 c14 d14
  go_wp2_with fail
  go_ret
  exact ⟨by simp, HB.out⟩
end Go.Proofs.Ytfpjdmplepepjaa

