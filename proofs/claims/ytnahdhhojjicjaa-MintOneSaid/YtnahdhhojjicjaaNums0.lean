/- Small walks of chapter 1's laws: short; Nums of a reader that has none. -/
import Derived.Test.YtnahdhhojjicjaaMintAwake
namespace Go.Proofs.Ytnahdhhojjicjaa
open Go.RowKit

set_option maxRecDepth 100000 in
set_option maxHeartbeats 400000 in
theorem short_any (s : ByteArray) (n : Nat) (w : World) (hn : n ≤ 1000000) :
    Calls Try.prog 14 #[.string s, .int .i64 (n : Int)] w fun e w' => e = .returned (.string (cutB s n)) ∧ w = w' := by
  have h10 := cutB_cases s n
  obtain ⟨s2, hs2⟩ := nm (cutB s n)
  rw [← hs2.out] at h10 ⊢
  rcases h10 with ⟨h, e⟩ | ⟨h, rfl⟩
  all_goals
    go_enter Try.func14, Try.ntmps14
    go_wp2_with fail
    go_ret
    exact ⟨rfl, rfl⟩

theorem Rd.int_torn (L : ByteArray) (m : Int) : (Rd.mk L true).int m = (⟨L, true⟩, 0) := by
  unfold Rd.int
  split <;> rfl
theorem Rd.text_torn (L : ByteArray) (m : Int) : (Rd.mk L true).text m = (⟨L, true⟩, ⟨#[]⟩) := by
  rw [Rd.text, Rd.int_torn, if_pos (Or.inl rfl)]

set_option maxRecDepth 100000 in
set_option maxHeartbeats 1000000 in
theorem rnums_torn (b : Nat) (L : ByteArray) (many most : Int) (w : World) (hr : IsRd w b ⟨L, true⟩) (hs : L.size ≤ 4611686018427387904) (hm : many ≤ 9223372036854775807) :
    Calls Try.prog 29 #[.pointer (some ⟨b, 0, none⟩), .int .i64 many, .int .i64 most] w fun e w' => e = .returned (.slice none 0 0) ∧ IsRd w' b ⟨L, true⟩ ∧ Kept b w w' := by
  have R0 := Lib.hid (Rd.int_torn L many)
  go_enter Try.func29, Try.ntmps29
  go_wp2_with fail
  refine (rint_any b ⟨L, true⟩ many _ (((hr.alloc _).alloc _).alloc _) hs hm).mono ?_; rintro e w1 ⟨rfl, h1, hk⟩
  rw [R0.out] at h1 ⊢
  have hbl := hr.lt
  have cO : w1.cell? ⟨w.heap.size + 1 + 1, 0, none⟩ = some (.slice none 0 0) := by
    have := (hk.blk (Blk.new _ _ _) (by simp; omega)).cell 0
    simpa using this
  replace hk := (((Kept.refl b w).alloc _).alloc _).alloc _ |>.trans hk
  go_wp2_with fail
  go_loop [13] (fun i => i = .int .i64 0) (fun _ => 0)
  case atStart => rfl
  case round =>
    obtain rfl := hrel
    go_wp2_with fail
    go_ret
    exact ⟨rfl, h1, hk⟩

/-- A text's bytes, cut short, are not read whole. -/
theorem cut_text (s : ByteArray) (hs : s.size ≤ 100) (K : Nat) (hK : K < s.size + 1) : ∃ L : ByteArray, (Rd.mk ((ofL (textL (bl s))).extract 0 K) false).text 1000 = (⟨L, true⟩, ⟨#[]⟩) ∧ L.size ≤ 101 := by
  have e : bl ((ofL (textL (bl s))).extract 0 K) = (UInt8.ofNat s.size :: bl s).take K := by
    rw [bl_extract, bl_ofL, textL, Pl.num_small _ (by rw [bl_length]; omega), bl_length]; rfl
  cases K with
  | zero =>
    have e1 : (Rd.mk ((ofL (textL (bl s))).extract 0 0) false).num = (⟨(ofL (textL (bl s))).extract 0 0, true⟩, 0) := by
      rw [Rd.num, e]; rfl
    refine ⟨(ofL (textL (bl s))).extract 0 0, ?_, by rw [ByteArray.size_extract]; omega⟩
    have e2 : (Rd.mk ((ofL (textL (bl s))).extract 0 0) false).int 1000 = (⟨(ofL (textL (bl s))).extract 0 0, true⟩, 0) := by
      rw [Rd.int, e1, if_neg (by simp)]
    rw [Rd.text, e2, if_pos (Or.inl rfl)]
  | succ k =>
    have h1 := Pl.rd_num s.size (by omega) ((bl s).take k)
    rw [Pl.num_small _ (by omega)] at h1
    have e1 : (Rd.mk ((ofL (textL (bl s))).extract 0 (k + 1)) false).num = (⟨ofL ((bl s).take k), false⟩, s.size) := by
      rw [Rd.num, e, List.take_succ_cons]
      show (match Pl.rdNum ([UInt8.ofNat s.size] ++ (bl s).take k) with | some (n, l) => ((⟨ofL l, false⟩ : Rd), n) | none => _) = _
      rw [h1]
    have e2 : (Rd.mk ((ofL (textL (bl s))).extract 0 (k + 1)) false).int 1000 = (⟨ofL ((bl s).take k), false⟩, s.size) := by
      rw [Rd.int, e1, if_neg (by simp; omega)]
    have hl : (ofL ((bl s).take k)).size = k := by rw [ofL_size, List.length_take, bl_length]; omega
    refine ⟨ofL ((bl s).take k), ?_, by omega⟩
    rw [Rd.text, e2, if_pos (Or.inr (by simp only; omega))]

end Go.Proofs.Ytnahdhhojjicjaa
