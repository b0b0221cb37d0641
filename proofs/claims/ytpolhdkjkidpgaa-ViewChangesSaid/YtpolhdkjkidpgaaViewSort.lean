/- slices.SortedFunc of a map's values, by IDs. -/
import Derived.Test.YtpolhdkjkidpgaaViewPut
import Derived.Test.YtpolhdkjkidpgaaPeerShelf
import Derived.Test.YtpolhdkjkidpgaaTripF
namespace Go.Proofs.Ytpolhdkjkidpgaa
open Go.RowKit Go.Maps Go.Sort Go.Shelf Go.Lib

set_option maxRecDepth 100000 in
set_option maxHeartbeats 400000 in
theorem cmpid_any (p0 p1 p2 q0 q1 q2 : Int) (w : World) :
    Calls Try.prog 38 #[.agg #[.int .i64 p0, .int .i64 p1, .int .i64 p2], .agg #[.int .i64 q0, .int .i64 q1, .int .i64 q2]] w fun e w' => e = .returned (.int .i64 (Lib.compareInt p0 q0)) ∧ ∃ q os', w' = grow (w.drewN q) os' := by
  go_enter Try.func38, Try.ntmps38
  go_wp2_with fail
  refine (cmpint_any _ _ _).mono ?_; rintro e w2 ⟨rfl, rfl⟩
  go_wp2_with fail
  go_ret
  refine ⟨rfl, 0, #[.cells #[.int .i64 p0, .int .i64 p1, .int .i64 p2] 32, .cells #[.int .i64 q0, .int .i64 q1, .int .i64 q2] 32], ?_⟩
  simp only [alloc_eq_grow, grow_grow]
  rfl
theorem msZ_length (l : List Int) : (msZ l).length = l.length := (List.mergeSort_perm l _).length_eq
theorem sortp_any (f : Int → Int × Int) (b cap : Nat) (ks : List Int) (w : World) (hH : HoldsF f w b ks.toArray) (hb : b < w.heap.size) (hsz : ks.length < 4611686018427387904) :
    Calls Try.prog 61 #[.slice (some ⟨b, 0, none⟩) ks.length cap, .func (.func 38) #[] #[]] w fun e w' =>
      e = .returned (.tuple #[]) ∧ HoldsF f w' b (msZ ks).toArray ∧ Kept b w w' := by
  have eg : ∀ args w, (callFunc 38 args).run Try.prog w = .ok (.enter 38 args) w := enters_of Try.func38 (by kernel_rfl) rfl
  have hC : CmpLays Try.prog 38 #[] (encF f) 3 Lib.compareInt b 0 ks.toArray.size w := fun _ _ _ _ x y => cmpid_any x (f x).1 (f x).2 y (f y).1 (f y).2 _
  have hcon := AnyQ.slices_SortFunc_total Try.sortPeer 3 Try.isAgg32 Try.sizeOf32 (encF f) (encF_len f) (encF_one f) Lib.compareInt swoZ 38 #[] b 0 cap ks.toArray w eg hC hH hb (by simpa using hsz) totZ
  rw [show ks.toArray.size = ks.length from by simp] at hcon
  refine hcon.mono ?_
  rintro e w' ⟨rfl, n, os, rfl⟩
  have hS : SWK (encF f) 3 w b 0 (msZ ks).toArray (sortWorldK (encF f) 3 w b 0 n (msZ ks).toArray os) := ⟨n, os, rfl⟩
  exact ⟨rfl, hS.holds hb hH (by simp [msZ_length]), SWK.keptF hS⟩
theorem sortp_none (p : Option Addr) (cap : Nat) (fv : Value) (w : World) :
    Calls Try.prog 61 #[.slice p 0 cap, fv] w fun e w' => e = .returned (.tuple #[]) ∧ w = w' :=
  (AnyF.slices_SortFunc_none Try.sortPeer p cap fv w).mono fun _ _ ⟨h1, h2⟩ => ⟨h1, h2.symm⟩

/-- What is known of an ID, besides it. -/
def gv (S : List P3) (x : Int) : Int × Int := ((fnd S x).getD (0, 0, 0)).2
theorem gv_of {S : List P3} {p : P3} (h : fnd S p.1 = some p) : (p.1, gv S p.1) = p := by
  unfold gv; rw [h]; rfl
theorem allP_row {w : World} {b n : Nat} {D : DataW Unit} {S ps : List P3} (h : PM w b n D S) (ha : AllP D ps) :
    ps = (ps.map (·.1)).map (fun x => (x, gv S x)) ∧ msZ (ps.map (·.1)) = S.map (·.1) ∧ S = (S.map (·.1)).map (fun x => (x, gv S x)) := by
  obtain ⟨h1, h2, h3⟩ := ha
  have hp : ∀ p ∈ ps, fnd S p.1 = some p := by
    intro p hp
    have hh := (h2 p.1).1 (List.mem_map.2 ⟨p, hp, rfl⟩)
    rw [h.has] at hh
    obtain ⟨q, hq⟩ := Option.isSome_iff_exists.1 hh
    have e := h.val p.1 q hq (.lit (.bool false))
    rw [h3 p hp] at e
    rw [hq, datT_inj e]
  refine ⟨?_, msZ_is h.sort h1 fun x => ?_, ?_⟩
  · rw [List.map_map]
    conv => lhs; rw [← List.map_id ps]
    exact List.map_congr_left fun p hm => (gv_of (hp p hm)).symm
  · rw [h2, h.has, Option.isSome_iff_exists]
    constructor
    · rintro ⟨q, hq⟩; exact ⟨q, fnd_some hq⟩
    · rintro ⟨q, hq, rfl⟩; exact ⟨q, fnd_mem h.sort hq⟩
  · rw [List.map_map]
    conv => lhs; rw [← List.map_id S]
    exact List.map_congr_left fun p hm => (gv_of (fnd_mem h.sort hm)).symm

set_option maxRecDepth 100000 in
set_option maxHeartbeats 1000000 in
theorem sorted_any (Bm mb n : Nat) (D : DataW Unit) (S : List P3) (w : World) (hm : w.cell? ⟨Bm, 0, none⟩ = some (.map (some mb))) (h : PM w mb n D S) (hsz : Maps.size D ≤ 1000000) (hl : S.length ≤ 1000000) :
    Calls Try.prog 36 #[.func (.func 62) #[] #[.pointer (some ⟨Bm, 0, none⟩)], .func (.func 38) #[] #[]] w fun e w' =>
      ∃ ao cap, e = .returned (.slice ao S.length cap) ∧ S.length ≤ cap ∧ (ao = none → cap = 0) ∧ SlT w' ao S ∧ Below w.heap.size w w' := by
  have H := Lib.hid h
  obtain ⟨k, hk⟩ := nm S.length
  have HC := Lib.hid (collect_any Bm mb n D h.fits hsz w (World.block_lt_of_cell? _ _ hm) hm h.own)
  rw [← hk.out]
  clear h hm
  go_enter Try.func36, Try.ntmps36
  go_wp2_with fail
  refine HC.out.mono ?_; rintro e w1 ⟨v, ps, rfl, hall, hown, hB⟩
  obtain ⟨r1, r2, r3⟩ := allP_row H.out hall
  have hlen : ps.length = k := by
    have h1 := congrArg List.length r2
    rw [msZ_length, List.length_map, List.length_map] at h1
    rw [h1, hk.out]
  obtain ⟨ao, cap, rfl, hc, _, hsl, hno, hbase⟩ := hown.sl
  rw [hlen] at hc ⊢
  have HB := Lib.hid hB
  rcases Nat.eq_zero_or_pos k with h0 | h0
  · subst h0
    have hS : S = [] := List.length_eq_zero_iff.1 hk.out.symm
    go_wp2_with fail
    refine (sortp_none ao cap _ w1).mono ?_; rintro e w2 ⟨rfl, rfl⟩
    go_wp2_with fail
    go_ret
    exact ⟨ao, cap, rfl, hc, hno, by rw [hS]; exact SlT.nil _ _, HB.out⟩
  · have hown2 : OwnT w1 w.heap.size 32 (.slice ao k cap) ((ps.map (·.1)).map (fun x => (x, gv S x))) := by rw [← r1, ← hlen]; exact hown
    obtain ⟨g, cap', hv, hbg, hgl, _, _, hH⟩ := HoldsF.ofOwn hown2 (by intro e; have := (Value.slice.inj e).2.1; omega)
    obtain rfl : ao = some ⟨g, 0, none⟩ := (Value.slice.inj hv).1
    have hkl : k ≤ 1000000 := by rw [hk.out]; exact hl
    have hsort := sortp_any (gv S) g cap (ps.map (·.1)) w1 hH hgl (by rw [List.length_map]; omega)
    rw [List.length_map, hlen, r2] at hsort
    have HS := Lib.hid hsort
    clear hsort hH hown hown2 hsl hv hB
    go_wp2_with fail
    refine HS.out.mono ?_; rintro e w2 ⟨rfl, hH2, hk2⟩
    have hsl2 := hH2.sl (Nat.lt_of_lt_of_le hgl hk2.size)
    rw [show (S.map (·.1)).toArray.toList = S.map (·.1) from rfl, ← r3] at hsl2
    have HB2 : Hid (Below w.heap.size w w2) := HB.out.trans (hk2.below hbg HB.out.size)
    clear hk2 hH2
    go_wp2_with fail
    go_ret
    exact ⟨_, cap, rfl, hc, hno, hsl2, HB2.out⟩
end Go.Proofs.Ytpolhdkjkidpgaa
