/- slices.IndexFunc over spots. -/
import Derived.Test.YtmmfbeeeamcooaaDoorSpotSort
namespace Go.Proofs.YtmmfbeeeamcooaaDoor
open Go.RowKit Go.Shelf Go.Lib Go.Sort

set_option maxRecDepth 100000 in
set_option maxHeartbeats 1000000 in
theorem index_any (ao : Option Addr) (ps : List (Int × Int)) (n cap : Nat) (hn : Hid (ps.length = n)) (hm : n ≤ 1000000000) (p : Int × Int → Bool) (g : Nat) (lb : Array Value) (S : World → Prop) (hS : ∀ w w', S w → Below w.heap.size w w' → S w')
    (eg : ∀ args w, (callFunc g args).run Tryd.prog w = .ok (.enter g args) w)
    (hg : Hid (∀ (x y : Int) (w : World), S w → Calls Tryd.prog g (#[.agg #[.int .i64 x, .int .i64 y]] ++ lb) w fun e w' => e = .returned (.bool (p (x, y))) ∧ Below w.heap.size w w'))
    (w : World) (hSw : S w) (hs : SlP w ao ps) :
    Calls Tryd.prog 31 #[.slice ao n cap, .func (.func g) #[] lb] w fun e w' => (∃ k : Int, e = .returned (.int .i64 k) ∧ ((k = -1 ∧ ∀ x ∈ ps, p x = false) ∨ ∃ i : Nat, k = (i : Int) ∧ i < n ∧ p ps[i]! = true ∧ ∀ j, j < i → p ps[j]! = false)) ∧ Below w.heap.size w w' := by
  have HS := Lib.hid hs
  clear hs
  have HST := Lib.hid hS
  have HSW := Lib.hid hSw
  clear hS hSw
  go_enter Tryd.func31, Tryd.ntmps31
  go_wp2_with fail
  go_loopw [8] (fun i wr => ∃ k : Nat, k ≤ n ∧ i = .int .i64 (k : Int) ∧ Below w.heap.size w wr ∧ Hid (∀ j, j < k → p ps[j]! = false)) (fun i _ => n - (intOf i).toNat)
  case atStart => exact ⟨0, by omega, rfl, Below.refl _ _, by show ∀ j, _; intro j hj; omega⟩
  case round =>
    obtain ⟨k, hk, rfl, hB, hI⟩ := hrel
    by_cases hlt : k < n
    · obtain ⟨b, off, u, v, rfl, hbl, c0, c1, hpk⟩ := HS.out.get k (by rw [hn.out]; exact hlt)
      have d0 : wr.cell? ⟨b, off + k * 2, none⟩ = some (.int .i64 u) := (hB.cell (p := ⟨b, off + k * 2, none⟩) hbl).trans c0
      have d1 : wr.cell? ⟨b, off + k * 2 + 1, none⟩ = some (.int .i64 v) := (hB.cell (p := ⟨b, off + k * 2 + 1, none⟩) hbl).trans c1
      clear c0 c1
      obtain ⟨B, hBB⟩ := nm (p (u, v))
      have hcall := hg.out u v wr (HST.out _ _ HSW.out hB)
      rw [← hBB.out] at hcall
      cases B
      · have HI : Hid (∀ j, j < k + 1 → p ps[j]! = false) := by
          show ∀ j, _
          intro j hj
          by_cases e : j = k
          · subst e
            rw [(get_of hpk.out).2]; exact hBB.out.symm
          · exact hI.out j (by omega)
        go_wp2_with (go_at_fn g; refine hcall.mono ?_; rintro e w3 ⟨rfl, hB3⟩)
        go_roundw
        case rel => exact ⟨k + 1, by omega, by go_num, bNext hB hB3, HI⟩
        case measure => simp [intOf]; omega
      · have HE : Hid (p ps[k]! = true) := by show _ = _; rw [(get_of hpk.out).2]; exact hBB.out.symm
        go_wp2_with (go_at_fn g; refine hcall.mono ?_; rintro e w3 ⟨rfl, hB3⟩)
        go_ret
        exact ⟨⟨(k : Int), rfl, .inr ⟨k, rfl, hlt, HE.out, hI.out⟩⟩, bNext hB hB3⟩
    · obtain rfl : k = n := by omega
      go_wp2_with fail
      go_ret
      refine ⟨⟨-1, rfl, .inl ⟨rfl, fun x hx => ?_⟩⟩, hB⟩
      obtain ⟨i, hi, he⟩ := List.mem_iff_getElem.1 hx
      have := hI.out i (by rw [← hn.out]; exact hi)
      rw [getElem!_pos ps i hi, he] at this
      exact this
end Go.Proofs.YtmmfbeeeamcooaaDoor
