/- slices.IndexFunc and slices.DeleteFunc over pairs, by a function that reads nothing of the row. -/
import Derived.Test.YthhcooabfgegaaaPairCompact
import Derived.Test.YthhcooabfgegaaaDotRef
import Derived.Lib.SlKept
namespace Go.Proofs.Ythhcooabfgegaaa
open Go.RowKit Go.Shelf Go.Lib Go.Sort

/-- The function value 'fv' tells of each pair whether p holds of it, in each world that has what it holds. -/
def Asks (fv : Value) (p : Int × Int → Bool) (S : World → Prop) : Prop :=
  ∃ g lb, fv = .func (.func g) #[] lb ∧ (∀ args w, (callFunc g args).run Try.prog w = .ok (.enter g args) w) ∧ ∀ (x y : Int) (w : World), S w → Calls Try.prog g (#[.agg #[.int .i64 x, .int .i64 y]] ++ lb) w fun e w' => e = .returned (.bool (p (x, y))) ∧ Below w.heap.size w w'

/-- The first pair of which p holds; none: the length. -/
def firstP (p : Int × Int → Bool) : List (Int × Int) → Nat
  | [] => 0
  | x :: l => if p x then 0 else firstP p l + 1

set_option maxRecDepth 100000 in
set_option maxHeartbeats 1000000 in
theorem index_any (ao : Option Addr) (ps : List (Int × Int)) (n cap : Nat) (hn : Hid (ps.length = n)) (hm : n ≤ 1000000000) (p : Int × Int → Bool) (g : Nat) (lb : Array Value) (S : World → Prop) (hS : ∀ w w', S w → Below w.heap.size w w' → S w')
    (eg : ∀ args w, (callFunc g args).run Try.prog w = .ok (.enter g args) w)
    (hg : Hid (∀ (x y : Int) (w : World), S w → Calls Try.prog g (#[.agg #[.int .i64 x, .int .i64 y]] ++ lb) w fun e w' => e = .returned (.bool (p (x, y))) ∧ Below w.heap.size w w'))
    (w : World) (hSw : S w) (hs : SlP w ao ps) :
    Calls Try.prog 53 #[.slice ao n cap, .func (.func g) #[] lb] w fun e w' => (∃ k : Int, e = .returned (.int .i64 k) ∧ ((k = -1 ∧ ∀ x ∈ ps, p x = false) ∨ ∃ i : Nat, k = (i : Int) ∧ i < n ∧ p ps[i]! = true ∧ ∀ j, j < i → p ps[j]! = false)) ∧ Below w.heap.size w w' := by
  have HS := Lib.hid hs
  clear hs
  have HST := Lib.hid hS
  have HSW := Lib.hid hSw
  clear hS hSw
  go_enter Try.func53, Try.ntmps53
  go_wp2_with fail
  go_loopw [8] (fun i wr => ∃ k : Nat, k ≤ n ∧ i = .int .i64 (k : Int) ∧ Below w.heap.size w wr ∧ Hid (∀ j, j < k → p ps[j]! = false)) (fun i _ => n - (intOf i).toNat)
  case atStart => exact ⟨0, by omega, rfl, Below.refl _ _, by show ∀ j, _; intro j hj; omega⟩
  case round =>
    obtain ⟨k, hk, rfl, hB, hI⟩ := hrel
    by_cases hlt : k < n
    · obtain ⟨b, off, u, v, rfl, hbl, c0, c1, hpk⟩ := HS.out.get k (by rw [hn.out]; exact hlt)
      have d0 : wr.cell? ⟨b, off + k * 2, none⟩ = some (.int .i64 u) := (hB.cell (p := ⟨b, off + k * 2, none⟩) hbl).trans c0
      have d1 : wr.cell? ⟨b, off + k * 2 + 1, none⟩ = some (.int .i64 v) := (hB.cell (p := ⟨b, off + k * 2 + 1, none⟩) hbl).trans c1
      clear c0 c1
      obtain ⟨B, hBB⟩ := nm (p (u, v))
      have hcall := hg.out u v wr (HST.out _ _ HSW.out hB)
      rw [← hBB.out] at hcall
      cases B
      · have HI : Hid (∀ j, j < k + 1 → p ps[j]! = false) := by
          show ∀ j, _
          intro j hj
          by_cases e : j = k
          · subst e
            rw [(get_of hpk.out).2]; exact hBB.out.symm
          · exact hI.out j (by omega)
        go_wp2_with (go_at_fn g; refine hcall.mono ?_; rintro e w3 ⟨rfl, hB3⟩)
        go_roundw
        case rel => exact ⟨k + 1, by omega, by go_num, bNext hB hB3, HI⟩
        case measure => simp [intOf]; omega
      · have HE : Hid (p ps[k]! = true) := by show _ = _; rw [(get_of hpk.out).2]; exact hBB.out.symm
        go_wp2_with (go_at_fn g; refine hcall.mono ?_; rintro e w3 ⟨rfl, hB3⟩)
        go_ret
        exact ⟨⟨(k : Int), rfl, .inr ⟨k, rfl, hlt, HE.out, hI.out⟩⟩, bNext hB hB3⟩
    · obtain rfl : k = n := by omega
      go_wp2_with fail
      go_ret
      refine ⟨⟨-1, rfl, .inl ⟨rfl, fun x hx => ?_⟩⟩, hB⟩
      obtain ⟨i, hi, he⟩ := List.mem_iff_getElem.1 hx
      have := hI.out i (by rw [← hn.out]; exact hi)
      rw [getElem!_pos ps i hi, he] at this
      exact this

set_option maxRecDepth 1000000 in
set_option maxHeartbeats 4000000 in
theorem delete_any (b cap : Nat) (ps : List (Int × Int)) (n : Nat) (hn : Hid (ps.length = n)) (hm : n ≤ 1000000000) (hcap : n ≤ cap) (hcm : cap ≤ maxLen) (p : Int × Int → Bool) (g : Nat) (lb : Array Value) (S : World → Prop) (hS : ∀ w w', S w → Kept b w w' → S w')
    (eg : ∀ args w, (callFunc g args).run Try.prog w = .ok (.enter g args) w)
    (hg : Hid (∀ (x y : Int) (w : World), S w → Calls Try.prog g (#[.agg #[.int .i64 x, .int .i64 y]] ++ lb) w fun e w' => e = .returned (.bool (p (x, y))) ∧ Below w.heap.size w w'))
    (w : World) (hSw : S w) (hH : HoldsD w b ps.toArray) (hb : b < w.heap.size) :
    Calls Try.prog 42 #[.slice (some ⟨b, 0, none⟩) n cap, .func (.func g) #[] lb] w fun e w' => e = .returned (.slice (some ⟨b, 0, none⟩) (ps.filter fun x => !p x).length cap) ∧
      SlP w' (some ⟨b, 0, none⟩) (ps.filter fun x => !p x) ∧ Kept b w w' := by
  unfold maxLen at hcm
  obtain ⟨C, hC⟩ := nm (ps.filter fun x => !p x)
  rw [← hC.out]
  obtain ⟨d, hd⟩ := nm ps.toArray
  rw [← hd.out] at hH
  have hdn : d.size = n := by rw [hd.out, ← hn.out]; simp
  obtain ⟨kp, HK⟩ : ∃ kp : Nat → Bool, Hid (kp = fun j => !p d[j]!) := ⟨_, rfl⟩
  have hfil : C = keptUpTo kp d d.size := by rw [hC.out, HK.out, hd.out]; exact (keptUpTo_filter (fun x => !p x) ps.toArray).symm
  have HF := Lib.hid hfil
  have HDN := Lib.hid hdn
  have hdp : ∀ j : Nat, d[j]! = ps[j]! := fun j => by rw [hd.out]; simp [getElem!_def]
  have HDP := Lib.hid hdp
  have HH := Lib.hid hH
  have HST := Lib.hid hS
  have HSW := Lib.hid hSw
  have hsl := hH.sl hb
  have hpl : d.toList = ps := by rw [hd.out]
  rw [hpl] at hsl
  have hidx := index_any (some ⟨b, 0, none⟩) ps n cap hn hm p g lb S (fun w w' h1 h2 => hS w w' h1 (Kept.ofBelow h2)) eg hg w hSw hsl
  have HIX := Lib.hid hidx
  have HPL := Lib.hid hpl
  clear hfil hdn hdp hH hS hSw hsl hidx hpl
  go_enter Try.func42, Try.ntmps42
  go_wp2_with fail
  refine HIX.out.mono ?_; rintro e w1 ⟨⟨k, rfl, hcase⟩, hB⟩
  have hK1 : Kept b w w1 := Kept.ofBelow hB
  have HH1 : Hid (HoldsD w1 b d) := by
    intro t ht
    have := HH.out t ht
    rw [hB.cell (p := ⟨b, 0 + t, none⟩) hb, hB.frozen (p := ⟨b, 0 + t, none⟩) hb]
    exact this
  have hb1 : b < w1.heap.size := Nat.lt_of_lt_of_le hb hB.size
  rcases hcase with ⟨rfl, hall⟩ | ⟨k0, rfl, hk0, ht, hall⟩
  · have e : C = ps := by rw [hC.out]; exact List.filter_eq_self.2 fun x hx => by rw [hall x hx]; rfl
    have HE := Lib.hid e
    have HSL := Lib.hid (HH1.out.sl hb1)
    clear e hall
    go_wp2_with fail
    go_ret
    rw [HE.out]
    exact ⟨by rw [hn.out]; rfl, by have := HSL.out; rwa [HPL.out] at this, hK1⟩
  · have HI0 : Hid (KeptInv kp d (k0 + 1) k0 d) := by
      refine KeptInv.start (fun j hj => ?_) ?_
      · rw [HK.out]; show (!p d[j]!) = true; rw [HDP.out, hall j hj]; rfl
      · rw [HK.out]; show (!p d[k0]!) = false; rw [HDP.out, ht]; rfl
    have hne1 : ((k0 : Int) == -1) = false := beq_eq_false_iff_ne.2 (by omega)
    clear hall ht
    go_wp2_with fail
    go_loopw [5, 6] (fun s5 s6 wr => ∃ (i j : Nat) (dk : Array (Int × Int)), s5 = .int .i64 (i : Int) ∧ s6 = .int .i64 (j : Int) ∧ j ≤ n ∧ i < j ∧ HoldsD wr b dk ∧ Kept b w1 wr ∧ Hid (KeptInv kp d j i dk)) (fun _ s6 _ => n - (intOf s6).toNat)
    case atStart => exact ⟨k0, k0 + 1, d, rfl, by go_num, by omega, by omega, HH1.out, Kept.refl _ _, HI0⟩
    case round =>
      obtain ⟨i, j, dk, rfl, rfl, hjn, hij, hHk, hKk, hI⟩ := hrel
      by_cases hlt : j < n
      · have hds := hI.out.size
        have hhi := hI.out.high
        obtain ⟨c0, c1, _, _⟩ := hHk.at j (by rw [hds, HDN.out]; exact hlt)
        rw [hhi j (by omega)] at c0 c1
        obtain ⟨⟨u, v⟩, hu⟩ := nm d[j]!
        rw [← hu.out] at c0 c1
        simp only at c0 c1
        have hbr : b < wr.heap.size := Nat.lt_of_lt_of_le hb1 hKk.size
        obtain ⟨B, hBB⟩ := nm (p (u, v))
        have hS2 : S (wr.alloc (.cells #[.int .i64 u, .int .i64 v] 23)) := HST.out _ _ HSW.out ((hK1.trans hKk).alloc _)
        have hcall := hg.out u v _ hS2
        rw [← hBB.out] at hcall
        obtain ⟨c5, c6, f5, f6⟩ := hHk.at i (by rw [hds, HDN.out]; omega)
        have hpu : Hid ((!p d[j]!) = !B) := by show _ = _; rw [← hu.out, hBB.out]
        clear hhi hS2 hbr
        have hbx : Blk (wr.alloc (.cells #[.int .i64 u, .int .i64 v] 23)) wr.heap.size #[.int .i64 u, .int .i64 v] 23 := Blk.new _ _ _
        have HF5 : ∀ w3 : World, Below (wr.alloc (.cells #[.int .i64 u, .int .i64 v] 23)).heap.size (wr.alloc (.cells #[.int .i64 u, .int .i64 v] 23)) w3 → (w3.cell? ⟨wr.heap.size, 0, none⟩ = some (.int .i64 u) ∧ w3.cell? ⟨wr.heap.size, 1, none⟩ = some (.int .i64 v)) ∧ HoldsD w3 b dk ∧ Kept b w1 w3 := by
          intro w3 h
          have hb2 : b < (wr.alloc (.cells #[.int .i64 u, .int .i64 v] 23)).heap.size := by have := hKk.size; simp; omega
          refine ⟨⟨(hbx.below h hbx.lt).cell 0, (hbx.below h hbx.lt).cell 1⟩, ?_, (hKk.alloc _).trans (Kept.ofBelow h)⟩
          intro t ht
          have hb3 : b < wr.heap.size := by have := hKk.size; omega
          have := holds_grow id wr #[.cells #[.int .i64 u, .int .i64 v] 23] b 0 _ hb3 hHk t ht
          rw [← alloc_eq_grow] at this
          rw [h.cell (p := ⟨b, 0 + t, none⟩) hb2, h.frozen (p := ⟨b, 0 + t, none⟩) hb2]
          exact this
        have HF5 := Lib.hid HF5
        clear hbx c0 c1 c5 c6 f5 f6
        obtain ⟨c0, c1, _, _⟩ := hHk.at j (by rw [hds, HDN.out]; exact hlt)
        rw [hI.out.high j (by omega), ← hu.out] at c0 c1
        simp only at c0 c1
        cases B
        · have HI := Lib.hid (hI.out.keep (by rw [HDN.out]; exact hlt) (by rw [HK.out]; show (!p d[j]!) = true; rw [hpu.out]; rfl))
          rw [← hu.out] at HI
          go_wp2_with fail
          refine hcall.mono ?_; rintro e w3 ⟨rfl, hB3⟩
          obtain ⟨⟨b0, b1⟩, hH3, hK3⟩ := HF5.out _ hB3
          obtain ⟨c5, c6, f5, f6⟩ := hH3.at i (by rw [hds, HDN.out]; omega)
          have hH4 := hH3.set i (by rw [hds, HDN.out]; omega) (u, v)
          clear hds hcall hB3
          go_wp2_with fail
          go_roundw
          case rel => exact ⟨i + 1, j + 1, _, by go_num, by go_num, by omega, by omega, hH4, (hK3.set _ _).set _ _, HI⟩
          case measure => simp [intOf]; omega
        · have HI := Lib.hid (hI.out.skip (by rw [HK.out]; show (!p d[j]!) = false; rw [hpu.out]; rfl))
          go_wp2_with fail
          refine hcall.mono ?_; rintro e w3 ⟨rfl, hB3⟩
          obtain ⟨⟨b0, b1⟩, hH3, hK3⟩ := HF5.out _ hB3
          clear hds hcall hB3
          go_wp2_with fail
          go_roundw
          case rel => exact ⟨i, j + 1, dk, rfl, by go_num, by omega, by omega, hH3, hK3, HI⟩
          case measure => simp [intOf]; omega
      · obtain rfl : j = n := by omega
        have hI2 := hI.out
        have hds := hI2.size
        have hbr : b < wr.heap.size := Nat.lt_of_lt_of_le hb1 hKk.size
        have hcl := fun ty => run_clear_pairs wr 27 23 ty Try.underlying27 zeroD b (i * 2) (j - i) (cap - i) (by omega)
          (fun t ht => (hHk.each (i * 2 + t) (by rw [hds, HDN.out]; omega)).1) (fun t ht => (hHk.each (i * 2 + t) (by rw [hds, HDN.out]; omega)).2)
        have hlen : C.length = i := by rw [HF.out, HDN.out]; exact hI2.len
        have hsl := SlP.ofHolds hHk hbr hlen (by rw [hds, HDN.out]; omega) (fun t ht => by rw [HF.out, HDN.out]; exact hI2.low t ht) (List.replicate ((j - i) * 2) (Value.int .i64 0))
        have hK2 := (hK1.trans hKk).setCells (i * 2) (List.replicate ((j - i) * 2) (Value.int .i64 0))
        clear hI2 hds
        generalize List.replicate ((j - i) * 2) (Value.int IntKind.i64 0) = zs at hcl hsl hK2
        have HL := Lib.hid hlen
        clear hlen
        go_wp2_with fail
        go_ret
        rw [HL.out]
        exact ⟨rfl, hsl, hK2⟩
end Go.Proofs.Ythhcooabfgegaaa
