/- slices.IndexFunc over peers; view.Find. -/
import Derived.Test.YtpolhdkjkidpgaaVw
import Derived.Test.YtpolhdkjkidpgaaViewLater
namespace Go.Proofs.Ytpolhdkjkidpgaa
open Go.RowKit Go.Shelf Go.Lib Go.Sort

set_option maxRecDepth 100000 in
set_option maxHeartbeats 1000000 in
theorem indexT_any (ao : Option Addr) (ps : List P3) (n cap : Nat) (hn : Hid (ps.length = n)) (hm : n ≤ 1000000000) (p : P3 → Bool) (g : Nat) (lb : Array Value) (S : World → Prop) (hS : ∀ w w', S w → Below w.heap.size w w' → S w')
    (hg : Hid (∀ (x y z : Int) (w : World), S w → Calls Try.prog g (#[.agg #[.int .i64 x, .int .i64 y, .int .i64 z]] ++ lb) w fun e w' => e = .returned (.bool (p (x, y, z))) ∧ Below w.heap.size w w'))
    (eg : ∀ args w, (callFunc g args).run Try.prog w = .ok (.enter g args) w)
    (w : World) (hSw : S w) (hs : SlT w ao ps) :
    Calls Try.prog 48 #[.slice ao n cap, .func (.func g) #[] lb] w fun e w' => (∃ k : Int, e = .returned (.int .i64 k) ∧ ((k = -1 ∧ ∀ (j : Nat) (q : P3), ps[j]? = some q → p q = false) ∨ ∃ i : Nat, k = (i : Int) ∧ i < n ∧ ∃ x y z, Hid (ps[i]? = some (x, y, z)) ∧ p (x, y, z) = true ∧ ∀ (j : Nat) (q : P3), j < i → ps[j]? = some q → p q = false)) ∧ Below w.heap.size w w' := by
  have HS := Lib.hid hs
  clear hs
  have HST := Lib.hid hS
  have HSW := Lib.hid hSw
  clear hS hSw
  go_enter Try.func48, Try.ntmps48
  go_wp2_with fail
  go_loopw [8] (fun i wr => ∃ k : Nat, k ≤ n ∧ i = .int .i64 (k : Int) ∧ Below w.heap.size w wr ∧ Hid (∀ (j : Nat) (q : P3), j < k → ps[j]? = some q → p q = false)) (fun i _ => n - (intOf i).toNat)
  case atStart => exact ⟨0, by omega, rfl, Below.refl _ _, by show ∀ j q, _; intro j q hj; omega⟩
  case round =>
    obtain ⟨k, hk, rfl, hB, hI⟩ := hrel
    by_cases hlt : k < n
    · obtain ⟨b, off, x, y, z, rfl, hbl, c0, c1, c2, hpk⟩ := HS.out.get k (by rw [hn.out]; exact hlt)
      have d0 : wr.cell? ⟨b, off + k * 3, none⟩ = some (.int .i64 x) := (hB.cell (p := ⟨b, off + k * 3, none⟩) hbl).trans c0
      have d1 : wr.cell? ⟨b, off + k * 3 + 1, none⟩ = some (.int .i64 y) := (hB.cell (p := ⟨b, off + k * 3 + 1, none⟩) hbl).trans c1
      have d2 : wr.cell? ⟨b, off + k * 3 + 2, none⟩ = some (.int .i64 z) := (hB.cell (p := ⟨b, off + k * 3 + 2, none⟩) hbl).trans c2
      clear c0 c1 c2
      obtain ⟨B, hBB⟩ := nm (p (x, y, z))
      have hcall := hg.out x y z wr (HST.out _ _ HSW.out hB)
      rw [← hBB.out] at hcall
      cases B
      · have HI : Hid (∀ (j : Nat) (q : P3), j < k + 1 → ps[j]? = some q → p q = false) := by
          show ∀ j q, _
          intro j q hj hq
          by_cases e : j = k
          · subst e
            rw [hpk.out] at hq
            obtain rfl := Option.some.inj hq
            exact hBB.out.symm
          · exact hI.out j q (by omega) hq
        go_wp2_with (go_at_fn g; refine hcall.mono ?_; rintro e w3 ⟨rfl, hB3⟩)
        go_roundw
        case rel => exact ⟨k + 1, by omega, by go_num, bNext hB hB3, HI⟩
        case measure => simp [intOf]; omega
      · go_wp2_with (go_at_fn g; refine hcall.mono ?_; rintro e w3 ⟨rfl, hB3⟩)
        go_ret
        exact ⟨⟨(k : Int), rfl, .inr ⟨k, rfl, hlt, x, y, z, hpk, hBB.out.symm, hI.out⟩⟩, bNext hB hB3⟩
    · obtain rfl : k = n := by omega
      go_wp2_with fail
      go_ret
      refine ⟨⟨-1, rfl, .inl ⟨rfl, fun j q hq => ?_⟩⟩, hB⟩
      refine hI.out j q ?_ hq
      rw [← hn.out]
      rcases Nat.lt_or_ge j ps.length with h | h
      · exact h
      · rw [List.getElem?_eq_none h] at hq; cases hq

theorem fnd_at {l : List P3} {x : Int} : ∀ {i : Nat} {p : P3}, l[i]? = some p → p.1 = x → (∀ j q, j < i → l[j]? = some q → q.1 ≠ x) → fnd l x = some p := by
  induction l with
  | nil => intro i p h; simp at h
  | cons a l ih =>
    intro i p h e hn
    rw [fnd_cons]
    match i with
    | 0 =>
      obtain rfl : a = p := by simpa using h
      rw [if_pos e]
    | i + 1 =>
      rw [if_neg (hn 0 a (by omega) rfl)]
      exact ih (by simpa using h) e fun j q hj hq => hn (j + 1) q (by omega) (by simpa using hq)

set_option maxRecDepth 100000 in
theorem findp_any (bx : Nat) (id x y z : Int) (w : World) (h : Blk w bx #[.int .i64 id] 3) :
    Calls Try.prog 49 #[.agg #[.int .i64 x, .int .i64 y, .int .i64 z], .pointer (some ⟨bx, 0, none⟩)] w fun e w' => e = .returned (.bool (x == id)) ∧ Below w.heap.size w w' := by
  have h0 : w.cell? ⟨bx, 0, none⟩ = some (.int .i64 id) := h.cell 0
  have hlt := h.lt
  go_enter Try.func49, Try.ntmps49
  go_wp2_with fail
  go_ret
  exact ⟨rfl, bOld _⟩
theorem infoPf : (Try.prog.info? 32).map (·.size) = some 3 := by kernel_rfl

set_option maxRecDepth 100000 in
set_option maxHeartbeats 1000000 in
theorem find_any (A : List P3) (hl : A.length ≤ 1000) (id : Int) (v : Value) (w : World) (hv : Vw w v A) :
    Calls Try.prog 19 #[v, .int .i64 id] w fun e w' => Below w.heap.size w w' ∧ ((Hid (fnd A id = none) ∧ e = .returned (.tuple #[.agg #[.int .i64 0, .int .i64 0, .int .i64 0], .bool false])) ∨
      ∃ x y z, Hid (fnd A id = some (x, y, z)) ∧ e = .returned (.tuple #[.agg #[.int .i64 x, .int .i64 y, .int .i64 z], .bool true])) := by
  obtain ⟨ao, cap, rfl, hc, hno, hsl⟩ := hv
  obtain ⟨n, hn⟩ := nm A.length
  rw [← hn.out] at hc hl ⊢
  have eg : ∀ args w, (callFunc 49 args).run Try.prog w = .ok (.enter 49 args) w := enters_of Try.func49 (by kernel_rfl) rfl
  obtain ⟨bx, hbx⟩ := nm w.heap.size
  obtain ⟨w0, hw0⟩ := nm ((w.alloc (.cells #[.int .i64 id] 3)).alloc (.cells #[.int .i64 0, .int .i64 0, .int .i64 0] 32))
  have hb0 : Blk w0 bx #[.int .i64 id] 3 := by rw [hw0.out, hbx.out]; exact (Blk.new _ _ _).alloc _
  have hb1 : Blk w0 (bx + 1) #[.int .i64 0, .int .i64 0, .int .i64 0] 32 := by rw [hw0.out, hbx.out]; exact blk_at (by simp)
  have hB0 : Below w.heap.size w w0 := by rw [hw0.out]; exact bNew (bOld _) _
  have hix := indexT_any ao A n cap hn.out.symm (by omega) (fun p => p.1 == id) 49 #[.pointer (some ⟨bx, 0, none⟩)] (fun w => Blk w bx #[.int .i64 id] 3) (fun w w' h hb => Blk.below h hb h.lt) (fun x y z w h => findp_any bx id x y z w h) eg w0 hb0 (hsl.below hB0)
  have HIX := Lib.hid hix
  have HSL := Lib.hid hsl
  have HB0 := Lib.hid hB0
  have HB1 := Lib.hid hb1
  have hbw : Hid (w.heap.size ≤ bx + 1) := by show _ ≤ _; rw [hbx.out]; omega
  clear hix hsl hB0 hb0 hb1 eg
  go_enter Try.func19, Try.ntmps19
  go_upto_region 1 with fail
  rw [← hw0.out, ← hbx.out]
  go_wp2_with fail
  refine HIX.out.mono ?_; rintro e w1 ⟨⟨j, rfl, hcase⟩, hB⟩
  have hb1 := Blk.below HB1.out hB HB1.out.lt
  have f0 : w1.frozen? ⟨bx + 1, 0, none⟩ = false := hb1.free 0
  have f1 : w1.frozen? ⟨bx + 1, 1, none⟩ = false := hb1.free 1
  have f2 : w1.frozen? ⟨bx + 1, 2, none⟩ = false := hb1.free 2
  have e0 : w1.cell? ⟨bx + 1, 0, none⟩ = some (.int .i64 0) := hb1.cell 0
  have e1 : w1.cell? ⟨bx + 1, 1, none⟩ = some (.int .i64 0) := hb1.cell 1
  have e2 : w1.cell? ⟨bx + 1, 2, none⟩ = some (.int .i64 0) := hb1.cell 2
  have HBB := Lib.hid (bNext HB0.out hB)
  have HBK := Lib.hid hb1
  have HSL1 := Lib.hid ((HSL.out.below HB0.out).below hB)
  clear hb1 hB
  rcases hcase with ⟨rfl, hnone⟩ | ⟨i, rfl, hlt, x, y, z, hpk, hpt, hbef⟩
  · have HF : Hid (fnd A id = none) := by
      show _ = _
      refine fnd_none.2 fun p hp => ?_
      obtain ⟨i, hi, he⟩ := List.mem_iff_getElem.1 hp
      have := hnone i p (by rw [List.getElem?_eq_getElem hi, he])
      simpa using this
    clear hnone
    go_wp2_with fail
    obtain ⟨w2, hw2⟩ := nm (((w1.setCell ⟨bx + 1, 0, none⟩ (.int .i64 0)).setCell ⟨bx + 1, 1, none⟩ (.int .i64 0)).setCell ⟨bx + 1, 2, none⟩ (.int .i64 0))
    rw [← hw2.out]
    have hb2 : Blk w2 (bx + 1) #[.int .i64 0, .int .i64 0, .int .i64 0] 32 := by rw [hw2.out]; exact ((HBK.out.set 0 _).set 1 _).set 2 _
    have hB2 : Below w.heap.size w w2 := by
      rw [hw2.out]
      exact ((HBB.out.setCell (p := ⟨bx + 1, 0, none⟩) hbw.out (.int .i64 0)).setCell (p := ⟨bx + 1, 1, none⟩) hbw.out (.int .i64 0)).setCell (p := ⟨bx + 1, 2, none⟩) hbw.out (.int .i64 0)
    have r0 : w2.cell? ⟨bx + 1, 0, none⟩ = some (.int .i64 0) := hb2.cell 0
    have r1 : w2.cell? ⟨bx + 1, 1, none⟩ = some (.int .i64 0) := hb2.cell 1
    have r2 : w2.cell? ⟨bx + 1, 2, none⟩ = some (.int .i64 0) := hb2.cell 2
    refine bodyPost_ret (v := .tuple #[.agg #[.int .i64 0, .int .i64 0, .int .i64 0], .bool false]) (by simp [results, Try.results19, go_sem, r0, r1, r2]) rfl ?_
    exact ⟨hB2, .inl ⟨HF, rfl⟩⟩
  · have HF : Hid (fnd A id = some (x, y, z)) := by
      show _ = _
      exact fnd_at hpk.out (by simpa using hpt) fun j q hj hq => by have := hbef j q hj hq; simpa using this
    obtain ⟨b, off, x', y', z', rfl, hbl, c0, c1, c2, hpk'⟩ := HSL1.out.get i (by rw [← hn.out]; exact hlt)
    have he : (x, y, z) = (x', y', z') := Option.some.inj (hpk.out.symm.trans hpk'.out)
    cases he
    clear hpt hbef
    go_wp2_with fail
    obtain ⟨w2, hw2⟩ := nm (((w1.setCell ⟨bx + 1, 0, none⟩ (.int .i64 x)).setCell ⟨bx + 1, 1, none⟩ (.int .i64 y)).setCell ⟨bx + 1, 2, none⟩ (.int .i64 z))
    rw [← hw2.out]
    have hb2 : Blk w2 (bx + 1) #[.int .i64 x, .int .i64 y, .int .i64 z] 32 := by rw [hw2.out]; exact ((HBK.out.set 0 _).set 1 _).set 2 _
    have hB2 : Below w.heap.size w w2 := by
      rw [hw2.out]
      exact ((HBB.out.setCell (p := ⟨bx + 1, 0, none⟩) hbw.out (.int .i64 x)).setCell (p := ⟨bx + 1, 1, none⟩) hbw.out (.int .i64 y)).setCell (p := ⟨bx + 1, 2, none⟩) hbw.out (.int .i64 z)
    have r0 : w2.cell? ⟨bx + 1, 0, none⟩ = some (.int .i64 x) := hb2.cell 0
    have r1 : w2.cell? ⟨bx + 1, 1, none⟩ = some (.int .i64 y) := hb2.cell 1
    have r2 : w2.cell? ⟨bx + 1, 2, none⟩ = some (.int .i64 z) := hb2.cell 2
    refine bodyPost_ret (v := .tuple #[.agg #[.int .i64 x, .int .i64 y, .int .i64 z], .bool true]) (by simp [results, Try.results19, go_sem, r0, r1, r2]) rfl ?_
    exact ⟨hB2, .inr ⟨x, y, z, HF, rfl⟩⟩
end Go.Proofs.Ytpolhdkjkidpgaa
