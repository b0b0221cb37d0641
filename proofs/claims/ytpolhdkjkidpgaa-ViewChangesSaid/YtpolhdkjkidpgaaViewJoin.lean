/- slices.Concat of two views; view.Join. -/
import Derived.Test.YtpolhdkjkidpgaaViewPut
import Derived.Test.YtpolhdkjkidpgaaGrowShelf
import Derived.Laws.AppendOwnNone
namespace Go.Proofs.Ytpolhdkjkidpgaa
open Go.RowKit Go.Maps Go.Sort Go.Shelf Go.Lib

theorem app_trips {w : World} {ops : Array Oper} {rest : List Oper} {o : Oper} {a : Act} {Q : Exit → Act → World → Prop} (hgd : o.guard = none) (s x : Operand)
    (ho : o.op = .call { callee := .builtin .append, args := #[s, x], argTypes := #[22, 22] })
    (base : Nat) (v : Value) (ps : List P3) (hs : a.eval s = v) (hown : OwnT w base 32 v ps)
    (ao : Option Addr) (m c : Nat) (qs : List P3) (hx : a.eval x = .slice ao m c) (hq : qs.length = m) (hc : ao = none → c = 0) (hsl : SlT w ao qs) (hb : ps.length + m ≤ 1000000000) (hbase : base ≤ w.heap.size)
    (h : ∀ v' w', OwnT w' base 32 v' (ps ++ qs) → w.grownBy w' v.ownBlock → wpList Try.prog ops Q rest (a.put o.dst v') w') : wpList Try.prog ops Q (o :: rest) a w := by
  obtain ⟨i0, hi, hz0, hz1, hz2⟩ := info_parts infoT
  cases ao with
  | none =>
    have h0 := hsl.none_len
    obtain rfl := hc rfl
    obtain rfl : m = 0 := hq.symm.trans h0
    obtain rfl := List.length_eq_zero_iff.1 h0
    refine wpList_append_own_none hgd s x _ ho base 32 i0 3 Try.underlying22 hi v ps.length (flatT ps) hs hown hx ?_
    refine h v w (by rw [List.append_nil]; exact hown) ⟨rfl, rfl, rfl, Nat.le_refl _, fun _ _ _ => rfl⟩
  | some ad =>
    refine wpList_append_own w hgd s x _ ho base 32 i0 _ 3 24 Try.underlying22 hi hz0 hz1 hz2 rfl (by decide) v ps.length (flatT ps) hs hown ad m c (flatT qs) hx (by rw [flatT_length, hq]) hsl.news (flatT_cell qs) (by unfold maxLen; omega) (by omega) hbase ?_
    intro v' w' h1 h2 _
    refine h v' w' ?_ h2
    show w'.ownsRow _ _ _ _ _ _
    rw [flatT_append, List.length_append, hq]
    exact h1
/-- slices.Grow of nothing. -/
theorem grow_any (n : Nat) (hn : n ≤ 1000000) (w : World) :
    Calls Try.prog 59 #[.slice none 0 0, .int .i64 n] w fun e w' => ∃ v, e = .returned v ∧ OwnT w' w.heap.size 32 v [] ∧ Below w.heap.size w w' := by
  obtain ⟨i0, hi, hz0, hz1, hz2⟩ := info_parts infoT
  rcases Nat.eq_zero_or_pos n with rfl | h0
  · refine (Any8.slices_Grow_room Try.growP none 0 0 0 w (Nat.le_refl _) (by decide) (by decide) (Nat.le_refl _)).mono ?_
    rintro e w' ⟨rfl, rfl⟩
    exact ⟨_, rfl, OwnT.nil _ _ _, Below.refl _ _⟩
  · refine (Any8.slices_Grow_grow Try.growP i0 _ hi hz0 (by rw [hz1]; decide) none 0 0 n [] w (Nat.le_refl _) (by omega) (by rw [hz2]; omega) (by omega) (by simp) (fun _ => rfl) (fun a e => by cases e)).mono ?_
    rintro e w' ⟨rfl, rfl⟩
    have hg1 := grownCap_ge w (0 + n) 0 32
    have hg2 := grownCap_le_maxLen w (0 + n) 0 32 (by unfold maxLen; omega)
    refine ⟨_, rfl, ⟨rfl, .inr ⟨_, _, _, rfl, Nat.le_refl _, heap_alloc_new w.drew _, Nat.zero_le _, hg2, ?_, rfl⟩⟩, (bDrew (Below.refl _ _)).alloc (Nat.le_refl _) _⟩
    simp only [Array.size_append, size_zeroCells]
    show 0 + (0 + n - 0) * 3 + (grownCap w (0 + n) 0 32 - (0 + n)) * 3 = grownCap w (0 + n) 0 32 * 3
    omega

set_option maxRecDepth 100000 in
set_option maxHeartbeats 1000000 in
theorem concat_any (bb n1 n2 c1 c2 : Nat) (a1 a2 : Option Addr) (A B : List P3) (h1 : Hid (A.length = n1)) (h2 : Hid (B.length = n2)) (hm1 : n1 ≤ 1000) (hm2 : n2 ≤ 1000) (w : World)
    (e1 : w.cell? ⟨bb, 0, none⟩ = some (.slice a1 n1 c1)) (e2 : w.cell? ⟨bb, 1, none⟩ = some (.slice a2 n2 c2)) (hs1 : SlT w a1 A) (hs2 : SlT w a2 B) (hn1 : a1 = none → c1 = 0) (hn2 : a2 = none → c2 = 0) :
    Calls Try.prog 35 #[.slice (some ⟨bb, 0, none⟩) 2 2] w fun e w' => ∃ v, e = .returned v ∧ OwnT w' w.heap.size 32 v (A ++ B) ∧ Below w.heap.size w w' := by
  have HS1 := Lib.hid hs1
  have HS2 := Lib.hid hs2
  have HN1 := Lib.hid hn1
  have HN2 := Lib.hid hn2
  have E1 := Lib.hid e1
  have E2 := Lib.hid e2
  clear hs1 hs2 hn1 hn2
  go_enter Try.func35, Try.ntmps35
  go_wp2_with fail
  refine wp_loop_rounds 3 ?_
  rw [rounds_succ]
  go_wp2_with fail
  rw [rounds_succ]
  go_wp2_with fail
  rw [rounds_succ]
  go_wp2_with fail
  have hgr := grow_any (n1 + n2) (by omega) w
  rw [Int.natCast_add] at hgr
  refine hgr.mono ?_; rintro e w1 ⟨v1, rfl, hown1, hB1⟩
  have x1 : w1.cell? ⟨bb, 0, none⟩ = some (.slice a1 n1 c1) := (hB1.cell (p := ⟨bb, 0, none⟩) (World.block_lt_of_cell? _ _ E1.out)).trans E1.out
  have x2 : w1.cell? ⟨bb, 1, none⟩ = some (.slice a2 n2 c2) := (hB1.cell (p := ⟨bb, 1, none⟩) (World.block_lt_of_cell? _ _ E2.out)).trans E2.out
  have HB1 := Lib.hid hB1
  clear hgr hB1 e1 e2
  go_wp2_with fail
  refine wp_loop_rounds 3 ?_
  rw [rounds_succ]
  go_wp2_with (at_builtin; refine app_trips rfl _ _ rfl w.heap.size _ [] rfl hown1 a1 n1 c1 A rfl h1.out HN1.out (HS1.out.below HB1.out) (by simp; omega) HB1.out.size ?_)
  intro v2 w2 hown2 hg2
  have hB2 : Below w.heap.size w w2 := HB1.out.grown hg2 HB1.out.size (fun k hk => (World.ownsRow.lt hown1 k hk).1)
  have y2 : w2.cell? ⟨bb, 1, none⟩ = some (.slice a2 n2 c2) := (hB2.cell (p := ⟨bb, 1, none⟩) (World.block_lt_of_cell? _ _ E2.out)).trans E2.out
  have HB2 := Lib.hid hB2
  clear hB2 hg2 x1 x2 hown1
  go_wp2_with fail
  rw [rounds_succ]
  go_wp2_with (at_builtin; refine app_trips rfl _ _ rfl w.heap.size _ A rfl hown2 a2 n2 c2 B rfl h2.out HN2.out (HS2.out.below HB2.out) (by rw [h1.out]; omega) HB2.out.size ?_)
  intro v3 w3 hown3 hg3
  have hB3 : Below w.heap.size w w3 := HB2.out.grown hg3 HB2.out.size (fun k hk => (World.ownsRow.lt hown2 k hk).1)
  clear hg3 hown2 y2
  go_wp2_with fail
  rw [rounds_succ]
  go_wp2_with fail
  go_ret
  exact ⟨v3, rfl, hown3, hB3⟩
end Go.Proofs.Ytpolhdkjkidpgaa
