/- A map of peers; maps.Values of it, and what slices.Collect makes of that. -/
import Derived.Test.YtpolhdkjkidpgaaTrip
import Derived.RangeFuncMany
import Derived.RangeFuncLeaves
import Derived.RangeFuncFrom
import Derived.RangeFuncBox
import Derived.RangeFuncKeeps
import Derived.RangeFuncNested
import Derived.Deep.AppendLies
import Derived.Lib.SlKeysI
import Derived.Sort.MapsRangeIn
import Derived.Sort.EveryDepth
import Derived.WalkKit
import Derived.OwnWalkIn
import Derived.TacticsInMore
import Derived.RegionIn
import Derived.LoopNIn
import Derived.LoopIn
import Derived.Maps.Own
import Derived.Maps.Views
namespace Go.Proofs.Ytpolhdkjkidpgaa
open Go.RowKit Go.Maps Go.Sort Go.Shelf Go.Lib

/-- How a peer reads, as a map's element. -/
def datT (p : P3) : DataW Unit := .agg [.lit (.int .i64 p.1), .lit (.int .i64 p.2.1), .lit (.int .i64 p.2.2)]
def peerEl (v : Value) : Option (DataW Unit × List MemPlace) :=
  match v with
  | .agg cs => match cs.toList with
    | [.int .i64 a, .int .i64 b, .int .i64 c] => some (datT (a, b, c), [])
    | _ => none
  | _ => none
theorem peerEl_mk (p : P3) : peerEl (aggT p) = some (datT p, []) := rfl
theorem peerEl_inv {v : Value} {y : DataW Unit × List MemPlace} (h : peerEl v = some y) : ∃ p : P3, v = aggT p ∧ y = (datT p, []) := by
  unfold peerEl at h
  split at h
  · rename_i cs
    split at h
    · rename_i a b c e
      refine ⟨(a, b, c), ?_, (Option.some.inj h).symm⟩
      obtain ⟨l⟩ := cs
      simp at e
      subst e
      rfl
    · cases h
  · cases h
theorem datT_inj {p q : P3} (h : datT p = datT q) : p = q := by
  simp [datT] at h
  obtain ⟨h1, h2, h3⟩ := h
  exact Prod.ext h1 (Prod.ext h2 h3)

theorem keyInt : Keyed Try.prog 3 := int_keyed Try.underlying3

/-- What has come: no key twice; just the map's keys; each with its value. -/
def AllP (D0 : DataW Unit) (ps : List P3) : Prop := (ps.map (·.1)).Nodup ∧ (∀ x, x ∈ ps.map (·.1) ↔ has D0 (.int .i64 x) = true) ∧ ∀ p ∈ ps, ∀ zd, D0.atKey (.int .i64 p.1) zd = datT p
/-- Each element bears its key. -/
def Fits (D0 : DataW Unit) : Prop := ∀ x p, (∀ zd, D0.atKey (.int .i64 x) zd = datT p) → p.1 = x

set_option maxRecDepth 100000 in
set_option maxHeartbeats 1000000 in
theorem values1_in (F : Fence) (n : Nat) (hf : F.fn 62) (hro : F.round = none) (hn : 1 ≤ n) (l Bm b nn : Nat) (D0 : DataW Unit) (hfit : Fits D0) (J Jx : List P3 → World → Prop)
    (hY : ∀ pre x W, J pre W → pre.length < Maps.size D0 → YieldAt F (n - 1) Try.prog l #[aggT x] W fun e W' =>
      (e = .returned (.bool true) ∧ J (pre ++ [x]) W' ∧ KeepsWalks W W') ∨ (e = .returned (.bool false) ∧ Jx (pre ++ [x]) W'))
    (W : World) (hJ : AbidesFrom W.heap.size J) (hm : W.cell? ⟨Bm, 0, none⟩ = some (.map (some b))) (hown : W.ownsMap Try.prog 3 peerEl b nn D0) (h0 : J [] W) :
    CallsIn F n Try.prog 62 #[.func (.yield l) #[] #[], .pointer (some ⟨Bm, 0, none⟩)] W fun e W' => (∃ v, e = .returned v) ∧
      ((∃ ps, AllP D0 ps ∧ J ps W') ∨ (∃ pre, Jx pre W')) := by
  refine callsIn_of_wp Try.func62 rfl hf ?_ hro
  simp only [Try.ntmps62, List.size_toArray, List.length_cons, List.length_nil, Nat.reduceAdd, Nat.reduceSub, Array.replicate_succ, Array.replicate_zero, List.push_toArray, List.append_toArray, List.nil_append, List.cons_append]
  gi_wp2_with (first
    | (gi_at_range; refine wpListIn_range_own _ rfl _ 50 rfl 3 32 keyInt Try.underlying50 _ b nn _ rfl hown ?_; intro w0 hrg0 hg0 hs0)
    | gi_in)
  go_frame
  gi_loopw [4] (fun _ wr => ∃ (left : Lit → Bool) (cnt : Nat) (ps : List P3), wr.ranges Try.prog 3 peerEl b W.heap.size nn D0 left cnt ∧ ps.length + cnt ≤ Maps.size D0 ∧ CollectedI D0 left (ps.map (·.1)) ∧ (∀ p ∈ ps, ∀ zd, D0.atKey (.int .i64 p.1) zd = datT p) ∧ J ps wr)
    (fun _ wr => wr.rangeLeft b W.heap.size)
  case atStart =>
    exact ⟨_, _, [], hrg0, by simp, CollectedI.start D0, by simp, hJ [] W w0 none h0 hg0 (fun r e => by cases e)⟩
  case round =>
    obtain ⟨left, cnt, ps, hrg, hcs, hC, hV, hJs⟩ := hrel
    gi_wp2_with (first
      | (gi_at_next; refine wpListIn_next_ranges _ rfl _ rfl 3 keyInt peerEl encZ aggT (fun key kl hk => by obtain ⟨x, hx, _⟩ := Maps.keyOf_i64 Try.underlying3 hk; exact ⟨x, hx⟩) (fun v y hv => by obtain ⟨c, rfl, _⟩ := peerEl_inv hv; exact ⟨c, rfl⟩) b W.heap.size nn _ _ _ rfl hrg ?_ ?_)
      | gi_in)
    · intro hc0 hl0
      gi_wp2
      go_end0
      refine ⟨⟨_, rfl⟩, .inl ⟨ps, ⟨hC.1, fun x => ?_, hV⟩, hJs⟩⟩
      rw [hC.2 x, hl0]; simp
    · intro x c0 c1 c2 kl yd yp w2 cnt2 hkey hlk hv hat hrg2 hlt hg2 hs2 hen
      obtain ⟨x', ex, rfl, _⟩ := Maps.keyOf_i64 Try.underlying3 hkey
      obtain rfl : x = x' := encZ_inj ex
      rw [peerEl_mk] at hv
      obtain rfl : datT (c0, c1, c2) = yd := by simpa using congrArg (fun z => (Option.getD z (yd, yp)).1) hv
      obtain rfl : c0 = x := hfit x (c0, c1, c2) hat
      have hJ2 : J ps w2 := hJ _ wr w2 (some W.heap.size) hJs hg2 (fun r e => by cases e; exact ⟨Nat.le_refl _, hrg.iter_walk⟩)
      obtain ⟨w3, hw3⟩ : ∃ w3, w2.alloc (.cells #[.int .i64 c0, .int .i64 c1, .int .i64 c2] 32) = w3 := ⟨_, rfl⟩
      have hJ3 : J ps w3 := by rw [← hw3]; exact hJ _ _ _ none hJ2 (World.grownBy_alloc _ _ none) (fun r e => by cases e)
      have hrg3 : w3.ranges Try.prog 3 peerEl b W.heap.size nn D0 (fun z => left z && !z.sameKey (.int .i64 c0)) cnt2 := by rw [← hw3]; exact hrg2.alloc _
      obtain ⟨fn, tmps, assign, body, hy, hR⟩ := hY ps (c0, c1, c2) w3 hJ3 (by omega)
      have hbk : Blk w3 w2.heap.size #[.int .i64 c0, .int .i64 c1, .int .i64 c2] 32 := by rw [← hw3]; exact Blk.new _ _ _
      have e0 : w3.cell? ⟨w2.heap.size, 0, none⟩ = some (.int .i64 c0) := hbk.cell 0
      have e1 : w3.cell? ⟨w2.heap.size, 1, none⟩ = some (.int .i64 c1) := hbk.cell 1
      have e2 : w3.cell? ⟨w2.heap.size, 2, none⟩ = some (.int .i64 c2) := hbk.cell 2
      clear hs2 hbk
      unfold aggT encZ at hen
      unfold aggT at hy ⊢
      simp only at hen hy
      gi_wp2
      refine hR.mono ?_
      have hC2 : CollectedI D0 (fun z => left z && !z.sameKey (.int .i64 c0)) ((ps ++ [(c0, c1, c2)]).map (·.1)) := by simpa using hC.step hlk hat
      have hV2 : ∀ p ∈ ps ++ [(c0, c1, c2)], ∀ zd, D0.atKey (.int .i64 p.1) zd = datT p := fun p hp => (List.mem_append.1 hp).elim (hV p) (fun e => by simp at e; subst e; exact hat)
      rintro e W3 (⟨rfl, hJ4, hk4⟩ | ⟨rfl, hJx4⟩)
      · gi_wp2
        have hrg4 := hrg3.of_walks hk4
        go_roundw
        case rel => exact ⟨_, cnt2, ps ++ [(c0, c1, c2)], hrg4, by simp; omega, hC2, hV2, hJ4⟩
        case measure => rw [hrg4.left_eq, hrg.left_eq]; exact hlt
      · gi_wp2
        refine bodyPost_ret (results_none rfl _ _ _) rfl ?_
        exact ⟨⟨_, rfl⟩, .inr ⟨_, hJx4⟩⟩

set_option maxHeartbeats 1000000 in
/-- maps.Values(m): the map is boxed; the function value captures the box. -/
theorem values_in (F : Fence) (n : Nat) (hf : F.fn 37) (hro : F.round = none) (mb : Option Nat) (w : World) :
    CallsIn F n Try.prog 37 #[.map mb] w fun e w' => e = .returned (.func (.func 62) #[] #[.pointer (some ⟨w.heap.size, 0, none⟩)]) ∧ w' = w.alloc (.cells #[.map mb] 50) := by
  refine callsIn_of_wp Try.func37 rfl hf ?_ hro
  simp only [Try.ntmps37, List.size_toArray, List.length_cons, List.length_nil, Nat.reduceAdd, Nat.reduceSub, Array.replicate_succ, Array.replicate_zero, List.push_toArray, List.append_toArray, List.nil_append, List.cons_append]
  gi_wp2
  go_ret
  exact ⟨rfl, rfl⟩

theorem values_stops (F : Fence) (n : Nat) (hf : F.fn 62) (hro : F.round = none) (hn : 1 ≤ n) (Bm b nn : Nat) (D0 : DataW Unit) (hfit : Fits D0) (w : World) (hBm : Bm < w.heap.size)
    (hm : w.cell? ⟨Bm, 0, none⟩ = some (.map (some b))) (hown : w.ownsMap Try.prog 3 peerEl b nn D0) :
    SeqStopsK F n Try.prog 62 #[.pointer (some ⟨Bm, 0, none⟩)] (fun p : P3 => #[aggT p]) KeepsWalks (AllP D0) (fun _ => True) (Maps.size D0) w := fun l J Jx W hW hJ _ hY h0 => by
  have hown' : W.ownsMap Try.prog 3 peerEl b nn D0 := by
    have hbl := hown.lt
    obtain ⟨es, clock, hb, Ft, hs, hD⟩ := hown
    exact ⟨es, clock, (hW.block b hbl).trans hb, Ft, hs, hD⟩
  refine (values1_in F n hf hro hn l Bm b nn D0 hfit J Jx hY W hJ ((hW.cell (p := ⟨Bm, 0, none⟩) hBm).trans hm) hown' h0).mono ?_
  rintro e W' ⟨hv, h | ⟨pre, h⟩⟩
  · exact ⟨hv, .inl h⟩
  · exact ⟨hv, .inr ⟨pre, trivial, h⟩⟩

theorem infoT : (Try.prog.info? 32).map (fun i => (i.zero, i.size, i.bytes)) = some (some (.agg #[.int .i64 0, .int .i64 0, .int .i64 0]), 3, 24) := by kernel_rfl

/-- Behind the round's first piece: the loop's variable lies in a block of its own. -/
def AtRound (b0 Bm : Nat) (x : P3) (a : Act) (W : World) : Prop :=
  ∃ c, a = { tmps := #[.slice none 0 0, .func (.func 62) #[] #[.pointer (some ⟨Bm, 0, none⟩)], .pointer (some ⟨b0, 0, none⟩), undef, .slice none 0 0, .pointer (some ⟨c, 0, none⟩), .func (.func 62) #[] #[.pointer (some ⟨Bm, 0, none⟩)], aggT x, undef, undef, undef, undef, undef], defers := [] } ∧
    Blk W c (encT x).toArray 32 ∧ c ≠ b0
theorem atRound_own (B b0 Bm : Nat) (x : P3) (a : Act) : OwnFrom B (fun (_ : Unit) W => AtRound b0 Bm x a W) := by
  rintro _ W W' row ⟨c, h1, h2, h3⟩ hg hr
  refine ⟨c, h1, ?_, h3⟩
  exact (grownBy_keeps_cells hg (fun r e => (hr r e).2) h2 rfl).trans h2

set_option maxRecDepth 100000 in
set_option maxHeartbeats 4000000 in
theorem appendSeq_in (F : Fence) (n : Nat) (hf : F.fn 72) (h62 : F.fn 62) (hro : F.round = none) (hn : 3 ≤ n) (Bm b nn : Nat) (D0 : DataW Unit) (hfit : Fits D0) (hsz : Maps.size D0 ≤ 1000000) (w : World) (hBm : Bm < w.heap.size)
    (hm : w.cell? ⟨Bm, 0, none⟩ = some (.map (some b))) (hown : w.ownsMap Try.prog 3 peerEl b nn D0) :
    CallsIn F n Try.prog 72 #[.slice none 0 0, .func (.func 62) #[] #[.pointer (some ⟨Bm, 0, none⟩)]] w fun e w' =>
      ∃ v ps, e = .returned v ∧ AllP D0 ps ∧ OwnT w' w.heap.size 32 v ps ∧ Below w.heap.size w w' := by
  have hne : 22 ≠ 32 := by decide
  obtain ⟨i0, hi, hz0, hz1, hz2⟩ := info_parts infoT
  refine callsIn_of_wp_marks Try.func72 rfl hf ?_ hro
  simp only [Try.ntmps72, List.size_toArray, List.length_cons, List.length_nil, Nat.reduceAdd, Nat.reduceSub, Array.replicate_succ, Array.replicate_zero, List.push_toArray, List.append_toArray, List.nil_append, List.cons_append]
  gi_wp2
  have hm0 : (w.alloc (.cells #[.slice none 0 0] 22)).cell? ⟨Bm, 0, none⟩ = some (.map (some b)) := cell_kept hm (World.grownBy_alloc w _ none) (fun r e => by cases e)
  have hown0 : (w.alloc (.cells #[.slice none 0 0] 22)).ownsMap Try.prog 3 peerEl b nn D0 := hown.alloc _
  have hI : OwnFrom (w.alloc (.cells #[.slice none 0 0] 22)).heap.size (fun (ps : List P3) W => (∃ v, Boxed W w.heap.size 22 v ∧ W.ownsRow w.heap.size 32 3 v ps.length (flatT ps) ∧ True) ∧ Below w.heap.size w W) :=
    OwnFrom.and ((holdsRow_own w.heap.size w.heap.size 22 32 3 (fun ps : List P3 => ps.length) flatT (fun _ _ => True)).from _) (ownFrom_below (Nat.le_refl _) (by simp))
  refine wpIn_rangeFunc_ownH hro (by omega) (gf := 62) (lb := #[.pointer (some ⟨Bm, 0, none⟩)]) rfl h62 (enters_of Try.func62 (by kernel_rfl) rfl)
    (values_stops F (n - 1) h62 hro (by omega) Bm b nn D0 hfit _ (by simp; omega) hm0 hown0) walksK_t walksK_b (Below.refl _ _) (fun _ => rfl)
    (fun (ps : List P3) W => (∃ v, Boxed W w.heap.size 22 v ∧ W.ownsRow w.heap.size 32 3 v ps.length (flatT ps) ∧ True) ∧ Below w.heap.size w W) (fun _ _ _ => False) hI (fun _ _ _ _ _ h _ _ => h)
    ⟨⟨_, Boxed.new w _ _, ⟨rfl, .inl ⟨rfl, rfl⟩⟩, trivial⟩, (Below.refl _ _).alloc (Nat.le_refl _) _⟩ (AtRound w.heap.size Bm) (atRound_own _ _ _) ?assign ?body ?done ?stop
  case assign =>
    intro l pre x W K hI1 hK
    obtain ⟨x0, x1, x2⟩ := x
    unfold aggT
    gi_wp2_with (rw [Oper.semAt_eq _ _ _ (fun c h => by cases h)]; go_simp; try go_bits)
    obtain ⟨⟨v, hv, hrow, _⟩, hb⟩ := hI1
    exact hK _ _ ((KeepsOthers.alloc _ _).from _) (KeepsWalks.alloc _ _) ⟨⟨v, hv.alloc _, World.ownsRow.alloc hrow _, trivial⟩, hb.alloc hb.size _⟩ ⟨W.heap.size, rfl, Blk.new _ _ _, by have := hv.lt; omega⟩
  case body =>
    rintro l pre x a' W hl hr ⟨⟨v, hv, hrow, _⟩, hb⟩ ⟨c, rfl, hc, hcb⟩ hlen
    obtain ⟨x0, x1, x2⟩ := x
    have e0 : W.cell? ⟨c, 0, none⟩ = some (.int .i64 x0) := hc.cell 0
    have e1 : W.cell? ⟨c, 1, none⟩ = some (.int .i64 x1) := hc.cell 1
    have e2 : W.cell? ⟨c, 2, none⟩ = some (.int .i64 x2) := hc.cell 2
    have f0 := hv.cell
    unfold aggT
    gi_wp2_with (first
      | (gi_at_builtin; refine wpListIn_append_own _ rfl _ _ 22 rfl w.heap.size 32 i0 _ 3 24 Try.underlying22 hi hz0 hz1 hz2 rfl (by decide) _ _ _ rfl (World.ownsRow.alloc hrow _) ⟨W.heap.size, 0, none⟩ 1 1 [.int .i64 x0, .int .i64 x1, .int .i64 x2] rfl rfl (World.news_of_block (heap_alloc_new W _)) (by simp [Value.oneCell']) (by unfold maxLen; omega) (by omega) (by have := hb.size; simp; omega) ?_; intro v' w3 hown' hg3 hnil3
         obtain ⟨g', cap', rfl⟩ := ownsRow_succ hown'
         obtain ⟨q1, q2, q3, q4, q5⟩ := hv.appended hne hrow hb.size (Nat.le_refl _) hown' hg3
         have f1 := q1.cell
         have f2 := q1.frozen
         go_frame)
      | (rw [Oper.semAt_eq _ _ _ (fun c h => by cases h)]; go_simp; try go_bits))
    refine ⟨q4.from _, q4.walks, ⟨⟨_, q2, ?_, trivial⟩, hb.trans q5⟩⟩
    rw [List.length_append, flatT_append]
    exact q3
  case done =>
    rintro D ps W hD hall ⟨⟨v, hv, hr, _⟩, hb⟩ hK
    have f0 := hv.cell
    gi_wp2
    refine ⟨by simp, .inl ⟨_, _, rfl, run_takeDeferred hK, ?_⟩⟩
    have hD2 : w.heap.size ≤ D := by simp at hD; omega
    exact ⟨_, results_tmp rfl _ _ _, v, ps, rfl, hall, ownsRow_putObj hr _ hK rfl, hb.grown (grownBy_putObj' _ _ _) hb.size (fun k e => by cases e; exact hD2)⟩
  case stop =>
    intro D c pre W _ _ h
    exact h.elim

set_option maxHeartbeats 1000000 in
theorem collect_in (F : Fence) (n : Nat) (h60 : F.fn 60) (hf : F.fn 72) (h62 : F.fn 62) (hro : F.round = none) (hn : 4 ≤ n) (Bm b nn : Nat) (D0 : DataW Unit) (hfit : Fits D0) (hsz : Maps.size D0 ≤ 1000000) (w : World) (hBm : Bm < w.heap.size)
    (hm : w.cell? ⟨Bm, 0, none⟩ = some (.map (some b))) (hown : w.ownsMap Try.prog 3 peerEl b nn D0) :
    CallsIn F n Try.prog 60 #[.func (.func 62) #[] #[.pointer (some ⟨Bm, 0, none⟩)]] w fun e w' =>
      ∃ v ps, e = .returned v ∧ AllP D0 ps ∧ OwnT w' w.heap.size 32 v ps ∧ Below w.heap.size w w' := by
  have h1 : 1 ≤ n := by omega
  refine callsIn_of_wp Try.func60 rfl h60 ?_ hro
  simp only [Try.ntmps60, List.size_toArray, List.length_cons, List.length_nil, Nat.reduceAdd, Nat.reduceSub, Array.replicate_succ, Array.replicate_zero, List.push_toArray, List.append_toArray, List.nil_append, List.cons_append]
  gi_wp2_with (gi_at_call 72; refine (appendSeq_in F (n - 1) hf h62 hro (by omega) Bm b nn D0 hfit hsz _ hBm hm hown).mono ?_; rintro e w' ⟨v, ps, rfl, hS, hrow, hb⟩)
  go_ret
  exact ⟨v, ps, rfl, hS, hrow, hb⟩

theorem collect_any (Bm b nn : Nat) (D0 : DataW Unit) (hfit : Fits D0) (hsz : Maps.size D0 ≤ 1000000) (w : World) (hBm : Bm < w.heap.size)
    (hm : w.cell? ⟨Bm, 0, none⟩ = some (.map (some b))) (hown : w.ownsMap Try.prog 3 peerEl b nn D0) :
    Calls Try.prog 60 #[.func (.func 62) #[] #[.pointer (some ⟨Bm, 0, none⟩)]] w fun e w' =>
      ∃ v ps, e = .returned v ∧ AllP D0 ps ∧ OwnT w' w.heap.size 32 v ps ∧ Below w.heap.size w w' :=
  calls_of_every_depth (L := [60, 72, 62]) (n := 4) fun D =>
    collect_in _ 4 (by simp [Fence.list]) (by simp [Fence.list]) (by simp [Fence.list]) rfl (by decide) Bm b nn D0 hfit hsz w hBm hm hown
theorem values_any (mb : Option Nat) (w : World) :
    Calls Try.prog 37 #[.map mb] w fun e w' => e = .returned (.func (.func 62) #[] #[.pointer (some ⟨w.heap.size, 0, none⟩)]) ∧ w' = w.alloc (.cells #[.map mb] 50) :=
  calls_of_every_depth (L := [37]) (n := 1) fun D => values_in _ 1 (by simp [Fence.list]) rfl mb w
end Go.Proofs.Ytpolhdkjkidpgaa
