/- append of pairs onto a row that a call owns. -/
import Derived.Test.YthhcooabfgegaaaDotRef
import Derived.Test.YthhcooabfgegaaaDotAwake
import Derived.Laws.AppendOwnNone
namespace Go.Proofs.Ythhcooabfgegaaa
open Go.RowKit Go.Shelf Go.Lib Go.Sort

theorem app_pairs {w : World} {ops : Array Oper} {rest : List Oper} {o : Oper} {a : Act} {Q : Exit → Act → World → Prop} (hgd : o.guard = none) (s x : Operand)
    (ho : o.op = .call { callee := .builtin .append, args := #[s, x], argTypes := #[27, 27] })
    (base : Nat) (v : Value) (ps : List (Int × Int)) (hs : a.eval s = v) (hown : OwnP w base 23 v ps)
    (ao : Option Addr) (m c : Nat) (qs : List (Int × Int)) (hx : a.eval x = .slice ao m c) (hq : qs.length = m) (hc : ao = none → c = 0) (hsl : SlP w ao qs) (hb : ps.length + m ≤ 1000000000) (hbase : base ≤ w.heap.size)
    (h : ∀ v' w', OwnP w' base 23 v' (ps ++ qs) → w.grownBy w' v.ownBlock → wpList Try.prog ops Q rest (a.put o.dst v') w') : wpList Try.prog ops Q (o :: rest) a w := by
  obtain ⟨i0, hi, hz0, hz1, hz2⟩ := info_parts infoD
  cases ao with
  | none =>
    have h0 := hsl.none_len
    obtain rfl := hc rfl
    obtain rfl : m = 0 := hq.symm.trans h0
    obtain rfl := List.length_eq_zero_iff.1 h0
    refine wpList_append_own_none hgd s x _ ho base 23 i0 2 Try.underlying27 hi v ps.length (flatD ps) hs hown hx ?_
    refine h v w (by rw [List.append_nil]; exact hown) ⟨rfl, rfl, rfl, Nat.le_refl _, fun _ _ _ => rfl⟩
  | some ad =>
    refine wpList_append_own w hgd s x _ ho base 23 i0 _ 2 16 Try.underlying27 hi hz0 hz1 hz2 rfl (by decide) v ps.length (flatD ps) hs hown ad m c (flatD qs) hx (by rw [flatD_length, hq]) hsl.newsA (flatD_cell qs) (by unfold maxLen; omega) (by omega) hbase ?_
    intro v' w' h1 h2 _
    refine h v' w' ?_ h2
    show w'.ownsRow _ _ _ _ _ _
    rw [flatD_append, List.length_append, hq]
    exact h1
theorem own_grown {w a b : World} {base : Nat} {t : TypeId} {v : Value} {ps : List (Int × Int)} (hown : OwnP a base t v ps) (hB : Below w.heap.size w a) (hb : w.heap.size ≤ base) (hg : a.grownBy b v.ownBlock) : Below w.heap.size w b :=
  hB.grown hg hB.size (fun k hk => Nat.le_trans hb (hown.lt k hk).1)
theorem OwnP.cap0 {w : World} {base : Nat} {t : TypeId} {ao : Option Addr} {n cap : Nat} {ps : List (Int × Int)} (h : OwnP w base t (.slice ao n cap) ps) : ao = none → cap = 0 := by
  rintro rfl
  rcases h.2 with ⟨h1, _⟩ | ⟨g, cap', cur, h1, _⟩
  · cases h1; rfl
  · cases h1

set_option maxRecDepth 100000 in
set_option maxHeartbeats 1000000 in
theorem refof_any (ao : Option Addr) (ps : List (Int × Int)) (n cap : Nat) (hn : Hid (ps.length = n)) (hm : n ≤ 1000000) (z : Int) (w : World) (hs : SlP w ao ps) :
    Calls Try.prog 19 #[.slice ao n cap, .int .i64 z] w fun e w' => ∃ v, e = .returned v ∧ OwnP w' w.heap.size 23 v (ps.filter fun p => decide (p.1 = z)) ∧ Below w.heap.size w w' := by
  have HS := Lib.hid hs
  clear hs
  go_enter Try.func19, Try.ntmps19
  go_wp2_with fail
  go_loopw [5, 6] (fun v i wr => ∃ k : Nat, k ≤ n ∧ i = .int .i64 (k : Int) ∧ OwnP wr w.heap.size 23 v ((ps.take k).filter fun p => decide (p.1 = z)) ∧ Below w.heap.size w wr) (fun _ i _ => n - (intOf i).toNat)
  case atStart => exact ⟨0, by omega, rfl, OwnP.nil _ _ _, Below.refl _ _⟩
  case round =>
    obtain ⟨k, hk, rfl, hown, hB⟩ := hrel
    by_cases hlt : k < n
    · obtain ⟨b, off, u, v, rfl, hbl, c0, c1, hpk⟩ := HS.out.get k (by rw [hn.out]; exact hlt)
      have d0 : wr.cell? ⟨b, off + k * 2, none⟩ = some (.int .i64 u) := (hB.cell (p := ⟨b, off + k * 2, none⟩) hbl).trans c0
      have d1 : wr.cell? ⟨b, off + k * 2 + 1, none⟩ = some (.int .i64 v) := (hB.cell (p := ⟨b, off + k * 2 + 1, none⟩) hbl).trans c1
      clear c0 c1
      have htk := take_snocP hpk.out
      obtain ⟨L, hL⟩ := nm ((ps.take k).filter fun p => decide (p.1 = z))
      have hLl : L.length ≤ k := by rw [hL.out]; exact Nat.le_trans (List.length_filter_le _ _) (by rw [List.length_take]; omega)
      rw [← hL.out] at hown
      by_cases huz : u = z
      · subst huz
        have hN : Hid ((ps.take (k + 1)).filter (fun p => decide (p.1 = u)) = L ++ [(u, v)]) := by
          show _ = _
          rw [htk, List.filter_append, ← hL.out]
          simp
        have hub : (u == u) = true := by simp
        clear htk
        go_wp2_with (at_builtin; refine app_pairs rfl _ _ rfl w.heap.size _ L rfl (hown.alloc _) (some ⟨wr.heap.size, 0, none⟩) 1 1 [(u, v)] rfl rfl (fun h => by cases h) (SlP.ofBlk (Blk.new wr _ _)) (by omega) (Nat.le_trans hB.size (by simp)) ?_)
        intro v' w2 hown2 hgrow
        have hB2 := own_grown (hown.alloc _) (bNew hB _) (Nat.le_refl _) hgrow
        rw [← hN.out] at hown2
        clear hown hgrow hB
        go_wp2_with fail
        go_roundw
        case rel => exact ⟨k + 1, by omega, by go_num, hown2, hB2⟩
        case measure => simp [intOf]; omega
      · have hN : (ps.take (k + 1)).filter (fun p => decide (p.1 = z)) = L := by
          rw [htk, List.filter_append, ← hL.out]
          simp [huz]
        have hub : (u == z) = false := by simpa using huz
        rw [← hN] at hown
        clear htk hN
        go_wp2_with fail
        go_roundw
        case rel => exact ⟨k + 1, by omega, by go_num, hown, hB⟩
        case measure => simp [intOf]; omega
    · obtain rfl : k = n := by omega
      rw [List.take_of_length_le (by rw [hn.out]; exact Nat.le_refl _)] at hown
      go_wp2_with fail
      go_ret
      exact ⟨_, rfl, hown, hB⟩

set_option maxRecDepth 100000 in
set_option maxHeartbeats 400000 in
theorem refless_any (x1 x2 y1 y2 : Int) (r : Bool) (hr : Hid (r = decide (ltP (x1, x2) (y1, y2)))) (w : World) :
    Calls Try.prog 23 #[.agg #[.int .i64 x1, .int .i64 x2], .agg #[.int .i64 y1, .int .i64 y2]] w fun e w' => e = .returned (.bool r) ∧ Below w.heap.size w w' := by
  have hr2 := hr.out
  unfold ltP at hr2
  simp only at hr2
  rcases Int.lt_trichotomy x1 y1 with h | h | h
  · have h1 : r = true := by rw [hr2]; exact decide_eq_true (.inl h)
    subst h1
    have hd : decide (x1 < y1) = true := decide_eq_true h
    clear hr2
    go_enter Try.func23, Try.ntmps23
    go_wp2_with fail
    go_ret
    exact ⟨rfl, bNew (bOld _) _⟩
  · subst h
    have hd : decide (x1 < x1) = false := by simp
    have he : (x1 == x1) = true := by simp
    have h1 : decide (x2 < y2) = r := by rw [hr2]; exact decide_eq_decide.2 ⟨fun h => .inr ⟨rfl, h⟩, fun h => by omega⟩
    clear hr2
    go_enter Try.func23, Try.ntmps23
    go_wp2_with fail
    go_ret
    exact ⟨rfl, bNew (bOld _) _⟩
  · have h1 : r = false := by rw [hr2]; exact decide_eq_false (by omega)
    subst h1
    have hd : decide (x1 < y1) = false := decide_eq_false (by omega)
    have he : (x1 == y1) = false := by simp; omega
    clear hr2
    go_enter Try.func23, Try.ntmps23
    go_wp2_with fail
    go_ret
    exact ⟨rfl, bNew (bOld _) _⟩
end Go.Proofs.Ythhcooabfgegaaa
