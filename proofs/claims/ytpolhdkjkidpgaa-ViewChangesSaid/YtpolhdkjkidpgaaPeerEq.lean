/- '==' and '!=' between two peers; caravanref09.Same. -/
import Derived.Test.YtpolhdkjkidpgaaVw
import Derived.Test.YtpolhdkjkidpgaaViewLater
import Derived.Laws.StructEq
import Derived.BigQuiet
import Derived.Deep.QuietTactic
namespace Go.Proofs.Ytpolhdkjkidpgaa
open Go.RowKit Go.Shelf Go.Lib Go.Sort

theorem guardT (op : BinOp) (a b : Operand) (xs ys : Array Value) (w : World) : Sem.run Try.prog (eqGuard op 32 a b (.agg xs) (.agg ys)) w = .ok () w := run_eqGuard_agg w op _ a b xs ys (by kernel_rfl)
theorem equalT (x1 x2 x3 y1 y2 y3 : Int) (w : World) : (Op.equalIn 10000 32 (.agg #[.int .i64 x1, .int .i64 x2, .int .i64 x3]) (.agg #[.int .i64 y1, .int .i64 y2, .int .i64 y3])).run Try.prog w = .ok (decide ((x1, x2, x3) = (y1, y2, y3))) w := by
  rw [run_equalIn_agg w 9999 _ _ _ (by kernel_rfl) (by kernel_rfl)]
  by_cases h1 : x1 = y1
  · by_cases h2 : x2 = y2
    · by_cases h3 : x3 = y3
      · simp [go_sem, Try.underlying32, Try.underlying3, h1, h2, h3]
        done
      · simp [go_sem, Try.underlying32, Try.underlying3, h1, h2, h3]
        done
    · simp [go_sem, Try.underlying32, Try.underlying3, h1, h2]
      done
  · simp [go_sem, Try.underlying32, Try.underlying3, h1]
    done
theorem eqlT (x1 x2 x3 y1 y2 y3 : Int) (b : Bool) (hb : decide ((x1, x2, x3) = (y1, y2, y3)) = b) (w : World) : Sem.run Try.prog (binOp .eql 32 (.agg #[.int .i64 x1, .int .i64 x2, .int .i64 x3]) (.agg #[.int .i64 y1, .int .i64 y2, .int .i64 y3])) w = .ok (.bool b) w := by
  rw [run_eql_struct, equalT, hb]; rfl
theorem neqT (x1 x2 x3 y1 y2 y3 : Int) (b : Bool) (hb : decide ((x1, x2, x3) = (y1, y2, y3)) = b) (w : World) : Sem.run Try.prog (binOp .neq 32 (.agg #[.int .i64 x1, .int .i64 x2, .int .i64 x3]) (.agg #[.int .i64 y1, .int .i64 y2, .int .i64 y3])) w = .ok (.bool (!b)) w := by
  rw [run_neq_struct, equalT, hb]; rfl
theorem take_snocT {ps : List P3} {k : Nat} {p : P3} (h : ps[k]? = some p) : ps.take (k + 1) = ps.take k ++ [p] := by
  obtain ⟨h1, h2⟩ := List.getElem?_eq_some_iff.1 h
  rw [List.take_succ_eq_append_getElem h1, h2]

set_option maxRecDepth 100000 in
set_option maxHeartbeats 1000000 in
theorem sameT_any (a1 a2 : Option Addr) (c1 c2 n m : Nat) (xs ys : List P3) (hx : Hid (xs.length = n)) (hy : Hid (ys.length = m)) (w : World) (hlen : n ≤ 1000000000) (h1 : SlT w a1 xs) (h2 : SlT w a2 ys) (r : Bool) (hr : Hid (r = decide (xs = ys))) :
    Calls Try.prog 12 #[.slice a1 n c1, .slice a2 m c2] w fun e w' => e = .returned (.bool r) ∧ ∃ q, w' = w.drewN q := by
  by_cases hmn : n = m
  rotate_left
  · have hne : r = false := by rw [hr.out]; exact decide_eq_false (by intro e; apply hmn; rw [← hx.out, ← hy.out, e])
    subst hne
    go_enter Try.func12, Try.ntmps12
    go_wp2_with fail
    go_ret
    exact ⟨rfl, 0, rfl⟩
  subst hmn
  have H1 := Lib.hid h1
  have H2 := Lib.hid h2
  clear h1 h2
  go_enter Try.func12, Try.ntmps12
  go_wp2_with fail
  go_loopw [5] (fun i wr => ∃ (k q : Nat), k ≤ n ∧ i = .int .i64 (k : Int) ∧ wr = w.drewN q ∧ Hid (xs.take k = ys.take k)) (fun i _ => n - (intOf i).toNat)
  case atStart => exact ⟨0, 0, by omega, rfl, rfl, Lib.hid (by simp)⟩
  case round =>
    obtain ⟨k, q, hk, rfl, rfl, ht⟩ := hrel
    by_cases hlt : k < n
    · obtain ⟨b1, o1, x1, x2, x3, rfl, hb1, d1, d2, d3, e1⟩ := H1.out.get k (by rw [hx.out]; exact hlt)
      obtain ⟨b2, o2, y1, y2, y3, rfl, hb2, d4, d5, d6, e2⟩ := H2.out.get k (by rw [hy.out]; exact hlt)
      obtain ⟨B, hBB⟩ := nm (decide ((x1, x2, x3) = (y1, y2, y3)))
      have heq := fun w => neqT x1 x2 x3 y1 y2 y3 B hBB.out.symm w
      have hgd := fun (a b : Operand) (w : World) => guardT .neq a b #[.int .i64 x1, .int .i64 x2, .int .i64 x3] #[.int .i64 y1, .int .i64 y2, .int .i64 y3] w
      cases B
      · have HE : Hid (r = false) := by
          show _ = _
          rw [hr.out]
          refine decide_eq_false fun e => ?_
          have h3 := e1.out
          rw [e, e2.out] at h3
          have h4 := Option.some.inj h3
          have := hBB.out
          rw [h4] at this
          simp at this
        go_wp2_with fail
        go_quiet (fail)
        go_wp2_with fail
        go_ret
        rw [HE.out]
        exact ⟨rfl, q + nq, by rw [World.drewN_drewN]⟩
      · have HT : Hid (xs.take (k + 1) = ys.take (k + 1)) := by
          show _ = _
          have e : (x1, x2, x3) = (y1, y2, y3) := by simpa using hBB.out.symm
          rw [take_snocT e1.out, take_snocT e2.out, ht.out, e]
        clear ht
        go_wp2_with fail
        go_quiet (fail)
        go_wp2_with fail
        go_roundw
        case rel => exact ⟨k + 1, q + nq, by omega, by go_num, rfl, HT⟩
        case measure => simp [intOf]; omega
    · obtain rfl : k = n := by omega
      have HE : Hid (r = true) := by
        show _ = _
        rw [hr.out]
        refine decide_eq_true ?_
        have e := ht.out
        rw [List.take_of_length_le (by rw [hx.out]; exact Nat.le_refl _), List.take_of_length_le (by rw [hy.out]; exact Nat.le_refl _)] at e
        exact e
      go_wp2_with fail
      go_ret
      rw [HE.out]
      exact ⟨rfl, q, rfl⟩
/-- Two views that are the same row. -/
theorem same_yes (A B : List P3) (hl : A.length ≤ 1000) (he : A = B) (va vb : Value) (w : World) (ha : Vw w va A) (hb : Vw w vb B) :
    Calls Try.prog 12 #[va, vb] w fun e w' => e = .returned (.bool true) ∧ ∃ q, w' = w.drewN q := by
  obtain ⟨a1, c1, rfl, _, _, h1⟩ := ha
  obtain ⟨a2, c2, rfl, _, _, h2⟩ := hb
  exact sameT_any a1 a2 c1 c2 _ _ A B rfl rfl w (by omega) h1 h2 true (by show _ = _; exact (decide_eq_true he).symm)
end Go.Proofs.Ytpolhdkjkidpgaa
