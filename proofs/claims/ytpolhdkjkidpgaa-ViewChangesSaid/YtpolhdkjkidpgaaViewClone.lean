/- slices.Clone of a view. -/
import Derived.Test.YtpolhdkjkidpgaaVw
import Derived.Test.YtpolhdkjkidpgaaViewJoin
namespace Go.Proofs.Ytpolhdkjkidpgaa
open Go.RowKit Go.Shelf Go.Lib Go.Sort

theorem own_new0 (w : World) (base : Nat) (hb : base ≤ w.heap.size) : OwnT (w.alloc (.cells #[] 32)) base 32 (.slice (some ⟨w.heap.size, 0, none⟩) 0 0) [] :=
  ⟨rfl, .inr ⟨_, 0, #[], rfl, hb, heap_alloc_new w _, Nat.le_refl _, Nat.zero_le _, rfl, rfl⟩⟩
set_option maxRecDepth 100000 in
set_option maxHeartbeats 1000000 in
theorem clone_any (A : List P3) (hl : A.length ≤ 1000) (v : Value) (w : World) (hv : Vw w v A) :
    Calls Try.prog 43 #[v] w fun e w' => ∃ v', e = .returned v' ∧ OwnT w' w.heap.size 32 v' A ∧ Below w.heap.size w w' := by
  obtain ⟨ao, cap, rfl, hc, hno, hsl⟩ := hv
  have q22 : ∀ (w : World) (a : Option Addr) (n c n' c' : Nat), (binOp .eql 22 (.slice a n c) (.slice none n' c')).run Try.prog w = .ok (.bool a.isNone) w := fun w a n c n' c' => Lib.run_eql_slice_nil w _ _ a n c n' c' Try.underlying22
  cases ao with
  | none =>
    have h0 : A = [] := List.length_eq_zero_iff.1 hsl.none_len
    subst h0
    obtain rfl := hno rfl
    go_enter Try.func43, Try.ntmps43
    go_wp2_with fail
    go_ret
    exact ⟨_, rfl, OwnT.nil _ _ _, Below.refl _ _⟩
  | some ad =>
    obtain ⟨n, hn⟩ := nm A.length
    rw [← hn.out] at hl hc ⊢
    have HS := Lib.hid hsl
    have HN := Lib.hid hno
    have hown := own_new0 w w.heap.size (Nat.le_refl _)
    have HO := Lib.hid hown
    clear hsl hno hown
    go_enter Try.func43, Try.ntmps43
    go_wp2_with (at_builtin; refine app_trips rfl _ _ rfl w.heap.size _ [] rfl HO.out (some ad) n cap A rfl hn.out.symm HN.out (HS.out.below (bOld (w := w) _)) (by simp; omega) (by simp) ?_)
    intro v2 w2 hown2 hg2
    have hB2 : Below w.heap.size w w2 := (bOld (w := w) _).grown hg2 (by simp) (fun k hk => by cases hk; exact Nat.le_refl _)
    clear hg2
    go_wp2_with fail
    go_ret
    exact ⟨v2, rfl, hown2, hB2⟩
end Go.Proofs.Ytpolhdkjkidpgaa
