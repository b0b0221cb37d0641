/- The wheel in a law: what stays of what it gave; the examples. -/
import Derived.Test.YtipnfalmnoieiaaWheelDueB
namespace Go.Proofs.Ytipnfalmnoieiaa
open Go.RowKit Go.Shelf Go.Lib Go.Sort Go.Maps

/-- A wheel as a law holds it: its blocks lie above those with which the law began. -/
structure WB (w0 w : World) (p : Nat) (F : Nat → Prop) (L : List (Int × Int)) (clk : Int) : Prop where
  whl : WL w p F L clk
  below : Below w0.heap.size w0 w
  base : ∀ k, F k → w0.heap.size ≤ k
/-- A slice that is none of a wheel's blocks. -/
def SlF (w : World) (F : Nat → Prop) (ao : Option Addr) (ps : List (Int × Int)) : Prop := SlP w ao ps ∧ ∀ a, ao = some a → a.block < w.heap.size ∧ ¬ F a.block
theorem SlP.keptS {S : Nat → Prop} {w w' : World} {ao : Option Addr} {ps : List (Int × Int)} (h : SlP w ao ps) (hk : KeptS S w w') (hS : ∀ a, ao = some a → ¬ S a.block) : SlP w' ao ps := by
  intro k hk'
  obtain ⟨b, off, h1, h2, h3⟩ := h k hk'
  refine ⟨b, off, h1, Nat.lt_of_lt_of_le h2 hk.size, fun j p hj => ?_⟩
  have e : ∀ o, w'.cell? ⟨b, o, none⟩ = w.cell? ⟨b, o, none⟩ := fun o => by simp only [World.cell?, hk.block b h2 (hS _ h1)]
  rw [e, e]
  exact h3 j p hj
theorem SlF.same {F : Nat → Prop} {w w' : World} {ao : Option Addr} {ps : List (Int × Int)} (h : SlF w F ao ps) (hk : KeptS F w w') : SlF w' F ao ps :=
  ⟨h.1.keptS hk fun a ha => (h.2 a ha).2, fun a ha => ⟨Nat.lt_of_lt_of_le (h.2 a ha).1 hk.size, (h.2 a ha).2⟩⟩
theorem SlF.set {F F' : Nat → Prop} {w w' : World} {ao : Option Addr} {ps : List (Int × Int)} (h : SlF w F ao ps) (hk : KeptS F w w') (hF : ∀ k, F' k → F k ∨ w.heap.size ≤ k) : SlF w' F' ao ps :=
  ⟨h.1.keptS hk fun a ha => (h.2 a ha).2, fun a ha => ⟨Nat.lt_of_lt_of_le (h.2 a ha).1 hk.size, fun e => by
    rcases hF _ e with h1 | h1
    · exact (h.2 a ha).2 h1
    · have := (h.2 a ha).1; omega⟩⟩
theorem SlF.more {F : Nat → Prop} {w w' : World} {ao : Option Addr} {ps : List (Int × Int)} (h : SlF w F ao ps) (hb : Below w.heap.size w w') : SlF w' F ao ps :=
  ⟨h.1.below hb, fun a ha => ⟨Nat.lt_of_lt_of_le (h.2 a ha).1 hb.size, (h.2 a ha).2⟩⟩
theorem WB.more {w0 w w' : World} {p : Nat} {F : Nat → Prop} {L : List (Int × Int)} {clk : Int} (h : WB w0 w p F L clk) (hb : Below w.heap.size w w') : WB w0 w' p F L clk :=
  ⟨h.whl.below hb, bNext h.below hb, h.base⟩
theorem WB.same {w0 w w' : World} {p : Nat} {F : Nat → Prop} {L L' : List (Int × Int)} {clk clk' : Int} (h : WB w0 w p F L clk) (hw : WL w' p F L' clk') (hk : KeptS F w w') : WB w0 w' p F L' clk' :=
  ⟨hw, h.below.trans (hk.below h.base h.below.size), h.base⟩
theorem WB.set {w0 w w' : World} {p : Nat} {F F' : Nat → Prop} {L L' : List (Int × Int)} {clk clk' : Int} (h : WB w0 w p F L clk) (hw : WL w' p F' L' clk') (hk : KeptS F w w') (hF : ∀ k, F' k → F k ∨ w.heap.size ≤ k) : WB w0 w' p F' L' clk' :=
  ⟨hw, h.below.trans (hk.below h.base h.below.size), fun k hk' => by
    rcases hF k hk' with h1 | h1
    · exact h.base k h1
    · exact Nat.le_trans h.below.size h1⟩
theorem set_is (p : Nat) (F : Nat → Prop) (L L' : List (Int × Int)) (clk a id : Int) (hwf : (Lit.int .i64 id).wf = true) (ha0 : 0 ≤ a) (ha1 : a ≤ 1125899906842624) (hroom : id ∈ idsL L ∨ L.length < 4096) (hL : Hid (setL L a id = L')) (w0 w : World) (h : WB w0 w p F L clk) :
    Calls Try.prog 11 #[.pointer (some ⟨p, 0, none⟩), .int .i64 a, .int .i64 id] w fun e w' => e = .returned (.int .i64 0) ∧ ∃ F', WB w0 w' p F' L' clk ∧ KeptS F w w' ∧ ∀ k, F' k → F k ∨ w.heap.size ≤ k := by
  refine (set_ok p F L clk a id hwf ha0 ha1 hroom w h.whl).mono ?_
  rintro e w' ⟨rfl, F', h1, h2, h3⟩
  rw [hL.out] at h1
  exact ⟨rfl, F', h.set h1 h2 h3, h2, h3⟩
theorem due_is (p : Nat) (F : Nat → Prop) (L D R : List (Int × Int)) (clk now C : Int) (n : Nat) (hC : Hid (dueC clk now = C)) (hD : Hid (dueL L C = D)) (hR : Hid (restL L C = R)) (hn : Hid (D.length = n)) (w0 w : World) (h : WB w0 w p F L clk) :
    Calls Try.prog 13 #[.pointer (some ⟨p, 0, none⟩), .int .i64 now] w fun e w' => (∃ ao cap, e = .returned (.slice ao n cap) ∧ n ≤ cap ∧ SlF w' F ao D) ∧ WB w0 w' p F R C ∧ KeptS F w w' := by
  refine (due_any p F L clk now C hC w h.whl).mono ?_
  rintro e w' ⟨v, rfl, h1, h2, h3⟩
  rw [hD.out] at h1
  rw [hR.out] at h2
  refine ⟨?_, h.same h2 h3, h3⟩
  have hlt := h1.lt
  obtain ⟨ao, cap, rfl, hc, _, hs, hb⟩ := h1.sl
  rw [hn.out] at hc ⊢
  refine ⟨ao, cap, rfl, hc, hs, fun a ha => ?_⟩
  subst ha
  have h5 := hlt a.block rfl
  refine ⟨h5.2, fun hF => ?_⟩
  have := h.whl.lt _ hF
  have := hb a rfl
  omega

set_option maxRecDepth 100000 in
set_option maxHeartbeats 4000000 in
theorem awake_any (w : World) :
    Calls Try.prog 9 #[] w fun e w' => e = .returned (.bool true) ∧ Below w.heap.size w w' := by
  go_enter Try.func9, Try.ntmps9
  go_wp2_with fail
  refine (new_any _).mono ?_; rintro e w1 ⟨rfl, hW, hB⟩
  have H1 : Hid (WB w w1 w.heap.size (fun k => k = w.heap.size) [] 0) := ⟨hW, hB, fun k e => Nat.le_of_eq e.symm⟩
  obtain ⟨p, hp⟩ := nm w.heap.size
  obtain ⟨F1, hF1⟩ := nm (fun k => k = w.heap.size)
  rw [← hp.out]
  rw [← hF1.out, ← hp.out] at H1
  clear hW hB
  go_wp2_with fail
  refine (set_is p F1 [] [(5, 1)] 0 5 1 (by decide) (by decide) (by decide) (.inr (by decide)) (by show _ = _; decide) w _ H1.out).mono ?_; rintro e w2 ⟨rfl, F2, hH, hk, hf⟩
  have H2 := Lib.hid hH
  clear hH hk hf
  go_wp2_with fail
  refine (set_is p F2 [(5, 1)] [(3, 2), (5, 1)] 0 3 2 (by decide) (by decide) (by decide) (.inr (by decide)) (by show _ = _; decide) w _ H2.out).mono ?_; rintro e w3 ⟨rfl, F3, hH, hk, hf⟩
  have H3 := Lib.hid hH
  clear hH hk hf
  go_wp2_with fail
  refine (set_is p F3 [(3, 2), (5, 1)] [(3, 2), (5, 0), (5, 1)] 0 5 0 (by decide) (by decide) (by decide) (.inr (by decide)) (by show _ = _; decide) w _ H3.out).mono ?_; rintro e w4 ⟨rfl, F4, hH, hk, hf⟩
  have H4 := Lib.hid hH
  clear hH hk hf
  go_wp2_with fail
  refine (due_is p F4 [(3, 2), (5, 0), (5, 1)] [(3, 2), (5, 0), (5, 1)] [] 0 5 5 3 (by show _ = _; decide) (by show _ = _; decide) (by show _ = _; decide) (by show _ = _; rfl) w _ H4.out).mono ?_; rintro e w5 ⟨⟨a1, c1, rfl, hc1, hS1⟩, hH, hk⟩
  have H5 := Lib.hid hH
  have HS5 := Lib.hid hS1
  clear hH hk hS1
  go_wp2_with fail
  refine (set_is p F4 [] [(7, 1)] 5 7 1 (by decide) (by decide) (by decide) (.inr (by decide)) (by show _ = _; decide) w _ H5.out).mono ?_; rintro e w6 ⟨rfl, F6, hH, hk, hf⟩
  have H6 := Lib.hid hH
  have HS6 := Lib.hid (HS5.out.set hk hf)
  clear hH hk hf
  go_wp2_with fail
  refine (set_is p F6 [(7, 1)] [(6, 1)] 5 6 1 (by decide) (by decide) (by decide) (.inr (by decide)) (by show _ = _; decide) w _ H6.out).mono ?_; rintro e w7 ⟨rfl, F7, hH, hk, hf⟩
  have H7 := Lib.hid hH
  have HS7 := Lib.hid (HS6.out.set hk hf)
  clear hH hk hf
  go_wp2_with fail
  refine (due_is p F7 [(6, 1)] [(6, 1)] [] 5 6 6 1 (by show _ = _; decide) (by show _ = _; decide) (by show _ = _; decide) (by show _ = _; rfl) w _ H7.out).mono ?_; rintro e w8 ⟨⟨a2, c2, rfl, hc2, hS2⟩, hH, hk⟩
  have HS8 := HS7.out.same hk
  obtain ⟨b, off, rfl, hb, h3⟩ := HS8.1 0 (by decide)
  obtain ⟨d0, d1⟩ := h3 0 (3, 2) rfl
  obtain ⟨d2, d3⟩ := h3 1 (5, 0) rfl
  obtain ⟨d4, d5⟩ := h3 2 (5, 1) rfl
  obtain ⟨b', off', rfl, hb', h3'⟩ := hS2.1 0 (by decide)
  obtain ⟨e0, e1⟩ := h3' 0 (6, 1) rfl
  simp only [Nat.zero_mul, Nat.one_mul, Nat.add_zero] at d1 d3 d5 e0
  have HB := Lib.hid hH.below
  clear HS8 hS2 hH hk h3 h3' d0 d2 d4 e1
  go_wp2_with fail
  go_ret
  exact ⟨rfl, HB.out⟩
end Go.Proofs.Ytipnfalmnoieiaa
