/- dot.Sort: the row that rises. -/
import Derived.Test.YthhcooabfgegaaaPairCompact
import Derived.Test.YthhcooabfgegaaaSortShelf
import Derived.Test.YthhcooabfgegaaaDotCmp
import Derived.Deep.LoopGhost
import Derived.OwnWalk
namespace Go.Proofs.Ythhcooabfgegaaa
open Go.RowKit Go.Shelf Go.Lib Go.Sort

theorem infoD : (Try.prog.info? 23).map (fun i => (i.zero, i.size, i.bytes)) = some (some (.agg #[.int .i64 0, .int .i64 0]), 2, 16) := by kernel_rfl

theorem SlP.newsA {w : World} {a : Addr} {ps : List (Int × Int)} (h : SlP w (some a) ps) : ∀ j u, (flatD ps)[j]? = some u → w.cell? (a.add j) = some u := by
  intro j u hj
  by_cases h0 : ps.length = 0
  · rw [List.length_eq_zero_iff.1 h0] at hj; simp [flatD] at hj
  · obtain ⟨b, off, h1, _⟩ := h 0 (by omega)
    cases h1
    exact h.news j u hj

set_option maxRecDepth 100000 in
set_option maxHeartbeats 400000 in
/-- slices.Clone of a row of pairs. -/
theorem clone_any (ao : Option Addr) (ps : List (Int × Int)) (n cap : Nat) (hn : ps.length = n) (w : World) (hs : SlP w ao ps) (hm : n * 16 ≤ 140737488355328) (h0 : ao = none → n = 0) :
    Calls Try.prog 38 #[.slice ao n cap] w fun e w' => ∃ v', e = .returned v' ∧ OwnP w' w.heap.size 23 v' ps ∧ Below w.heap.size w w' := by
  subst hn
  obtain ⟨i0, hi, hz0, hz1, hz2⟩ := info_parts infoD
  have q22 : ∀ (w : World) (a : Option Addr) (n c n' c' : Nat), (binOp .eql 27 (.slice a n c) (.slice none n' c')).run Try.prog w = .ok (.bool a.isNone) w := fun w a n c n' c' => Lib.run_eql_slice_nil w _ _ a n c n' c' Try.underlying27
  cases ao with
  | none =>
    obtain rfl := List.length_eq_zero_iff.1 (h0 rfl)
    go_enter Try.func38, Try.ntmps38
    go_wp2_with fail
    go_ret
    exact ⟨_, rfl, OwnP.nil _ _ _, Below.refl _ _⟩
  | some a =>
    have hnews := hs.newsA
    have hfl := flatD_length ps
    obtain ⟨n, hn⟩ := nm ps.length
    rw [← hn.out] at hm hfl ⊢
    obtain ⟨xs, hx⟩ := nm (flatD ps)
    rw [← hx.out] at hfl hnews
    have h1 : ∀ u ∈ xs, u.oneCell' = true := by rw [hx.out]; exact flatD_cell ps
    have HN := Lib.hid hnews
    have H1 := Lib.hid h1
    have HF := Lib.hid hfl
    clear hnews h1 hfl hs h0
    go_enter Try.func38, Try.ntmps38
    go_wp2_with (at_builtin; refine wpList_append_own _ rfl _ _ 27 rfl w.heap.size 23 i0 (.agg #[.int .i64 0, .int .i64 0]) 2 16 Try.underlying27 hi hz0 hz1 hz2 rfl (by decide) _ _ _ rfl (World.ownsRow_made w #[] 0 (Nat.le_refl _) (Nat.zero_le _) (by simp)) a n cap xs rfl HF.out ?qc2 H1.out ?qc4 ?qc5 ?qc6 ?_)
    case qc2 =>
      intro j u hj
      exact Lib.cell?_alloc_some _ (HN.out j u hj)
    case qc4 => unfold maxLen; omega
    case qc5 => omega
    case qc6 => simp
    intro v' w1 hown hgrow hnil
    go_wp2_with fail
    go_ret
    refine ⟨v', rfl, ?_, ?_⟩
    · show w1.ownsRow _ _ _ _ _ _
      rw [← hn.out, ← hx.out]
      simpa using hown
    · exact ((Below.refl _ w).alloc (Nat.le_refl _) _).grown hgrow (by simp) (by intro k hk; simp [Value.ownBlock] at hk; omega)

/-- slices.SortFunc by dot.compare, of a row that is held. -/
theorem sortfunc_any (b cap : Nat) (ps : List (Int × Int)) (w : World) (hH : HoldsD w b ps.toArray) (hb : b < w.heap.size) (hsz : ps.length < 4611686018427387904) :
    Calls Try.prog 39 #[.slice (some ⟨b, 0, none⟩) ps.length cap, .func (.func 37) #[] #[]] w fun e w' =>
      e = .returned (.tuple #[]) ∧ HoldsD w' b (msD ps).toArray ∧ Kept b w w' := by
  have eg : ∀ args w, (callFunc 37 args).run Try.prog w = .ok (.enter 37 args) w := enters_of Try.func37 (by kernel_rfl) rfl
  have hC : CmpLays Try.prog 37 #[] encD 2 cmpD b 0 ps.toArray.size w := fun _ _ _ _ x y => compare_any x y _
  have hcon := AnyQ.slices_SortFunc_total Try.sortPair 2 Try.isAgg23 Try.sizeOf23 encD encD_len encD_one cmpD swoD 37 #[] b 0 cap ps.toArray w eg hC hH hb (by simpa using hsz) totD
  rw [show ps.toArray.size = ps.length from by simp] at hcon
  refine hcon.mono ?_
  rintro e w' ⟨rfl, n, os, rfl⟩
  have hS : SWK encD 2 w b 0 (msD ps).toArray (sortWorldK encD 2 w b 0 n (msD ps).toArray os) := ⟨n, os, rfl⟩
  exact ⟨rfl, hS.holds hb hH (by simp [msD_length]), SWK.keptD hS⟩

/-- .. of no element. -/
theorem sortfunc_none (p : Option Addr) (cap : Nat) (fv : Value) (w : World) :
    Calls Try.prog 39 #[.slice p 0 cap, fv] w fun e w' => e = .returned (.tuple #[]) ∧ w = w' :=
  (AnyF.slices_SortFunc_none Try.sortPair p cap fv w).mono fun _ _ ⟨h1, h2⟩ => ⟨h1, h2.symm⟩

set_option maxRecDepth 100000 in
set_option maxHeartbeats 400000 in
theorem compact_none (p : Option Addr) (cap : Nat) (w : World) :
    Calls Try.prog 40 #[.slice p 0 cap] w fun e w' => e = .returned (.slice p 0 cap) ∧ w = w' := by
  go_enter Try.func40, Try.ntmps40
  go_wp2_with fail
  go_ret
  exact ⟨rfl, rfl⟩

/-- What dot.Sort tells. -/
def SortTells (ps : List (Int × Int)) (w : World) (e : Ending) (w' : World) : Prop :=
  ∃ ao cap, e = .returned (.slice ao (sortD ps).length cap) ∧ (sortD ps).length ≤ cap ∧ SlP w' ao (sortD ps) ∧ (∀ a, ao = some a → w.heap.size ≤ a.block) ∧ (ao = none → (sortD ps).length = 0) ∧ Below w.heap.size w w'

set_option maxRecDepth 100000 in
set_option maxHeartbeats 400000 in
theorem sort_any (ao : Option Addr) (ps : List (Int × Int)) (n cap : Nat) (hn : ps.length = n) (w : World) (hs : SlP w ao ps) (hm : n * 16 ≤ 140737488355328) (h0 : ao = none → n = 0) :
    Calls Try.prog 12 #[.slice ao n cap] w (SortTells ps w) := by
  have HS := Lib.hid hs
  clear hs
  by_cases hz : n = 0
  · subst hz
    obtain rfl := List.length_eq_zero_iff.1 hn
    go_enter Try.func12, Try.ntmps12
    go_wp2_with fail
    refine (clone_any ao [] 0 cap rfl w HS.out (by decide) (fun _ => rfl)).mono ?_; rintro e w1 ⟨v, rfl, hO, hB⟩
    obtain ⟨ao2, cap2, rfl, hc, _, _, ha⟩ := hO.sl
    go_wp2_with fail
    refine (sortfunc_none _ _ _ _).mono ?_; rintro e w2 ⟨rfl, rfl⟩
    go_wp2_with fail
    refine (compact_none _ _ _).mono ?_; rintro e w2 ⟨rfl, rfl⟩
    go_wp2_with fail
    go_ret
    exact ⟨ao2, cap2, rfl, Nat.zero_le _, SlP.nil _ _, ha, fun _ => rfl, hB⟩
  · go_enter Try.func12, Try.ntmps12
    go_wp2_with fail
    refine (clone_any ao ps n cap hn w HS.out hm h0).mono ?_; rintro e w1 ⟨v, rfl, hO, hB⟩
    obtain ⟨g, cap2, rfl, hg, hgl, hc, hcm, hH⟩ := HoldsD.ofOwn hO (by
      rintro rfl
      rcases hO.2 with ⟨_, h⟩ | ⟨_, _, _, h, _⟩
      · exact hz (hn.symm.trans h)
      · cases h)
    have HH := Lib.hid hH
    clear hH hO
    rw [show (Value.slice (some ⟨g, 0, none⟩) ps.length cap2) = (Value.slice (some ⟨g, 0, none⟩) n cap2) from by rw [hn]]
    rw [hn] at hc
    have hsf := sortfunc_any g cap2 ps w1 HH.out hgl (by omega)
    rw [hn] at hsf
    go_wp2_with fail
    refine hsf.mono ?_; rintro e w2 ⟨rfl, hH2, hK⟩
    have hsz : (msD ps).toArray.size = n := by simp [msD_length, hn]
    have hcp := compact_any g cap2 (msD ps).toArray w2 hH2 (Nat.lt_of_lt_of_le hgl hK.size) (by rw [hsz]; exact hc) hcm
    rw [compact_sortD, hsz] at hcp
    have HCP := Lib.hid hcp
    clear hcp hH2 hsf
    go_wp2_with fail
    refine HCP.out.mono ?_; rintro e w3 ⟨rfl, hsl, hK2⟩
    have hle := sortD_length ps
    have HLE : Hid ((sortD ps).length ≤ cap2) := by show _ ≤ _; omega
    clear hle
    go_wp2_with fail
    go_ret
    refine ⟨_, cap2, rfl, HLE.out, hsl, (fun a ha => by cases ha; exact hg), (fun h => by cases h), hB.trans ((hK.trans hK2).below hg hB.size)⟩
end Go.Proofs.Ythhcooabfgegaaa
