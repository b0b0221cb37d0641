/- The wheel as a row that rises: Stop. -/
import Derived.Test.YtipnfalmnoieiaaWheelTake
import Derived.Test.YtipnfalmnoieiaaWheelPlain
namespace Go.Proofs.Ytipnfalmnoieiaa
open Go.RowKit Go.Shelf Go.Lib Go.Sort Go.Maps

/-- The numbers of a row are numbers. -/
def WfL (L : List (Int × Int)) : Prop := ∀ x ∈ L, (Lit.int .i64 x.2).wf = true
/-- A wheel that holds the row L; F: its blocks. -/
structure WL (w : World) (p : Nat) (F : Nat → Prop) (L : List (Int × Int)) (clk : Int) : Prop where
  asc : Asc L
  nodup : (idsL L).Nodup
  wf : WfL L
  len : L.length ≤ 4096
  mem : (L = [] ∧ Blk w p #[.slice none 0 0, .map none, .int .i64 clk] 52 ∧ ∀ k, F k ↔ k = p) ∨
    ∃ g cap m A D, Whl w p g cap m L.length clk A D ∧ Hp A ∧ Idx D A ∧ A.toList.Perm L ∧ ∀ k, F k ↔ PGM p g m k
theorem WL.own {w : World} {p : Nat} {F : Nat → Prop} {L : List (Int × Int)} {clk : Int} (h : WL w p F L clk) : F p := by
  rcases h.mem with ⟨_, _, h⟩ | ⟨g, cap, m, A, D, _, _, _, _, h⟩
  · exact (h p).2 rfl
  · exact (h p).2 (.inl rfl)
theorem WL.lt {w : World} {p : Nat} {F : Nat → Prop} {L : List (Int × Int)} {clk : Int} (h : WL w p F L clk) (k : Nat) (hk : F k) : k < w.heap.size := by
  rcases h.mem with ⟨_, h1, h⟩ | ⟨g, cap, m, A, D, h1, _, _, _, h⟩
  · rw [(h k).1 hk]; exact h1.lt
  · rcases (h k).1 hk with rfl | rfl | rfl
    · exact h1.blk.lt
    · exact h1.row.lt
    · exact h1.map.lt
theorem WL.kept {S : Nat → Prop} {w w' : World} {p : Nat} {F : Nat → Prop} {L : List (Int × Int)} {clk : Int} (h : WL w p F L clk) (hk : KeptS S w w') (hS : ∀ k, F k → ¬ S k) : WL w' p F L clk := by
  refine ⟨h.asc, h.nodup, h.wf, h.len, ?_⟩
  rcases h.mem with ⟨h1, h2, h3⟩ | ⟨g, cap, m, A, D, h1, h2, h3, h4, h5⟩
  · exact .inl ⟨h1, hk.blk h2 (hS p ((h3 p).2 rfl)), h3⟩
  · exact .inr ⟨g, cap, m, A, D, h1.kept hk (hS p ((h5 p).2 (.inl rfl))) (hS g ((h5 g).2 (.inr (.inl rfl)))) (hS m ((h5 m).2 (.inr (.inr rfl)))), h2, h3, h4, h5⟩
theorem WL.below {w w' : World} {p : Nat} {F : Nat → Prop} {L : List (Int × Int)} {clk : Int} (h : WL w p F L clk) (hk : Below w.heap.size w w') : WL w' p F L clk := h.kept (S := fun _ => False) (KeptS.ofBelow hk) fun _ _ h => h
theorem WfL.heap {A : PA} {L : List (Int × Int)} (h : WfL L) (hp : A.toList.Perm L) : WfA A := fun x hx => h x (hp.mem_iff.1 hx)
theorem WfL.out {L : List (Int × Int)} (h : WfL L) (id : Int) : WfL (outL L id) := fun x hx => h x (List.mem_filter.1 hx).1
theorem WfL.set {L : List (Int × Int)} (h : WfL L) (a id : Int) (hid : (Lit.int .i64 id).wf = true) : WfL (setL L a id) := fun x hx => by
  rcases List.mem_cons.1 ((set_perm L a id).mem_iff.1 hx) with rfl | h2
  · exact hid
  · exact h.out id x h2
theorem out_le (L : List (Int × Int)) (id : Int) : (outL L id).length ≤ L.length := List.length_filter_le _ _
/-- What a heap is behind a take, told of the row. -/
theorem take_row {w w' : World} {p g cap m : Nat} {clk : Int} {A : PA} {L : List (Int × Int)} {i : Nat} (ha : Asc L) (hn : (idsL L).Nodup) (hw : WfL L) (hl : L.length ≤ 4096) (hp : A.toList.Perm L) (hi : i < L.length) (h : TakeEnd w w' p g cap m L.length clk A i) (F : Nat → Prop) (hF : ∀ k, F k ↔ PGM p g m k) :
    WL w' p F (outL L A[i]!.2) clk ∧ KeptS F w w' := by
  obtain ⟨A', D', h1, h2, h3, h4, h5⟩ := h
  have hA : A.size = L.length := by have := hp.length_eq; simpa using this
  have hnA : (idsA A).Nodup := (ids_perm_L hp).nodup_iff.2 hn
  have hpo := out_perm hp hnA (i := i) (by omega)
  have hlen : (outL L A[i]!.2).length = L.length - 1 := by
    have := (h4.trans hpo).length_eq
    rw [← this]
    have := h1.size
    simpa using this
  refine ⟨⟨asc_out ha _, ids_out hn _, hw.out _, by omega, .inr ⟨g, cap, m, A', D', ?_, h2, h3, h4.trans hpo, hF⟩⟩, h5.mono fun k _ e => (hF k).2 e⟩
  rw [hlen]; exact h1

theorem look_nil_is (id : Int) (hwf : (Lit.int .i64 id).wf = true) (w : World) : (Instr.lookup 50 (.map none) (.int .i64 id) true).run Try.prog w = .ok (.tuple #[.int .i64 0, .bool false]) w := by
  have := Maps.look_nil (w := w) true keyInt Try.underlying50 (Try.zeroValue3 w) (keyOf_int_mk (a := id) Try.underlying3 hwf)
  simpa using this
theorem look_some_is {A : PA} {D : DataW Unit} {m : Nat} (id : Int) (hwf : (Lit.int .i64 id).wf = true) (w : World) (hm : IMap w m D) (hx : Idx D A) :
    (id ∉ idsA A ∧ ∃ c : Int, (Instr.lookup 50 (.map (some m)) (.int .i64 id) true).run Try.prog w = .ok (.tuple #[.int .i64 c, .bool false]) w) ∨
    (∃ i : Nat, i < A.size ∧ A[i]!.2 = id ∧ (Instr.lookup 50 (.map (some m)) (.int .i64 id) true).run Try.prog w = .ok (.tuple #[.int .i64 (i : Int), .bool true]) w) := by
  obtain ⟨v, ps, hrun, hv⟩ := World.ownsMap.look_ok hm keyInt Try.underlying50 (Try.zeroValue3 w) (plainElem_int (H := Unit) Try.underlying3 (by decide)) (keyOf_int_mk (a := id) Try.underlying3 hwf)
  obtain ⟨c, rfl, hc, _⟩ := plainElem_int_inv Try.underlying3 hv
  simp only [Prod.mk.injEq] at hc
  by_cases hin : id ∈ idsA A
  · obtain ⟨i, hi, he⟩ := mem_ids.1 hin
    have h1 := hx.at_ i hi (.lit (.int .i64 0))
    rw [he] at h1
    have h2 := hc.1
    rw [show (Lit.int IntKind.i64 id) = IL id from rfl, h1] at h2
    cases h2
    have h3 : Maps.has D (IL id) = true := by rw [hx.has_iff]; exact decide_eq_true hin
    rw [show (Lit.int IntKind.i64 id) = IL id from rfl, h3] at hrun
    exact .inr ⟨i, hi, he, hrun⟩
  · have h3 : Maps.has D (IL id) = false := by rw [hx.has_iff]; exact decide_eq_false hin
    rw [show (Lit.int IntKind.i64 id) = IL id from rfl, h3] at hrun
    exact .inl ⟨hin, c, hrun⟩

set_option maxRecDepth 100000 in
set_option maxHeartbeats 4000000 in
theorem stop_any (p : Nat) (F : Nat → Prop) (L : List (Int × Int)) (clk id : Int) (hwf : (Lit.int .i64 id).wf = true) (w : World) (h : WL w p F L clk) :
    Calls Try.prog 15 #[.pointer (some ⟨p, 0, none⟩), .int .i64 id] w fun e w' => e = .returned (.bool (decide (id ∈ idsL L))) ∧ WL w' p F (outL L id) clk ∧ KeptS F w w' := by
  rcases h.mem with ⟨rfl, h2, h3⟩ | ⟨g, cap, m, A, D, h1, h2, h3, h4, h5⟩
  · have c1 : w.cell? ⟨p, 1, none⟩ = some (.map none) := h2.cell 1
    have hl := look_nil_is id hwf w
    have hd : decide (id ∈ idsL []) = false := by simp [idsL]
    rw [hd]
    have H := Lib.hid h
    clear h h2 h3
    go_enter Try.func15, Try.ntmps15
    go_wp2_with fail
    go_ret
    exact ⟨rfl, H.out, KeptS.refl _ _⟩
  · have c1 : w.cell? ⟨p, 1, none⟩ = some (.map (some m)) := h1.blk.cell 1
    have hA : A.size = L.length := h1.size
    have hpi := (ids_perm_L h4).mem_iff (a := id)
    rcases look_some_is id hwf w h1.map h3 with ⟨hni, c, hl⟩ | ⟨i, hi, he, hl⟩
    · have hd : decide (id ∈ idsL L) = false := decide_eq_false fun e => hni (hpi.2 e)
      have ho : outL L id = L := out_none fun e => hni (hpi.2 e)
      rw [hd, ho]
      have H := Lib.hid h
      clear h h1 h2 h3 h4 h5 hpi hd ho hni hA
      go_enter Try.func15, Try.ntmps15
      go_wp2_with fail
      go_ret
      exact ⟨rfl, H.out, KeptS.refl _ _⟩
    · have hd : decide (id ∈ idsL L) = true := decide_eq_true (hpi.1 (mem_ids.2 ⟨i, hi, he⟩))
      rw [hd]
      have hT := take_any p g cap m L.length i clk A D (by omega) (by have := h.len; omega) h2 h3 ((ids_perm_L h4).nodup_iff.2 h.nodup) (h.wf.heap h4) w h1
      have HT : Hid (∀ w', TakeEnd w w' p g cap m L.length clk A i → WL w' p F (outL L id) clk ∧ KeptS F w w') := by
        intro w' hE
        have := take_row h.asc h.nodup h.wf h.len h4 (by omega) hE F h5
        rwa [he] at this
      have HC := Lib.hid hT
      clear h h1 h2 h3 h4 h5 hpi hd hA he hi hT
      go_enter Try.func15, Try.ntmps15
      go_wp2_with fail
      refine HC.out.mono ?_; rintro e w2 ⟨rfl, hE⟩
      have hR := HT.out w2 hE
      clear hE
      go_wp2_with fail
      go_ret
      exact ⟨rfl, hR⟩
end Go.Proofs.Ytipnfalmnoieiaa
