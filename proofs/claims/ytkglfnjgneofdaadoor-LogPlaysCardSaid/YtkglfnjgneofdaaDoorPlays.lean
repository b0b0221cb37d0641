/- Both logs beside each other; what a call leaves; the texts of a call. -/
import Derived.Test.YtkglfnjgneofdaaDoorRefOpen
import Derived.Test.YtkglfnjgneofdaaDoorTexts
import Derived.Test.YtkglfnjgneofdaaDoorRowsT
import Derived.Deep.CutBlock
namespace Go.Proofs.YtkglfnjgneofdaaDoor
open Go.RowKit

/-- The program's log and the document's, the same, each on a disk, the same. -/
structure Quad (w wr : World) (g b c e : Nat) (l : Lg) (d : Dk) : Prop where
  ld : LD w wr g b l d
  lc : w.heap.size ≤ c
  le : w.heap.size ≤ e
  rg : IsRg wr c e l
  rf : IsRf wr e d
  ce : c ≠ e
  gc : g ≠ c
  ge : g ≠ e
  bc : b ≠ c
  be : b ≠ e
section
variable {w wr w2 w3 : World} {g b c e : Nat} {l l1 : Lg} {d d1 : Dk}
theorem Quad.below (h : Quad w wr g b c e l d) (hB : Below wr.heap.size wr w2) : Quad w w2 g b c e l d :=
  ⟨h.ld.below hB, h.lc, h.le, Blk.below h.rg hB h.rg.lt, Blk.below h.rf hB h.rf.lt, h.ce, h.gc, h.ge, h.bc, h.be⟩
theorem Quad.drewN (h : Quad w wr g b c e l d) (n : Nat) : Quad w (wr.drewN n) g b c e l d := h.below (below_drewN (Below.refl _ _) n)
theorem Quad.alloc (h : Quad w wr g b c e l d) (o : Obj) : Quad w (wr.alloc o) g b c e l d := h.below (bOld o)

/-- The program's side has gone on; the document's not yet. -/
structure Half (w wr : World) (g b c e : Nat) (l : Lg) (d : Dk) (l1 : Lg) (d1 : Dk) : Prop where
  ld : LD w wr g b l1 d1
  lc : w.heap.size ≤ c
  le : w.heap.size ≤ e
  rg : IsRg wr c e l
  rf : IsRf wr e d
  ce : c ≠ e
  gc : g ≠ c
  ge : g ≠ e
  bc : b ≠ c
  be : b ≠ e
theorem Half.below (h : Half w wr g b c e l d l1 d1) (hB : Below wr.heap.size wr w2) : Half w w2 g b c e l d l1 d1 :=
  ⟨h.ld.below hB, h.lc, h.le, Blk.below h.rg hB h.rg.lt, Blk.below h.rf hB h.rf.lt, h.ce, h.gc, h.ge, h.bc, h.be⟩
theorem Quad.half (h : Quad w wr g b c e l d) (h1 : IsLg w2 g b l1) (h2 : IsDk w2 b d1) (hk : Kept2 g b wr w2) : Half w w2 g b c e l d l1 d1 :=
  ⟨h.ld.next h1 h2 hk, h.lc, h.le, hk.blk h.rg (Ne.symm h.gc) (Ne.symm h.bc), hk.blk h.rf (Ne.symm h.ge) (Ne.symm h.be), h.ce, h.gc, h.ge, h.bc, h.be⟩
theorem Half.whole (h : Half w wr g b c e l d l1 d1) (h1 : IsRg w2 c e l1) (h2 : IsRf w2 e d1) (hk : Kept2 c e wr w2) : Quad w w2 g b c e l1 d1 :=
  ⟨h.ld.apart hk h.gc h.ge h.bc h.be h.lc h.le, h.lc, h.le, h1, h2, h.ce, h.gc, h.ge, h.bc, h.be⟩
end

/-- The op's block. -/
def OpAt (w : World) (o : Nat) (a n : Int) (t : SlT) : Prop := Blk w o #[.int .i64 a, .int .i64 n, t.val] 54
theorem OpAt.cells {w : World} {o : Nat} {a n : Int} {t : SlT} (h : OpAt w o a n t) : w.cell? ⟨o, 0, none⟩ = some (.int .i64 a) ∧ w.cell? ⟨o, 1, none⟩ = some (.int .i64 n) ∧ w.cell? ⟨o, 2, none⟩ = some t.val := ⟨h.cell 0, h.cell 1, h.cell 2⟩

theorem texts_is {w w1 : World} (o : Nat) (a n : Int) (t : SlT) (w0 : World) (hw : w1 = w0) (hB : Below w.heap.size w w0) (ho : OpAt w0 o a n t) (hl : t.ss.length = t.len) (hat : SlAt w t.ao (t.ss.map Value.string)) :
    Calls Tryd.prog 30 #[.agg #[.int .i64 a, .int .i64 n, t.val]] w1 fun e w' => ∃ ao' cap', e = .returned (.slice ao' (opTexts n t.ss).length cap') ∧ ((opTexts n t.ss).length ≤ cap' ∧
      SlAt w' ao' ((opTexts n t.ss).map Value.string) ∧ Below w0.heap.size w0 w' ∧ OpAt w' o a n t) ∧ w'.cell? ⟨o, 0, none⟩ = some (.int .i64 a) ∧ w'.cell? ⟨o, 1, none⟩ = some (.int .i64 n) ∧ w'.cell? ⟨o, 2, none⟩ = some t.val := by
  subst hw
  refine (texts_any a n t.ao t.len t.cap t.ss hl w1 (hat.below hB)).mono ?_
  rintro e w' ⟨ao, cap, he, h1, h2, h3⟩
  have h4 : OpAt w' o a n t := Blk.below ho h3 (Blk.lt ho)
  exact ⟨ao, cap, he, ⟨h1, h2, h3, h4⟩, h4.cells⟩

/-- What a log and its disk are behind k calls. -/
structure Ok (l : Lg) (d : Dk) (k : Nat) : Prop where
  room : d.room = 300
  size : d.safe.size + d.tail.size ≤ 300
  steps : 0 ≤ d.steps ∧ d.steps ≤ 10 + 4 * k
  left : 0 ≤ d.left ∧ d.left ≤ 7
  n : 0 ≤ l.n ∧ l.n ≤ 300 + 4 * k
  sz : 0 ≤ l.size ∧ l.size ≤ 300 + 40000 * k
theorem Ok.fit {l : Lg} {d : Dk} {k : Nat} (h : Ok l d k) (hk : k ≤ 100) : d.Fit := ⟨by have := h.size; omega, by have := h.steps; omega, by have := h.left; omega⟩

section
variable {l : Lg} {d : Dk} {k : Nat}
theorem step_ok (h : Ok l d k) (bytes : Int) (f g : Dk → Dk)
    (hf : ∀ d1 : Dk, d1.safe = d.safe → d1.tail = d.tail → ¬ d.room < bytes → (f d1).safe.size + (f d1).tail.size ≤ 300 ∧ (f d1).room = d1.room ∧ (f d1).steps = d1.steps ∧ (f d1).left = d1.left)
    (hg : ∀ d1 : Dk, d1.safe = d.safe → d1.tail = d.tail → ¬ d.room < bytes → (g d1).safe.size + (g d1).tail.size ≤ 300 ∧ (g d1).room = d1.room ∧ (g d1).steps = d1.steps ∧ (g d1).left = d1.left) :
    (d.step bytes f g).1.room = 300 ∧ (d.step bytes f g).1.safe.size + (d.step bytes f g).1.tail.size ≤ 300 ∧ (0 ≤ (d.step bytes f g).1.steps ∧ (d.step bytes f g).1.steps ≤ d.steps + 1) ∧ (0 ≤ (d.step bytes f g).1.left ∧ (d.step bytes f g).1.left ≤ 7) := by
  obtain ⟨h1, h2, h3, h4, _, _⟩ := h
  unfold Dk.step
  split
  · split
    · exact ⟨h1, h2, by simp only; omega, h4⟩
    · rename_i hb
      split
      · split
        · obtain ⟨a1, a2, a3, a4⟩ := hg { d with on := false } rfl rfl hb
          exact ⟨by simp only [a2]; exact h1, a1, by simp only [a3]; omega, by simp only [a4]; exact h4⟩
        · rename_i hl0
          obtain ⟨a1, a2, a3, a4⟩ := hf { d with left := d.left - 1, steps := d.steps + 1 } rfl rfl hb
          exact ⟨by simp only [a2]; exact h1, a1, by simp only [a3]; omega, by simp only [a4]; omega⟩
      · obtain ⟨a1, a2, a3, a4⟩ := hf { d with steps := d.steps + 1 } rfl rfl hb
        exact ⟨by simp only [a2]; exact h1, a1, by simp only [a3]; omega, by simp only [a4]; exact h4⟩
  · exact ⟨h1, h2, by simp only; omega, h4⟩
theorem append_ok (h : Ok l d k) (s : ByteArray) : (d.append s).1.room = 300 ∧ (d.append s).1.safe.size + (d.append s).1.tail.size ≤ 300 ∧ (0 ≤ (d.append s).1.steps ∧ (d.append s).1.steps ≤ d.steps + 1) ∧ (0 ≤ (d.append s).1.left ∧ (d.append s).1.left ≤ 7) := by
  have hr := h.room
  refine step_ok h _ _ _ (fun d1 e1 e2 hb => ?_) (fun d1 e1 e2 hb => ?_)
  all_goals exact ⟨by simp only [e1, e2, app_size]; omega, rfl, rfl, rfl⟩
theorem sync_ok (h : Ok l d k) : d.sync.1.room = 300 ∧ d.sync.1.safe.size + d.sync.1.tail.size ≤ 300 ∧ (0 ≤ d.sync.1.steps ∧ d.sync.1.steps ≤ d.steps + 1) ∧ (0 ≤ d.sync.1.left ∧ d.sync.1.left ≤ 7) := by
  have hs := h.size
  refine step_ok h _ _ _ (fun d1 e1 e2 hb => ?_) (fun d1 e1 e2 hb => ?_)
  · exact ⟨by simp only [e1, e2, app_size, nil_size]; omega, rfl, rfl, rfl⟩
  · exact ⟨by simp only [id, e1, e2]; omega, rfl, rfl, rfl⟩
theorem swap_ok (h : Ok l d k) (s : ByteArray) : (d.swap s).1.room = 300 ∧ (d.swap s).1.safe.size + (d.swap s).1.tail.size ≤ 300 ∧ (0 ≤ (d.swap s).1.steps ∧ (d.swap s).1.steps ≤ d.steps + 1) ∧ (0 ≤ (d.swap s).1.left ∧ (d.swap s).1.left ≤ 7) := by
  have hs := h.size
  have hr := h.room
  refine step_ok h _ _ _ (fun d1 e1 e2 hb => ?_) (fun d1 e1 e2 hb => ?_)
  · exact ⟨by simp only [nil_size]; omega, rfl, rfl, rfl⟩
  · exact ⟨by simp only [id, e1, e2]; omega, rfl, rfl, rfl⟩

theorem Ok.add (h : Ok l d k) (rs : List ByteArray) (hl : rs.length ≤ 4) : Ok (l.add d rs).1 (l.add d rs).2.1 (k + 1) := by
  have ha := append_ok h (framesB rs)
  have hfs := framesB_size rs
  obtain ⟨h1, h2, h3, h4, h5, h6⟩ := h
  unfold Lg.add
  split
  · exact ⟨h1, h2, by simp only; omega, h4, by simp only; omega, by simp only; omega⟩
  · unfold Lg.addP
    split
    · exact ⟨h1, h2, by simp only; omega, h4, by simp only [Lg.done]; omega, by simp only [Lg.done]; omega⟩
    · split
      · exact ⟨h1, h2, by simp only; omega, h4, by simp only [Lg.done]; omega, by simp only [Lg.done]; omega⟩
      · obtain ⟨a1, a2, a3, a4⟩ := ha
        split
        · exact ⟨a1, a2, by simp only; omega, a4, by simp only [Lg.done]; omega, by simp only [Lg.done]; omega⟩
        · exact ⟨a1, a2, by simp only; omega, a4, by simp only [Lg.done]; omega, by simp only [Lg.done]; omega⟩
theorem Ok.begin (h : Ok l d k) (rs : List ByteArray) (hl : rs.length ≤ 4) : Ok (l.begin d rs).1 (l.begin d rs).2.1 (k + 1) := by
  have ha := swap_ok h (framesB rs)
  have hfs := framesB_size rs
  obtain ⟨h1, h2, h3, h4, h5, h6⟩ := h
  unfold Lg.begin
  split
  · exact ⟨h1, h2, by simp only; omega, h4, by simp only; omega, by simp only; omega⟩
  · unfold Lg.beginP
    split
    · exact ⟨h1, h2, by simp only; omega, h4, by simp only [Lg.done]; omega, by simp only [Lg.done]; omega⟩
    · obtain ⟨a1, a2, a3, a4⟩ := ha
      split
      · exact ⟨a1, a2, by simp only; omega, a4, by simp only [Lg.done]; omega, by simp only [Lg.done]; omega⟩
      · exact ⟨a1, a2, by simp only; omega, a4, by simp only [Lg.done]; omega, by simp only [Lg.done]; omega⟩
theorem Ok.sync (h : Ok l d k) : Ok (l.sync d).1 (l.sync d).2.1 (k + 1) := by
  obtain ⟨a1, a2, a3, a4⟩ := sync_ok h
  obtain ⟨h1, h2, h3, h4, h5, h6⟩ := h
  unfold Lg.sync
  split
  · exact ⟨h1, h2, by simp only; omega, h4, by simp only; omega, by simp only; omega⟩
  · exact ⟨a1, a2, by simp only; omega, a4, by simp only [Lg.done]; omega, by simp only [Lg.done]; omega⟩
theorem Ok.arm (h : Ok l d k) (m : Nat) (hm : m ≤ 7) : Ok l (d.arm m) (k + 1) := by
  obtain ⟨h1, h2, h3, h4, h5, h6⟩ := h
  refine ⟨h1, h2, by simp only [Dk.arm]; omega, ?_, by omega, by omega⟩
  simp only [Dk.arm]
  rw [if_neg (by omega)]
  omega
theorem Ok.crash (h : Ok l d k) (n : Int) : Ok l (d.crash n) k := by
  obtain ⟨h1, h2, h3, h4, h5, h6⟩ := h
  unfold Dk.crash Dk.again
  rw [if_pos (by omega)]
  refine ⟨h1, ?_, h3, h4, h5, h6⟩
  simp only [app_size, ByteArray.size_extract, nil_size]
  omega
theorem Ok.open (h : Ok l d k) (N : Nat) (hN : N ≤ 300) (M : Nat) (hM : M ≤ 300) : Ok ⟨M, N, false⟩ d.open.1 (k + 1) := by
  have h1' : Ok l d.open1.1 k ∨ (d.open1.1.room = 300 ∧ d.open1.1.safe.size + d.open1.1.tail.size ≤ 300 ∧ (0 ≤ d.open1.1.steps ∧ d.open1.1.steps ≤ d.steps + 1) ∧ (0 ≤ d.open1.1.left ∧ d.open1.1.left ≤ 7)) := by
    unfold Dk.open1
    split
    · exact .inr (swap_ok h _)
    · exact .inl h
  have hk := h.steps
  have h2 : d.open1.1.room = 300 ∧ d.open1.1.safe.size + d.open1.1.tail.size ≤ 300 ∧ (0 ≤ d.open1.1.steps ∧ d.open1.1.steps ≤ d.steps + 1) ∧ (0 ≤ d.open1.1.left ∧ d.open1.1.left ≤ 7) := by
    unfold Dk.open1
    split
    · exact swap_ok h _
    · exact ⟨h.room, h.size, by simp only; omega, h.left⟩
  clear h1'
  obtain ⟨a1, a2, a3, a4⟩ := h2
  have hq : Ok ⟨0, 0, false⟩ d.open1.1 (k + 1) := ⟨a1, a2, by omega, a4, by simp only; omega, by simp only; omega⟩
  obtain ⟨b1, b2, b3, b4⟩ := sync_ok hq
  unfold Dk.open
  split
  · exact ⟨b1, b2, by omega, b4, by simp only; omega, by simp only; omega⟩
  · exact ⟨a1, a2, by omega, a4, by simp only; omega, by simp only; omega⟩
end
end Go.Proofs.YtkglfnjgneofdaaDoor
