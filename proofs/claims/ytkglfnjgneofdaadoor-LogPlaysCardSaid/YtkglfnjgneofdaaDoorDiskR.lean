/- The document's disk: the same steps. -/
import Derived.Test.YtkglfnjgneofdaaDoorDiskB
namespace Go.Proofs.YtkglfnjgneofdaaDoor
open Go.RowKit

def Dk.rcells (d : Dk) : Array Value := #[.string d.safe, .string d.tail, .int .i64 d.room, .int .i64 d.left, .int .i64 d.steps, .bool d.on, .bool d.armed]
/-- Block b holds the document's disk d. -/
def IsRf (w : World) (b : Nat) (d : Dk) : Prop := Blk w b d.rcells 60
theorem IsRf.setSafe {w : World} {b : Nat} {d : Dk} (h : IsRf w b d) (x : ByteArray) : IsRf (w.setCell ⟨b, 0, none⟩ (.string x)) b { d with safe := x } := Blk.set h 0 (.string x)
theorem IsRf.setTail {w : World} {b : Nat} {d : Dk} (h : IsRf w b d) (x : ByteArray) : IsRf (w.setCell ⟨b, 1, none⟩ (.string x)) b { d with tail := x } := Blk.set h 1 (.string x)
theorem IsRf.setLeft {w : World} {b : Nat} {d : Dk} (h : IsRf w b d) (x : Int) : IsRf (w.setCell ⟨b, 3, none⟩ (.int .i64 x)) b { d with left := x } := Blk.set h 3 (.int .i64 x)
theorem IsRf.setSteps {w : World} {b : Nat} {d : Dk} (h : IsRf w b d) (x : Int) : IsRf (w.setCell ⟨b, 4, none⟩ (.int .i64 x)) b { d with steps := x } := Blk.set h 4 (.int .i64 x)
theorem IsRf.setOn {w : World} {b : Nat} {d : Dk} (h : IsRf w b d) (x : Bool) : IsRf (w.setCell ⟨b, 5, none⟩ (.bool x)) b { d with on := x } := Blk.set h 5 (.bool x)
theorem IsRf.setArmed {w : World} {b : Nat} {d : Dk} (h : IsRf w b d) (x : Bool) : IsRf (w.setCell ⟨b, 6, none⟩ (.bool x)) b { d with armed := x } := Blk.set h 6 (.bool x)

set_option maxRecDepth 100000 in
set_option maxHeartbeats 1000000 in
theorem rnew_any (n : Int) (w : World) (h : 1 ≤ n) (h2 : n ≤ 67108864) :
    Calls Tryd.prog 26 #[.int .i64 n] w fun e w' => e = .returned (.pointer (some ⟨w.heap.size, 0, none⟩)) ∧ w' = w.alloc (.cells (Dk.rcells ⟨⟨#[]⟩, ⟨#[]⟩, n, 0, true, false, 0⟩) 60) := by
  go_enter Tryd.func26, Tryd.ntmps26
  go_wp2
  go_ret
  exact ⟨rfl, rfl⟩

set_option maxRecDepth 100000 in
set_option maxHeartbeats 1000000 in
theorem rstep_any (b : Nat) (d : Dk) (bytes : Int) (w : World) (hd : IsRf w b d) (hst : 0 ≤ d.steps ∧ d.steps ≤ 4611686018427387904) (hle : 0 ≤ d.left ∧ d.left ≤ 9223372036854775807) :
    Calls Tryd.prog 48 #[.pointer (some ⟨b, 0, none⟩), .int .i64 bytes] w fun e w' => e = .returned (.int .i64 (d.step bytes id id).2) ∧ IsRf w' b (d.step bytes id id).1 ∧ Kept b w w' := by
  have c2 : w.cell? ⟨b, 2, none⟩ = some (.int .i64 d.room) := hd.cell 2
  have c3 : w.cell? ⟨b, 3, none⟩ = some (.int .i64 d.left) := hd.cell 3
  have c4 : w.cell? ⟨b, 4, none⟩ = some (.int .i64 d.steps) := hd.cell 4
  have c5 : w.cell? ⟨b, 5, none⟩ = some (.bool d.on) := hd.cell 5
  have c6 : w.cell? ⟨b, 6, none⟩ = some (.bool d.armed) := hd.cell 6
  have f3 : w.frozen? ⟨b, 3, none⟩ = false := hd.free 3
  have f4 : w.frozen? ⟨b, 4, none⟩ = false := hd.free 4
  have f5 : w.frozen? ⟨b, 5, none⟩ = false := hd.free 5
  have k0 := Kept.refl b w
  obtain ⟨hst1, hst2⟩ := hst
  obtain ⟨hle1, hle2⟩ := hle
  have hon : d.on = false ∨ d.on = true := by cases d.on <;> simp
  rcases hon with hon | hon
  · have hs : d.step bytes id id = (d, 14) := by simp [Dk.step, hon]
    rw [hs]; clear hs
    rw [hon] at c5
    go_enter Tryd.func48, Tryd.ntmps48
    go_wp2
    go_ret
    exact ⟨rfl, hd, k0⟩
  rw [hon] at c5
  by_cases hb : d.room < bytes
  · have hs : d.step bytes id id = (d, 15) := by simp [Dk.step, hon, hb]
    rw [hs]; clear hs hon
    go_enter Tryd.func48, Tryd.ntmps48
    go_wp2
    go_ret
    exact ⟨rfl, hd, k0⟩
  have har : d.armed = false ∨ d.armed = true := by cases d.armed <;> simp
  rcases har with har | har
  · have hs : d.step bytes id id = ({ d with steps := d.steps + 1 }, 0) := by simp [Dk.step, hon, hb, har]
    rw [hs]; clear hs hon
    rw [har] at c6
    clear har
    go_enter Tryd.func48, Tryd.ntmps48
    go_wp2
    go_ret
    exact ⟨rfl, hd.setSteps (d.steps + 1), k0.set _ _⟩
  rw [har] at c6
  by_cases hl : d.left = 0
  · have hs : d.step bytes id id = ({ d with on := false }, 14) := by simp [Dk.step, hon, hb, har, hl]
    rw [hs]; clear hs hon har
    rw [hl] at c3
    clear hl
    go_enter Tryd.func48, Tryd.ntmps48
    go_wp2
    go_ret
    exact ⟨rfl, hd.setOn false, k0.set _ _⟩
  · have hs : d.step bytes id id = ({ d with left := d.left - 1, steps := d.steps + 1 }, 0) := by simp [Dk.step, hon, hb, har, hl]
    rw [hs]; clear hs hon har
    have hlb : (d.left == 0) = false := by simpa using hl
    have e3 : (w.setCell ⟨b, 3, none⟩ (.int .i64 (d.left - 1))).cell? ⟨b, 4, none⟩ = some (.int .i64 d.steps) := (hd.setLeft _).cell 4
    go_enter Tryd.func48, Tryd.ntmps48
    go_wp2
    go_ret
    exact ⟨rfl, (hd.setLeft (d.left - 1)).setSteps (d.steps + 1), (k0.set _ _).set _ _⟩

theorem step_cases (d : Dk) (bytes : Int) (f g : Dk → Dk) :
    (d.on = false ∧ d.step bytes id id = (d, 14) ∧ d.step bytes f g = (d, 14)) ∨ (d.on = true ∧ d.step bytes id id = (d, 15) ∧ d.step bytes f g = (d, 15)) ∨
    (∃ d1, d.on = true ∧ d.step bytes id id = (d1, 14) ∧ d.step bytes f g = (g d1, 14) ∧ d1.safe = d.safe ∧ d1.tail = d.tail) ∨ (∃ d1, d.on = true ∧ d.step bytes id id = (d1, 0) ∧ d.step bytes f g = (f d1, 0) ∧ d1.safe = d.safe ∧ d1.tail = d.tail) := by
  unfold Dk.step
  cases d.on
  · left; simp
  · right
    by_cases hb : d.room < bytes
    · left; simp [hb]
    · right
      cases d.armed
      · right; simp [hb]
      · by_cases hl : d.left = 0
        · left; simp [hb, hl]
        · right; simp [hb, hl]

set_option maxRecDepth 100000 in
set_option maxHeartbeats 1000000 in
theorem rsync_any (b : Nat) (d : Dk) (w : World) (hd : IsRf w b d) (hs : d.safe.size + d.tail.size ≤ 4611686018427387904) (hst : 0 ≤ d.steps ∧ d.steps ≤ 4611686018427387904) (hle : 0 ≤ d.left ∧ d.left ≤ 9223372036854775807) :
    Calls Tryd.prog 50 #[.pointer (some ⟨b, 0, none⟩)] w fun e w' => e = .returned (.int .i64 d.sync.2) ∧ IsRf w' b d.sync.1 ∧ Kept b w w' := by
  have hc := step_cases d 0 (fun d => { d with safe := d.safe ++ d.tail, tail := ⟨#[]⟩ }) id
  rcases hc with ⟨_, h1, h2⟩ | ⟨_, h1, h2⟩ | ⟨d1, _, h1, h2, h3, h4⟩ | ⟨d1, _, h1, h2, h3, h4⟩
  all_goals
    rw [show d.sync = _ from h2]
    have H1 := Lib.hid h1
    clear h1 h2
    go_enter Tryd.func50, Tryd.ntmps50
    go_wp2_with fail
    refine (rstep_any b d 0 w hd hst hle).mono ?_; rintro e w1 ⟨rfl, hd1, hk⟩
    rw [H1.out] at hd1 ⊢
  · go_wp2
    go_ret
    exact ⟨rfl, hd1, hk⟩
  · go_wp2
    go_ret
    exact ⟨rfl, hd1, hk⟩
  · go_wp2
    go_ret
    exact ⟨rfl, hd1, hk⟩
  · have c0 : w1.cell? ⟨b, 0, none⟩ = some (.string d1.safe) := hd1.cell 0
    have c1 : w1.cell? ⟨b, 1, none⟩ = some (.string d1.tail) := hd1.cell 1
    have f0 : w1.frozen? ⟨b, 0, none⟩ = false := hd1.free 0
    have f1 : w1.frozen? ⟨b, 1, none⟩ = false := hd1.free 1
    have hs1 : d1.safe.size + d1.tail.size ≤ 4611686018427387904 := by rw [h3, h4]; exact hs
    clear h3 h4
    go_wp2
    go_region
    all_goals go_wp2
    all_goals go_ret
    all_goals exact ⟨rfl, ((hd1.setSafe _).setTail _).drew, ((hk.set _ _).set _ _).drew⟩

set_option maxRecDepth 100000 in
set_option maxHeartbeats 1000000 in
theorem rswap_any (b : Nat) (d : Dk) (s : ByteArray) (w : World) (hd : IsRf w b d) (hst : 0 ≤ d.steps ∧ d.steps ≤ 4611686018427387904) (hle : 0 ≤ d.left ∧ d.left ≤ 9223372036854775807) :
    Calls Tryd.prog 49 #[.pointer (some ⟨b, 0, none⟩), .string s] w fun e w' => e = .returned (.int .i64 (d.swap s).2) ∧ IsRf w' b (d.swap s).1 ∧ Kept b w w' := by
  have hc := step_cases d s.size (fun d => { d with safe := s, tail := ⟨#[]⟩ }) id
  rcases hc with ⟨_, h1, h2⟩ | ⟨_, h1, h2⟩ | ⟨d1, _, h1, h2, h3, h4⟩ | ⟨d1, _, h1, h2, h3, h4⟩
  all_goals
    rw [show d.swap s = _ from h2]
    have H1 := Lib.hid h1
    clear h1 h2
    go_enter Tryd.func49, Tryd.ntmps49
    go_wp2_with fail
    refine (rstep_any b d s.size w hd hst hle).mono ?_; rintro e w1 ⟨rfl, hd1, hk⟩
    rw [H1.out] at hd1 ⊢
  · go_wp2
    go_ret
    exact ⟨rfl, hd1, hk⟩
  · go_wp2
    go_ret
    exact ⟨rfl, hd1, hk⟩
  · go_wp2
    go_ret
    exact ⟨rfl, hd1, hk⟩
  · have c0 : w1.cell? ⟨b, 0, none⟩ = some (.string d1.safe) := hd1.cell 0
    have c1 : w1.cell? ⟨b, 1, none⟩ = some (.string d1.tail) := hd1.cell 1
    have f0 : w1.frozen? ⟨b, 0, none⟩ = false := hd1.free 0
    have f1 : w1.frozen? ⟨b, 1, none⟩ = false := hd1.free 1
    clear h3 h4
    go_wp2
    go_ret
    exact ⟨rfl, (hd1.setSafe _).setTail _, (hk.set _ _).set _ _⟩

set_option maxRecDepth 100000 in
set_option maxHeartbeats 1000000 in
theorem rarm_any (b : Nat) (d : Dk) (n : Int) (w : World) (hd : IsRf w b d) :
    Calls Tryd.prog 32 #[.pointer (some ⟨b, 0, none⟩), .int .i64 n] w fun e w' => e = .returned (.tuple #[]) ∧ IsRf w' b (d.arm n) ∧ Kept b w w' := by
  have c6 : w.cell? ⟨b, 6, none⟩ = some (.bool d.armed) := hd.cell 6
  have c3 : w.cell? ⟨b, 3, none⟩ = some (.int .i64 d.left) := hd.cell 3
  have f6 : w.frozen? ⟨b, 6, none⟩ = false := hd.free 6
  have f3 : w.frozen? ⟨b, 3, none⟩ = false := hd.free 3
  by_cases h : n < 0
  · have e0 : d.arm n = { { { d with armed := true } with left := n } with left := 0 } := by simp [Dk.arm, h]
    rw [e0]; clear e0
    go_enter Tryd.func32, Tryd.ntmps32
    go_wp2
    go_end0
    exact ⟨rfl, ((hd.setArmed _).setLeft n).setLeft 0, (((Kept.refl _ _).set _ _).set _ _).set _ _⟩
  · have e0 : d.arm n = { d with armed := true, left := n } := by simp [Dk.arm, h]
    rw [e0]; clear e0
    go_enter Tryd.func32, Tryd.ntmps32
    go_wp2
    go_end0
    exact ⟨rfl, (hd.setArmed _).setLeft _, ((Kept.refl _ _).set _ _).set _ _⟩

/-- The same step, with what the disk's texts are behind it. -/
theorem rstep2_any (b : Nat) (d : Dk) (bytes : Int) (w : World) (hd : IsRf w b d) (hst : 0 ≤ d.steps ∧ d.steps ≤ 4611686018427387904) (hle : 0 ≤ d.left ∧ d.left ≤ 9223372036854775807) (d1 : Dk) (e1 : Int)
    (H : d.step bytes id id = (d1, e1)) (h3 : d1.safe = d.safe) (h4 : d1.tail = d.tail) :
    Calls Tryd.prog 48 #[.pointer (some ⟨b, 0, none⟩), .int .i64 bytes] w fun e w' =>
      e = .returned (.int .i64 e1) ∧ (IsRf w' b d1 ∧ Kept b w w') ∧ w'.cell? ⟨b, 0, none⟩ = some (.string d.safe) ∧ w'.cell? ⟨b, 1, none⟩ = some (.string d.tail) := by
  refine (rstep_any b d bytes w hd hst hle).mono ?_
  rintro e w1 ⟨rfl, hd1, hk⟩
  rw [H] at hd1 ⊢
  have q0 := hd1.cell 0
  have q1 := hd1.cell 1
  rw [← h3, ← h4]
  exact ⟨rfl, ⟨hd1, hk⟩, q0, q1⟩

set_option maxRecDepth 100000 in
set_option maxHeartbeats 1000000 in
theorem rappend_off (b : Nat) (d : Dk) (s : ByteArray) (w : World) (hd : IsRf w b d) (hs : d.safe.size + d.tail.size + s.size ≤ 4611686018427387904) (hst : 0 ≤ d.steps ∧ d.steps ≤ 4611686018427387904) (hle : 0 ≤ d.left ∧ d.left ≤ 9223372036854775807) (d1 : Dk) (e1 : Int)
    (ho : d.on = false ∨ e1 = 15) (h14 : e1 = 14 ∨ e1 = 15) (H : Hid (d.step ((d.safe.size : Int) + d.tail.size + s.size) id id = (d1, e1))) (H3 : Hid (d1.safe = d.safe)) (H4 : Hid (d1.tail = d.tail)) :
    Calls Tryd.prog 27 #[.pointer (some ⟨b, 0, none⟩), .string s] w fun e w' => e = .returned (.int .i64 e1) ∧ IsRf w' b d1 ∧ Kept b w w' := by
  have c0 : w.cell? ⟨b, 0, none⟩ = some (.string d.safe) := hd.cell 0
  have c1 : w.cell? ⟨b, 1, none⟩ = some (.string d.tail) := hd.cell 1
  have c5 : w.cell? ⟨b, 5, none⟩ = some (.bool d.on) := hd.cell 5
  have hw0 : IntKind.i64.wrap ((d.safe.size : Int) + d.tail.size) = (d.safe.size : Int) + d.tail.size := IntWalk.i64_in _ (by omega)
  have hw : IntKind.i64.wrap ((d.safe.size : Int) + d.tail.size + s.size) = (d.safe.size : Int) + d.tail.size + s.size := IntWalk.i64_in _ (by omega)
  rcases ho with ho | rfl
  · rw [ho] at c5
    clear ho
    rcases h14 with rfl | rfl
    all_goals
      go_enter Tryd.func27, Tryd.ntmps27
      go_wp2
      go_region_held3 (fun w' => w'.cell? ⟨b, 0, none⟩ = some (.string d.safe) ∧ w'.cell? ⟨b, 1, none⟩ = some (.string d.tail)) (first | exact ⟨by assumption, by assumption⟩ | go_keep)
        ((go_at_call 48; refine (rstep2_any b d _ _ ?_ hst hle _ _ H.out H3.out H4.out).mono ?_; exact hd; rintro e w1 ⟨rfl, h1, g1, g2⟩))
    all_goals go_wp2
    all_goals go_ret
    all_goals exact ⟨rfl, h1.1, (Kept.refl _ _).drew.trans h1.2⟩
  · have hon : d.on = false ∨ d.on = true := by cases d.on <;> simp
    rcases hon with ho | ho
    all_goals
      rw [ho] at c5
      clear ho h14
      go_enter Tryd.func27, Tryd.ntmps27
      go_wp2
      go_region_held3 (fun w' => w'.cell? ⟨b, 0, none⟩ = some (.string d.safe) ∧ w'.cell? ⟨b, 1, none⟩ = some (.string d.tail)) (first | exact ⟨by assumption, by assumption⟩ | go_keep)
        ((go_at_call 48; refine (rstep2_any b d _ _ ?_ hst hle _ _ H.out H3.out H4.out).mono ?_; exact hd; rintro e w1 ⟨rfl, h1, g1, g2⟩))
    all_goals go_wp2
    all_goals go_ret
    all_goals exact ⟨rfl, h1.1, (Kept.refl _ _).drew.trans h1.2⟩

set_option maxRecDepth 100000 in
set_option maxHeartbeats 1000000 in
theorem rappend_on (b : Nat) (d : Dk) (s : ByteArray) (w : World) (hd : IsRf w b d) (hs : d.safe.size + d.tail.size + s.size ≤ 4611686018427387904) (hst : 0 ≤ d.steps ∧ d.steps ≤ 4611686018427387904) (hle : 0 ≤ d.left ∧ d.left ≤ 9223372036854775807) (d1 : Dk) (e1 : Int)
    (ho : d.on = true) (h14 : e1 = 14 ∨ e1 = 0) (H : Hid (d.step ((d.safe.size : Int) + d.tail.size + s.size) id id = (d1, e1))) (H3 : Hid (d1.safe = d.safe)) (H4 : Hid (d1.tail = d.tail)) :
    Calls Tryd.prog 27 #[.pointer (some ⟨b, 0, none⟩), .string s] w fun e w' => e = .returned (.int .i64 e1) ∧ IsRf w' b { d1 with tail := d1.tail ++ s } ∧ Kept b w w' := by
  have c0 : w.cell? ⟨b, 0, none⟩ = some (.string d.safe) := hd.cell 0
  have c1 : w.cell? ⟨b, 1, none⟩ = some (.string d.tail) := hd.cell 1
  have c5 : w.cell? ⟨b, 5, none⟩ = some (.bool d.on) := hd.cell 5
  have hw0 : IntKind.i64.wrap ((d.safe.size : Int) + d.tail.size) = (d.safe.size : Int) + d.tail.size := IntWalk.i64_in _ (by omega)
  have hw : IntKind.i64.wrap ((d.safe.size : Int) + d.tail.size + s.size) = (d.safe.size : Int) + d.tail.size + s.size := IntWalk.i64_in _ (by omega)
  have hts : d.tail.size + s.size ≤ 4611686018427387904 := by omega
  rw [ho] at c5
  clear ho
  rcases h14 with rfl | rfl
  all_goals
    go_enter Tryd.func27, Tryd.ntmps27
    go_wp2
    go_region_held3 (fun w' => w'.cell? ⟨b, 0, none⟩ = some (.string d.safe) ∧ w'.cell? ⟨b, 1, none⟩ = some (.string d.tail)) (first | exact ⟨by assumption, by assumption⟩ | go_keep)
      ((go_at_call 48; refine (rstep2_any b d _ _ ?_ hst hle _ _ H.out H3.out H4.out).mono ?_; exact hd; rintro e w1 ⟨rfl, h1, g1, g2⟩))
    all_goals (have f1 : w1.frozen? ⟨b, 1, none⟩ = false := h1.1.free 1)
    all_goals go_wp2
    all_goals go_ret
    all_goals rw [H4.out]
    all_goals exact ⟨rfl, h1.1.setTail _, ((Kept.refl _ _).drew.trans h1.2).set _ _⟩

theorem rappend_any (b : Nat) (d : Dk) (s : ByteArray) (w : World) (hd : IsRf w b d) (hs : d.safe.size + d.tail.size + s.size ≤ 4611686018427387904) (hst : 0 ≤ d.steps ∧ d.steps ≤ 4611686018427387904) (hle : 0 ≤ d.left ∧ d.left ≤ 9223372036854775807) :
    Calls Tryd.prog 27 #[.pointer (some ⟨b, 0, none⟩), .string s] w fun e w' => e = .returned (.int .i64 (d.append s).2) ∧ IsRf w' b (d.append s).1 ∧ Kept b w w' := by
  have hc := step_cases d ((d.safe.size : Int) + d.tail.size + s.size) (fun d => { d with tail := d.tail ++ s }) (fun d => { d with tail := d.tail ++ s })
  rcases hc with ⟨ho, h1, h2⟩ | ⟨ho, h1, h2⟩ | ⟨d1, ho, h1, h2, h3, h4⟩ | ⟨d1, ho, h1, h2, h3, h4⟩
  all_goals rw [show d.append s = _ from h2]
  · exact rappend_off b d s w hd hs hst hle _ _ (.inl ho) (.inl rfl) (Lib.hid h1) (Lib.hid rfl) (Lib.hid rfl)
  · exact rappend_off b d s w hd hs hst hle _ _ (.inr rfl) (.inr rfl) (Lib.hid h1) (Lib.hid rfl) (Lib.hid rfl)
  · exact rappend_on b d s w hd hs hst hle _ _ ho (.inl rfl) (Lib.hid h1) (Lib.hid h3) (Lib.hid h4)
  · exact rappend_on b d s w hd hs hst hle _ _ ho (.inr rfl) (Lib.hid h1) (Lib.hid h3) (Lib.hid h4)

set_option maxRecDepth 100000 in
set_option maxHeartbeats 1000000 in
theorem rcrash_cut (b : Nat) (d : Dk) (k : Int) (n : Nat) (w : World) (hd : IsRf w b d) (hs : d.safe.size + d.tail.size ≤ 4611686018427387904) (hk : k = n ∨ k < 0 ∧ n = 0) (h : n < d.tail.size) :
    Calls Tryd.prog 33 #[.pointer (some ⟨b, 0, none⟩), .int .i64 k] w fun e w' => e = .returned (.tuple #[]) ∧ IsRf w' b { d with safe := d.safe ++ d.tail.extract 0 n, tail := ⟨#[]⟩, on := true, armed := false } ∧ Kept b w w' := by
  have c0 : w.cell? ⟨b, 0, none⟩ = some (.string d.safe) := hd.cell 0
  have c1 : w.cell? ⟨b, 1, none⟩ = some (.string d.tail) := hd.cell 1
  have c5 : w.cell? ⟨b, 5, none⟩ = some (.bool d.on) := hd.cell 5
  have c6 : w.cell? ⟨b, 6, none⟩ = some (.bool d.armed) := hd.cell 6
  have f0 : w.frozen? ⟨b, 0, none⟩ = false := hd.free 0
  have f1 : w.frozen? ⟨b, 1, none⟩ = false := hd.free 1
  have f5 : w.frozen? ⟨b, 5, none⟩ = false := hd.free 5
  have f6 : w.frozen? ⟨b, 6, none⟩ = false := hd.free 6
  have hd1 := hd.setTail (d.tail.extract 0 n)
  have e0 : (w.setCell ⟨b, 1, none⟩ (.string (d.tail.extract 0 n))).cell? ⟨b, 0, none⟩ = some (.string d.safe) := hd1.cell 0
  have es : (d.tail.extract 0 n).size = n := by simp; omega
  have hsn : d.safe.size + n ≤ 4611686018427387904 := by omega
  rcases hk with rfl | ⟨hk, rfl⟩
  · have hl : decide ((n : Int) < 0) = false := by simp
    have hl2 : decide ((n : Int) < d.tail.size) = true := by simp [h]
    go_enter Tryd.func33, Tryd.ntmps33
    go_wp2
    go_region
    all_goals go_wp2
    all_goals go_end0
    all_goals exact ⟨rfl, ((((hd1.setSafe _).setTail _).setOn _).setArmed _).drew, ((((((Kept.refl _ _).set _ _).set _ _).set _ _).set _ _).set _ _).drew⟩
  · have hl : decide (k < 0) = true := by simp [hk]
    have hes : d.safe ++ d.tail.extract 0 0 = d.safe := by simp
    have hl2 : decide ((0 : Int) < d.tail.size) = true := by simp [h]
    go_enter Tryd.func33, Tryd.ntmps33
    go_wp2
    go_region
    all_goals go_wp2
    all_goals go_end0
    all_goals rw [hes]
    all_goals exact ⟨rfl, (((((hd.setTail ByteArray.empty).setSafe d.safe).setTail _).setOn _).setArmed _).drew, ((((((Kept.refl _ _).set _ _).set _ _).set _ _).set _ _).set _ _).drew⟩

set_option maxRecDepth 100000 in
set_option maxHeartbeats 1000000 in
theorem rcrash_all (b : Nat) (d : Dk) (k : Int) (n : Nat) (w : World) (hd : IsRf w b d) (hs : d.safe.size + d.tail.size ≤ 4611686018427387904) (hk : k = n ∨ k < 0 ∧ n = 0) (h : d.tail.size ≤ n) :
    Calls Tryd.prog 33 #[.pointer (some ⟨b, 0, none⟩), .int .i64 k] w fun e w' => e = .returned (.tuple #[]) ∧ IsRf w' b { d with safe := d.safe ++ d.tail, tail := ⟨#[]⟩, on := true, armed := false } ∧ Kept b w w' := by
  have c0 : w.cell? ⟨b, 0, none⟩ = some (.string d.safe) := hd.cell 0
  have c1 : w.cell? ⟨b, 1, none⟩ = some (.string d.tail) := hd.cell 1
  have c5 : w.cell? ⟨b, 5, none⟩ = some (.bool d.on) := hd.cell 5
  have c6 : w.cell? ⟨b, 6, none⟩ = some (.bool d.armed) := hd.cell 6
  have f0 : w.frozen? ⟨b, 0, none⟩ = false := hd.free 0
  have f1 : w.frozen? ⟨b, 1, none⟩ = false := hd.free 1
  have f5 : w.frozen? ⟨b, 5, none⟩ = false := hd.free 5
  have f6 : w.frozen? ⟨b, 6, none⟩ = false := hd.free 6
  rcases hk with rfl | ⟨hk, rfl⟩
  · have hl : decide ((n : Int) < 0) = false := by simp
    have hl2 : decide ((n : Int) < d.tail.size) = false := decide_eq_false (by omega)
    go_enter Tryd.func33, Tryd.ntmps33
    go_wp2
    go_region
    all_goals go_wp2
    all_goals go_end0
    all_goals exact ⟨rfl, ((((hd.setSafe _).setTail _).setOn _).setArmed _).drew, (((((Kept.refl _ _).set _ _).set _ _).set _ _).set _ _).drew⟩
  · have hl : decide (k < 0) = true := by simp [hk]
    have hl2 : decide ((0 : Int) < d.tail.size) = false := decide_eq_false (by omega)
    go_enter Tryd.func33, Tryd.ntmps33
    go_wp2
    go_region
    all_goals go_wp2
    all_goals go_end0
    all_goals exact ⟨rfl, ((((hd.setSafe _).setTail _).setOn _).setArmed _).drew, (((((Kept.refl _ _).set _ _).set _ _).set _ _).set _ _).drew⟩

theorem rcrash_any (b : Nat) (d : Dk) (k : Int) (w : World) (hd : IsRf w b d) (hr : 0 < d.room) (hs : d.safe.size + d.tail.size ≤ 4611686018427387904) :
    Calls Tryd.prog 33 #[.pointer (some ⟨b, 0, none⟩), .int .i64 k] w fun e w' => e = .returned (.tuple #[]) ∧ IsRf w' b (d.crash k) ∧ Kept b w w' := by
  have hk : k = k.toNat ∨ k < 0 ∧ k.toNat = 0 := by omega
  unfold Dk.crash Dk.again
  rw [if_pos hr]
  by_cases h : k.toNat < d.tail.size
  · rw [show min k.toNat d.tail.size = k.toNat from by omega]
    exact rcrash_cut b d k _ w hd hs hk h
  · have e : d.tail.extract 0 d.tail.size = d.tail := by simp
    rw [show min k.toNat d.tail.size = d.tail.size from by omega, e]
    exact rcrash_all b d k _ w hd hs hk (by omega)

end Go.Proofs.YtkglfnjgneofdaaDoor
