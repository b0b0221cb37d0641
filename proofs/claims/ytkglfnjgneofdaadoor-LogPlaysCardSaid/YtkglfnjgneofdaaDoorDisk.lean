/- The walks of layer disk: what each method does to a disk that lies in a block of its own. -/
import Derived.Test.YtkglfnjgneofdaaDoorBlk
import Derived.Test.YtkglfnjgneofdaaDoorChecked
import Derived.WalkSpells
import Derived.Lib.Hide
import Derived.Outline
import Derived.BigRegion
import Derived.BigQuiet
import Derived.Deep.QuietTactic
import Derived.Deep.DeepCutAuto
import Derived.StillTailTactics
import Derived.Deep.RegionHeld3
import Derived.Deep.RegionWith
import Derived.Shelf.RegionOpenPlain
namespace Go.Proofs.YtkglfnjgneofdaaDoor
open Go.RowKit

/-- A disk, as the program keeps it. -/
structure Dk where
  safe : ByteArray
  tail : ByteArray
  room : Int
  steps : Int
  on : Bool
  armed : Bool
  left : Int
def Dk.cells (d : Dk) : Array Value := #[.string d.safe, .string d.tail, .int .i64 d.room, .int .i64 d.steps, .bool d.on, .bool d.armed, .int .i64 d.left]
/-- Block b holds the disk d. -/
def IsDk (w : World) (b : Nat) (d : Dk) : Prop := Blk w b d.cells 66

set_option maxRecDepth 100000 in
set_option maxHeartbeats 400000 in
theorem dnew_any (n : Int) (w : World) (h : 1 ≤ n) (h2 : n ≤ 67108864) :
    Calls Tryd.prog 14 #[.int .i64 n] w fun e w' => e = .returned (.pointer (some ⟨w.heap.size, 0, none⟩)) ∧ w' = w.alloc (.cells (Dk.cells ⟨⟨#[]⟩, ⟨#[]⟩, n, 0, true, false, 0⟩) 66) := by
  go_enter Tryd.func14, Tryd.ntmps14
  go_wp2
  go_ret
  exact ⟨rfl, rfl⟩

set_option maxRecDepth 100000 in
set_option maxHeartbeats 400000 in
theorem dbytes_any (b : Nat) (d : Dk) (w : World) (hd : IsDk w b d) (hs : d.safe.size + d.tail.size ≤ 4611686018427387904) :
    Calls Tryd.prog 17 #[.pointer (some ⟨b, 0, none⟩)] w fun e w' => e = .returned (.string (d.safe ++ d.tail)) ∧ ∃ n, w' = w.drewN n := by
  have c0 : w.cell? ⟨b, 0, none⟩ = some (.string d.safe) := hd.cell 0
  have c1 : w.cell? ⟨b, 1, none⟩ = some (.string d.tail) := hd.cell 1
  go_enter Tryd.func17, Tryd.ntmps17
  go_wp2
  go_quiet (fail)
  go_wp2
  go_ret
  exact ⟨rfl, nq, rfl⟩


set_option maxRecDepth 100000 in
set_option maxHeartbeats 400000 in
theorem dsize_any (b : Nat) (d : Dk) (w : World) (hd : IsDk w b d) (hs : d.safe.size + d.tail.size ≤ 4611686018427387904) :
    Calls Tryd.prog 39 #[.pointer (some ⟨b, 0, none⟩)] w fun e w' => e = .returned (.int .i64 ((d.safe.size : Int) + d.tail.size)) ∧ ∃ n, w' = w.drewN n := by
  go_enter Tryd.func39, Tryd.ntmps39
  go_wp2_with (go_at_call 17; refine (dbytes_any b d _ hd hs).mono ?_; rintro e w' ⟨rfl, n, rfl⟩)
  go_ret
  exact ⟨by simp, _, rfl⟩

set_option maxRecDepth 100000 in
set_option maxHeartbeats 400000 in
theorem dsafe_any (b : Nat) (d : Dk) (w : World) (hd : IsDk w b d) :
    Calls Tryd.prog 23 #[.pointer (some ⟨b, 0, none⟩)] w fun e w' => e = .returned (.string d.safe) ∧ w = w' := by
  have c0 : w.cell? ⟨b, 0, none⟩ = some (.string d.safe) := hd.cell 0
  go_enter Tryd.func23, Tryd.ntmps23
  go_wp2
  go_ret
  exact ⟨rfl, rfl⟩

set_option maxRecDepth 100000 in
set_option maxHeartbeats 400000 in
theorem dput_any (p q b : Nat) (d : Dk) (s : ByteArray) (w : World) (hd : IsDk w b d) (hp : w.cell? ⟨p, 0, none⟩ = some (.pointer (some ⟨b, 0, none⟩))) (hq : w.cell? ⟨q, 0, none⟩ = some (.string s))
    (hs : d.tail.size + s.size ≤ 4611686018427387904) :
    Calls Tryd.prog 37 #[.pointer (some ⟨p, 0, none⟩), .pointer (some ⟨q, 0, none⟩)] w fun e w' => e = .returned (.tuple #[]) ∧ w' = (w.setCell ⟨b, 1, none⟩ (.string (d.tail ++ s))).drew := by
  have c1 : w.cell? ⟨b, 1, none⟩ = some (.string d.tail) := hd.cell 1
  have f1 : w.frozen? ⟨b, 1, none⟩ = false := hd.free 1
  go_enter Tryd.func37, Tryd.ntmps37
  go_wp2
  go_region
  all_goals (go_wp2; go_end0; exact ⟨rfl, rfl⟩)

theorem IsDk.setOn {w : World} {b : Nat} {d : Dk} (h : IsDk w b d) (x : Bool) : IsDk (w.setCell ⟨b, 4, none⟩ (.bool x)) b { d with on := x } := Blk.set h 4 (.bool x)
theorem IsDk.setSteps {w : World} {b : Nat} {d : Dk} (h : IsDk w b d) (x : Int) : IsDk (w.setCell ⟨b, 3, none⟩ (.int .i64 x)) b { d with steps := x } := Blk.set h 3 (.int .i64 x)
theorem IsDk.setLeft {w : World} {b : Nat} {d : Dk} (h : IsDk w b d) (x : Int) : IsDk (w.setCell ⟨b, 6, none⟩ (.int .i64 x)) b { d with left := x } := Blk.set h 6 (.int .i64 x)
theorem IsDk.setArmed {w : World} {b : Nat} {d : Dk} (h : IsDk w b d) (x : Bool) : IsDk (w.setCell ⟨b, 5, none⟩ (.bool x)) b { d with armed := x } := Blk.set h 5 (.bool x)
theorem IsDk.setTail {w : World} {b : Nat} {d : Dk} (h : IsDk w b d) (x : ByteArray) : IsDk (w.setCell ⟨b, 1, none⟩ (.string x)) b { d with tail := x } := Blk.set h 1 (.string x)
theorem IsDk.setSafe {w : World} {b : Nat} {d : Dk} (h : IsDk w b d) (x : ByteArray) : IsDk (w.setCell ⟨b, 0, none⟩ (.string x)) b { d with safe := x } := Blk.set h 0 (.string x)

/-- A step: may it be; does power go with it. -/
def Dk.step (d : Dk) (bytes : Int) (f g : Dk → Dk) : Dk × Int :=
  if d.on then
    if d.room < bytes then (d, 15)
    else if d.armed then
      if d.left = 0 then (g { d with on := false }, 14) else (f { d with left := d.left - 1, steps := d.steps + 1 }, 0)
    else (f { d with steps := d.steps + 1 }, 0)
  else (d, 14)

set_option maxRecDepth 100000 in
set_option maxHeartbeats 1000000 in
theorem dstep_any (b : Nat) (d : Dk) (w : World) (hd : IsDk w b d) (bytes : Int) (fd fl : Nat) (cd cl : Array Value) (f g : Dk → Dk)
    (hed : ∀ args w, (callFunc fd args).run Tryd.prog w = .ok (.enter fd args) w) (hel : ∀ args w, (callFunc fl args).run Tryd.prog w = .ok (.enter fl args) w)
    (hf : ∀ w1 d1, IsDk w1 b d1 → Kept b w w1 → d1.safe = d.safe → d1.tail = d.tail → Calls Tryd.prog fd cd w1 fun e w' => e = .returned (.tuple #[]) ∧ IsDk w' b (f d1) ∧ Kept b w1 w')
    (hg : ∀ w1 d1, IsDk w1 b d1 → Kept b w w1 → d1.safe = d.safe → d1.tail = d.tail → Calls Tryd.prog fl cl w1 fun e w' => e = .returned (.tuple #[]) ∧ IsDk w' b (g d1) ∧ Kept b w1 w')
    (hst : 0 ≤ d.steps ∧ d.steps ≤ 4611686018427387904) (hle : 0 ≤ d.left ∧ d.left ≤ 9223372036854775807) :
    Calls Tryd.prog 38 #[.pointer (some ⟨b, 0, none⟩), .int .i64 bytes, .func (Fn.func fd) #[] cd, .func (Fn.func fl) #[] cl] w fun e w' =>
      e = .returned (.int .i64 (d.step bytes f g).2) ∧ IsDk w' b (d.step bytes f g).1 ∧ Kept b w w' := by
  have c2 : w.cell? ⟨b, 2, none⟩ = some (.int .i64 d.room) := hd.cell 2
  have c3 : w.cell? ⟨b, 3, none⟩ = some (.int .i64 d.steps) := hd.cell 3
  have c4 : w.cell? ⟨b, 4, none⟩ = some (.bool d.on) := hd.cell 4
  have c5 : w.cell? ⟨b, 5, none⟩ = some (.bool d.armed) := hd.cell 5
  have c6 : w.cell? ⟨b, 6, none⟩ = some (.int .i64 d.left) := hd.cell 6
  have f3 : w.frozen? ⟨b, 3, none⟩ = false := hd.free 3
  have f4 : w.frozen? ⟨b, 4, none⟩ = false := hd.free 4
  have f6 : w.frozen? ⟨b, 6, none⟩ = false := hd.free 6
  have k0 := Kept.refl b w
  have HF := Lib.hid hf
  have HG := Lib.hid hg
  clear hf hg
  obtain ⟨hst1, hst2⟩ := hst
  obtain ⟨hle1, hle2⟩ := hle
  have hon : d.on = false ∨ d.on = true := by cases d.on <;> simp
  rcases hon with hon | hon
  · have hs : d.step bytes f g = (d, 14) := by simp [Dk.step, hon]
    rw [hs]; clear hs
    rw [hon] at c4
    go_enter Tryd.func38, Tryd.ntmps38
    go_wp2
    go_ret
    exact ⟨rfl, hd, k0⟩
  rw [hon] at c4
  by_cases hb : d.room < bytes
  · have hs : d.step bytes f g = (d, 15) := by simp [Dk.step, hon, hb]
    rw [hs]; clear hs hon
    go_enter Tryd.func38, Tryd.ntmps38
    go_wp2
    go_ret
    exact ⟨rfl, hd, k0⟩
  have har : d.armed = false ∨ d.armed = true := by cases d.armed <;> simp
  rcases har with har | har
  · have hs : d.step bytes f g = (f { d with steps := d.steps + 1 }, 0) := by simp [Dk.step, hon, hb, har]
    rw [hs]; clear hs hon
    rw [har] at c5
    clear har
    go_enter Tryd.func38, Tryd.ntmps38
    go_wp2_with fail
    refine (HF.out _ _ (hd.setSteps (d.steps + 1)) (k0.set _ _) rfl rfl).mono ?_
    rintro e w1 ⟨rfl, h1, h2⟩
    go_wp2
    go_ret
    exact ⟨rfl, h1, (k0.set _ _).trans h2⟩
  rw [har] at c5
  by_cases hl : d.left = 0
  · have hs : d.step bytes f g = (g { d with on := false }, 14) := by simp [Dk.step, hon, hb, har, hl]
    rw [hs]; clear hs hon har
    rw [hl] at c6
    clear hl
    go_enter Tryd.func38, Tryd.ntmps38
    go_wp2_with fail
    refine (HG.out _ _ (hd.setOn false) (k0.set _ _) rfl rfl).mono ?_
    rintro e w1 ⟨rfl, h1, h2⟩
    go_wp2
    go_ret
    exact ⟨rfl, h1, (k0.set _ _).trans h2⟩
  · have hs : d.step bytes f g = (f { d with left := d.left - 1, steps := d.steps + 1 }, 0) := by simp [Dk.step, hon, hb, har, hl]
    rw [hs]; clear hs hon har
    have hlb : (d.left == 0) = false := by simpa using hl
    have e3 : (w.setCell ⟨b, 6, none⟩ (.int .i64 (d.left - 1))).cell? ⟨b, 3, none⟩ = some (.int .i64 d.steps) := (hd.setLeft _).cell 3
    go_enter Tryd.func38, Tryd.ntmps38
    go_wp2_with fail
    refine (HF.out _ _ ((hd.setLeft (d.left - 1)).setSteps (d.steps + 1)) ((k0.set _ _).set _ _) rfl rfl).mono ?_
    rintro e w1 ⟨rfl, h1, h2⟩
    go_wp2
    go_ret
    exact ⟨rfl, h1, ((k0.set _ _).set _ _).trans h2⟩

theorem enters_put : ∀ args w, (callFunc 37 args).run Tryd.prog w = .ok (.enter 37 args) w := enters_of Tryd.func37 (by kernel_rfl) rfl

def Dk.append (d : Dk) (s : ByteArray) : Dk × Int := d.step ((d.safe.size : Int) + d.tail.size + s.size) (fun d => { d with tail := d.tail ++ s }) (fun d => { d with tail := d.tail ++ s })

/-- What the closure does, wherever it is called behind. -/
theorem dput_hyp (w : World) (b : Nat) (d : Dk) (s : ByteArray) (t1 t2 : TypeId) (n : Nat) (hbl : b < w.heap.size) (hs : d.safe.size + d.tail.size + s.size ≤ 4611686018427387904) :
    ∀ w1 d1, IsDk w1 b d1 → Kept b (((w.alloc (.cells #[.pointer (some ⟨b, 0, none⟩)] t1)).alloc (.cells #[.string s] t2)).drewN n) w1 → d1.safe = d.safe → d1.tail = d.tail →
      Calls Tryd.prog 37 #[.pointer (some ⟨w.heap.size, 0, none⟩), .pointer (some ⟨w.heap.size + 1, 0, none⟩)] w1 fun e w' =>
        e = .returned (.tuple #[]) ∧ IsDk w' b { d1 with tail := d1.tail ++ s } ∧ Kept b w1 w' := by
  intro w1 d1 h1 hk e1 e2
  have p1 : Blk (((w.alloc (.cells #[.pointer (some ⟨b, 0, none⟩)] t1)).alloc (.cells #[.string s] t2)).drewN n) w.heap.size #[.pointer (some ⟨b, 0, none⟩)] t1 := ((Blk.new _ _ _).alloc _).drewN _
  have p2 : Blk (((w.alloc (.cells #[.pointer (some ⟨b, 0, none⟩)] t1)).alloc (.cells #[.string s] t2)).drewN n) (w.heap.size + 1) #[.string s] t2 := by
    have := Blk.new (w.alloc (.cells #[.pointer (some ⟨b, 0, none⟩)] t1)) #[.string s] t2
    simpa using this.drewN n
  have q1 := (hk.blk p1 (by omega)).cell 0
  have q2 := (hk.blk p2 (by omega)).cell 0
  refine (dput_any _ _ b d1 s w1 h1 q1 q2 (by rw [e2]; omega)).mono ?_
  rintro e w' ⟨rfl, rfl⟩
  exact ⟨rfl, (h1.setTail _).drew, ((Kept.refl _ _).set _ _).drew⟩

theorem dstep_put (w : World) (b : Nat) (d : Dk) (s : ByteArray) (t1 t2 : TypeId) (n : Nat) (hd : IsDk w b d)
    (hs : d.safe.size + d.tail.size + s.size ≤ 4611686018427387904) (hst : 0 ≤ d.steps ∧ d.steps ≤ 4611686018427387904) (hle : 0 ≤ d.left ∧ d.left ≤ 9223372036854775807) :
    Calls Tryd.prog 38 #[.pointer (some ⟨b, 0, none⟩), .int .i64 ((d.safe.size : Int) + d.tail.size + s.size),
      .func (Fn.func 37) #[] #[.pointer (some ⟨w.heap.size, 0, none⟩), .pointer (some ⟨w.heap.size + 1, 0, none⟩)],
      .func (Fn.func 37) #[] #[.pointer (some ⟨w.heap.size, 0, none⟩), .pointer (some ⟨w.heap.size + 1, 0, none⟩)]]
      (((w.alloc (.cells #[.pointer (some ⟨b, 0, none⟩)] t1)).alloc (.cells #[.string s] t2)).drewN n) fun e w' =>
      e = .returned (.int .i64 (d.append s).2) ∧ (IsDk w' b (d.append s).1 ∧ Kept b w w') ∧ w'.cell? ⟨w.heap.size, 0, none⟩ = some (.pointer (some ⟨b, 0, none⟩)) ∧ w'.cell? ⟨w.heap.size + 1, 0, none⟩ = some (.string s) := by
  have hbl := hd.lt
  refine (dstep_any b d _ (((hd.alloc _).alloc _).drewN _) _ _ _ _ _ _ _ enters_put enters_put (dput_hyp w b d s t1 t2 n hbl hs) (dput_hyp w b d s t1 t2 n hbl hs) hst hle).mono ?_
  rintro e w' ⟨rfl, h1, h2⟩
  have p1 : Blk (((w.alloc (.cells #[.pointer (some ⟨b, 0, none⟩)] t1)).alloc (.cells #[.string s] t2)).drewN n) w.heap.size #[.pointer (some ⟨b, 0, none⟩)] t1 := ((Blk.new _ _ _).alloc _).drewN _
  have p2 : Blk (((w.alloc (.cells #[.pointer (some ⟨b, 0, none⟩)] t1)).alloc (.cells #[.string s] t2)).drewN n) (w.heap.size + 1) #[.string s] t2 := by
    have := Blk.new (w.alloc (.cells #[.pointer (some ⟨b, 0, none⟩)] t1)) #[.string s] t2
    simpa using this.drewN n
  exact ⟨rfl, ⟨h1, ((((Kept.refl _ _).alloc _).alloc _).drewN _).trans h2⟩, (h2.blk p1 (by omega)).cell 0, (h2.blk p2 (by omega)).cell 0⟩

set_option maxRecDepth 100000 in
set_option maxHeartbeats 400000 in
theorem dappend_any (b : Nat) (d : Dk) (s : ByteArray) (w : World) (hd : IsDk w b d)
    (hs : d.safe.size + d.tail.size + s.size ≤ 4611686018427387904) (hst : 0 ≤ d.steps ∧ d.steps ≤ 4611686018427387904) (hle : 0 ≤ d.left ∧ d.left ≤ 9223372036854775807) :
    Calls Tryd.prog 15 #[.pointer (some ⟨b, 0, none⟩), .string s] w fun e w' => e = .returned (.int .i64 (d.append s).2) ∧ IsDk w' b (d.append s).1 ∧ Kept b w w' := by
  have hw : IntKind.i64.wrap ((d.safe.size : Int) + d.tail.size + s.size) = (d.safe.size : Int) + d.tail.size + s.size := IntWalk.i64_in _ (by omega)
  have h0 : ∀ o1 o2 : Obj, IsDk ((w.alloc o1).alloc o2) b d := fun _ _ => (hd.alloc _).alloc _
  go_enter Tryd.func15, Tryd.ntmps15
  go_wp2
  go_region_held3 (fun w' => w'.cell? ⟨w.heap.size, 0, none⟩ = some (.pointer (some ⟨b, 0, none⟩)) ∧ w'.cell? ⟨w.heap.size + 1, 0, none⟩ = some (.string s)) (first | exact ⟨by assumption, by assumption⟩ | go_keep)
    (first
    | (go_at_call 39; refine (dsize_any b d _ ?_ (by omega)).mono ?_; exact h0 _ _; rintro e w' ⟨rfl, n, rfl⟩)
    | (go_at_call 38; refine (dstep_put w b d s _ _ _ hd hs hst hle).mono ?_; rintro e w' ⟨rfl, h1, g1, g2⟩))
  all_goals go_wp2
  all_goals go_ret
  all_goals exact ⟨rfl, by assumption⟩

end Go.Proofs.YtkglfnjgneofdaaDoor
