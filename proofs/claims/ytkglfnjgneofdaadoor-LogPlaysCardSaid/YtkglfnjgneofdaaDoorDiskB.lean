/- The walks of layer disk, continued: Sync, Swap, Arm, Crash, Wipe. -/
import Derived.Test.YtkglfnjgneofdaaDoorDisk
namespace Go.Proofs.YtkglfnjgneofdaaDoor
open Go.RowKit

set_option maxRecDepth 100000 in
set_option maxHeartbeats 400000 in
theorem dsync1_any (p b : Nat) (d : Dk) (w : World) (hd : IsDk w b d) (hp : w.cell? ⟨p, 0, none⟩ = some (.pointer (some ⟨b, 0, none⟩)))
    (hs : d.safe.size + d.tail.size ≤ 4611686018427387904) :
    Calls Tryd.prog 58 #[.pointer (some ⟨p, 0, none⟩)] w fun e w' => e = .returned (.tuple #[]) ∧ w' = ((w.setCell ⟨b, 0, none⟩ (.string (d.safe ++ d.tail))).setCell ⟨b, 1, none⟩ (.string ⟨#[]⟩)).drew := by
  have c0 : w.cell? ⟨b, 0, none⟩ = some (.string d.safe) := hd.cell 0
  have c1 : w.cell? ⟨b, 1, none⟩ = some (.string d.tail) := hd.cell 1
  have f0 : w.frozen? ⟨b, 0, none⟩ = false := hd.free 0
  have f1 : w.frozen? ⟨b, 1, none⟩ = false := hd.free 1
  go_enter Tryd.func58, Tryd.ntmps58
  go_wp2
  go_region
  all_goals (go_wp2; go_end0; exact ⟨rfl, rfl⟩)

set_option maxRecDepth 100000 in
set_option maxHeartbeats 400000 in
theorem dsync2_any (w : World) :
    Calls Tryd.prog 59 #[] w fun e w' => e = .returned (.tuple #[]) ∧ w = w' := by
  go_enter Tryd.func59, Tryd.ntmps59
  go_wp2
  go_end0
  exact ⟨rfl, rfl⟩

set_option maxRecDepth 100000 in
set_option maxHeartbeats 400000 in
theorem dswap1_any (p q b : Nat) (d : Dk) (s : ByteArray) (w : World) (hd : IsDk w b d) (hp : w.cell? ⟨p, 0, none⟩ = some (.pointer (some ⟨b, 0, none⟩))) (hq : w.cell? ⟨q, 0, none⟩ = some (.string s)) :
    Calls Tryd.prog 56 #[.pointer (some ⟨q, 0, none⟩), .pointer (some ⟨p, 0, none⟩)] w fun e w' => e = .returned (.tuple #[]) ∧ w' = ((w.setCell ⟨b, 0, none⟩ (.string s)).setCell ⟨b, 1, none⟩ (.string ⟨#[]⟩)) := by
  have c0 : w.cell? ⟨b, 0, none⟩ = some (.string d.safe) := hd.cell 0
  have c1 : w.cell? ⟨b, 1, none⟩ = some (.string d.tail) := hd.cell 1
  have f0 : w.frozen? ⟨b, 0, none⟩ = false := hd.free 0
  have f1 : w.frozen? ⟨b, 1, none⟩ = false := hd.free 1
  go_enter Tryd.func56, Tryd.ntmps56
  go_wp2
  go_end0
  exact ⟨rfl, rfl⟩

set_option maxRecDepth 100000 in
set_option maxHeartbeats 400000 in
theorem dagain_any (b : Nat) (d : Dk) (s : ByteArray) (w : World) (hd : IsDk w b d) (hr : 0 < d.room) :
    Calls Tryd.prog 46 #[.pointer (some ⟨b, 0, none⟩), .string s] w fun e w' => e = .returned (.tuple #[]) ∧ w' = ((((w.setCell ⟨b, 0, none⟩ (.string s)).setCell ⟨b, 1, none⟩ (.string ⟨#[]⟩)).setCell ⟨b, 4, none⟩ (.bool true)).setCell ⟨b, 5, none⟩ (.bool false)) := by
  have c0 : w.cell? ⟨b, 0, none⟩ = some (.string d.safe) := hd.cell 0
  have c1 : w.cell? ⟨b, 1, none⟩ = some (.string d.tail) := hd.cell 1
  have c2 : w.cell? ⟨b, 2, none⟩ = some (.int .i64 d.room) := hd.cell 2
  have c4 : w.cell? ⟨b, 4, none⟩ = some (.bool d.on) := hd.cell 4
  have c5 : w.cell? ⟨b, 5, none⟩ = some (.bool d.armed) := hd.cell 5
  have f0 : w.frozen? ⟨b, 0, none⟩ = false := hd.free 0
  have f1 : w.frozen? ⟨b, 1, none⟩ = false := hd.free 1
  have f4 : w.frozen? ⟨b, 4, none⟩ = false := hd.free 4
  have f5 : w.frozen? ⟨b, 5, none⟩ = false := hd.free 5
  go_enter Tryd.func46, Tryd.ntmps46
  go_wp2
  go_end0
  exact ⟨rfl, rfl⟩

def Dk.sync (d : Dk) : Dk × Int := d.step 0 (fun d => { d with safe := d.safe ++ d.tail, tail := ⟨#[]⟩ }) id
def Dk.swap (d : Dk) (s : ByteArray) : Dk × Int := d.step s.size (fun d => { d with safe := s, tail := ⟨#[]⟩ }) id
def Dk.arm (d : Dk) (n : Int) : Dk := { d with armed := true, left := if n < 0 then 0 else n }
def Dk.again (d : Dk) (s : ByteArray) : Dk := if 0 < d.room then { d with safe := s, tail := ⟨#[]⟩, on := true, armed := false } else d
def Dk.crash (d : Dk) (keep : Int) : Dk := d.again (d.safe ++ d.tail.extract 0 (min keep.toNat d.tail.size))

theorem enters_sync1 : ∀ args w, (callFunc 58 args).run Tryd.prog w = .ok (.enter 58 args) w := enters_of Tryd.func58 (by kernel_rfl) rfl
theorem enters_sync2 : ∀ args w, (callFunc 59 args).run Tryd.prog w = .ok (.enter 59 args) w := enters_of Tryd.func59 (by kernel_rfl) rfl
theorem enters_swap1 : ∀ args w, (callFunc 56 args).run Tryd.prog w = .ok (.enter 56 args) w := enters_of Tryd.func56 (by kernel_rfl) rfl
theorem enters_swap2 : ∀ args w, (callFunc 57 args).run Tryd.prog w = .ok (.enter 57 args) w := enters_of Tryd.func57 (by kernel_rfl) rfl

set_option maxRecDepth 100000 in
set_option maxHeartbeats 400000 in
theorem dswap2_any (w : World) :
    Calls Tryd.prog 57 #[] w fun e w' => e = .returned (.tuple #[]) ∧ w = w' := by
  go_enter Tryd.func57, Tryd.ntmps57
  go_wp2
  go_end0
  exact ⟨rfl, rfl⟩

theorem dstep_sync (w : World) (b : Nat) (d : Dk) (t1 : TypeId) (hd : IsDk w b d)
    (hs : d.safe.size + d.tail.size ≤ 4611686018427387904) (hst : 0 ≤ d.steps ∧ d.steps ≤ 4611686018427387904) (hle : 0 ≤ d.left ∧ d.left ≤ 9223372036854775807) :
    Calls Tryd.prog 38 #[.pointer (some ⟨b, 0, none⟩), .int .i64 0,
      .func (Fn.func 58) #[] #[.pointer (some ⟨w.heap.size, 0, none⟩)], .func (Fn.func 59) #[] #[]]
      (w.alloc (.cells #[.pointer (some ⟨b, 0, none⟩)] t1)) fun e w' =>
      e = .returned (.int .i64 d.sync.2) ∧ IsDk w' b d.sync.1 ∧ Kept b w w' := by
  have hbl := hd.lt
  refine (dstep_any b d _ (hd.alloc _) _ _ _ _ _ (fun d => { d with safe := d.safe ++ d.tail, tail := ⟨#[]⟩ }) id enters_sync1 enters_sync2 ?_ ?_ hst hle).mono ?_
  · intro w1 d1 h1 hk e1 e2
    refine (dsync1_any _ b d1 w1 h1 ((hk.blk (Blk.new w _ t1) (by omega)).cell 0) (by rw [e1, e2]; omega)).mono ?_
    rintro e w' ⟨rfl, rfl⟩
    exact ⟨rfl, ((h1.setSafe _).setTail _).drew, (((Kept.refl _ _).set _ _).set _ _).drew⟩
  · intro w1 d1 h1 hk _ _
    refine (dsync2_any w1).mono ?_
    rintro e w' ⟨rfl, rfl⟩
    exact ⟨rfl, h1, Kept.refl _ _⟩
  · rintro e w' ⟨rfl, h1, h2⟩
    exact ⟨rfl, h1, ((Kept.refl _ _).alloc _).trans h2⟩

set_option maxRecDepth 100000 in
set_option maxHeartbeats 400000 in
theorem dsync_any (b : Nat) (d : Dk) (w : World) (hd : IsDk w b d)
    (hs : d.safe.size + d.tail.size ≤ 4611686018427387904) (hst : 0 ≤ d.steps ∧ d.steps ≤ 4611686018427387904) (hle : 0 ≤ d.left ∧ d.left ≤ 9223372036854775807) :
    Calls Tryd.prog 41 #[.pointer (some ⟨b, 0, none⟩)] w fun e w' => e = .returned (.int .i64 d.sync.2) ∧ IsDk w' b d.sync.1 ∧ Kept b w w' := by
  go_enter Tryd.func41, Tryd.ntmps41
  go_wp2_with fail
  refine (dstep_sync w b d _ hd hs hst hle).mono ?_
  rintro e w' ⟨rfl, h1⟩
  go_wp2
  go_ret
  exact ⟨rfl, h1⟩

theorem dstep_swap (w : World) (b : Nat) (d : Dk) (s : ByteArray) (t1 t2 : TypeId) (hd : IsDk w b d)
    (hst : 0 ≤ d.steps ∧ d.steps ≤ 4611686018427387904) (hle : 0 ≤ d.left ∧ d.left ≤ 9223372036854775807) :
    Calls Tryd.prog 38 #[.pointer (some ⟨b, 0, none⟩), .int .i64 s.size,
      .func (Fn.func 56) #[] #[.pointer (some ⟨w.heap.size + 1, 0, none⟩), .pointer (some ⟨w.heap.size, 0, none⟩)], .func (Fn.func 57) #[] #[]]
      ((w.alloc (.cells #[.pointer (some ⟨b, 0, none⟩)] t1)).alloc (.cells #[.string s] t2)) fun e w' =>
      e = .returned (.int .i64 (d.swap s).2) ∧ IsDk w' b (d.swap s).1 ∧ Kept b w w' := by
  have hbl := hd.lt
  have p1 : Blk ((w.alloc (.cells #[.pointer (some ⟨b, 0, none⟩)] t1)).alloc (.cells #[.string s] t2)) w.heap.size #[.pointer (some ⟨b, 0, none⟩)] t1 := ((Blk.new _ _ _).alloc _)
  have p2 : Blk ((w.alloc (.cells #[.pointer (some ⟨b, 0, none⟩)] t1)).alloc (.cells #[.string s] t2)) (w.heap.size + 1) #[.string s] t2 := by
    have := Blk.new (w.alloc (.cells #[.pointer (some ⟨b, 0, none⟩)] t1)) #[.string s] t2
    simpa using this
  refine (dstep_any b d _ ((hd.alloc _).alloc _) _ _ _ _ _ (fun d => { d with safe := s, tail := ⟨#[]⟩ }) id enters_swap1 enters_swap2 ?_ ?_ hst hle).mono ?_
  · intro w1 d1 h1 hk e1 e2
    refine (dswap1_any _ _ b d1 s w1 h1 ((hk.blk p1 (by omega)).cell 0) ((hk.blk p2 (by omega)).cell 0)).mono ?_
    rintro e w' ⟨rfl, rfl⟩
    exact ⟨rfl, ((h1.setSafe _).setTail _), (((Kept.refl _ _).set _ _).set _ _)⟩
  · intro w1 d1 h1 hk _ _
    refine (dswap2_any w1).mono ?_
    rintro e w' ⟨rfl, rfl⟩
    exact ⟨rfl, h1, Kept.refl _ _⟩
  · rintro e w' ⟨rfl, h1, h2⟩
    exact ⟨rfl, h1, (((Kept.refl _ _).alloc _).alloc _).trans h2⟩

set_option maxRecDepth 100000 in
set_option maxHeartbeats 400000 in
theorem dswap_any (b : Nat) (d : Dk) (s : ByteArray) (w : World) (hd : IsDk w b d)
    (hst : 0 ≤ d.steps ∧ d.steps ≤ 4611686018427387904) (hle : 0 ≤ d.left ∧ d.left ≤ 9223372036854775807) :
    Calls Tryd.prog 40 #[.pointer (some ⟨b, 0, none⟩), .string s] w fun e w' => e = .returned (.int .i64 (d.swap s).2) ∧ IsDk w' b (d.swap s).1 ∧ Kept b w w' := by
  have hbl := hd.lt
  go_enter Tryd.func40, Tryd.ntmps40
  go_wp2_with fail
  refine (dstep_swap w b d s _ _ hd hst hle).mono ?_
  rintro e w' ⟨rfl, h1⟩
  go_wp2
  go_ret
  exact ⟨rfl, h1⟩

set_option maxRecDepth 100000 in
set_option maxHeartbeats 400000 in
theorem darm_any (b : Nat) (d : Dk) (n : Int) (w : World) (hd : IsDk w b d) :
    Calls Tryd.prog 24 #[.pointer (some ⟨b, 0, none⟩), .int .i64 n] w fun e w' => e = .returned (.tuple #[]) ∧ IsDk w' b (d.arm n) ∧ Kept b w w' := by
  have c5 : w.cell? ⟨b, 5, none⟩ = some (.bool d.armed) := hd.cell 5
  have c6 : w.cell? ⟨b, 6, none⟩ = some (.int .i64 d.left) := hd.cell 6
  have f5 : w.frozen? ⟨b, 5, none⟩ = false := hd.free 5
  have f6 : w.frozen? ⟨b, 6, none⟩ = false := hd.free 6
  by_cases h : n < 0
  · have e0 : d.arm n = { d with armed := true, left := 0 } := by simp [Dk.arm, h]
    rw [e0]; clear e0
    go_enter Tryd.func24, Tryd.ntmps24
    go_wp2
    go_end0
    exact ⟨rfl, (hd.setArmed _).setLeft _, ((Kept.refl _ _).set _ _).set _ _⟩
  · have e0 : d.arm n = { d with armed := true, left := n } := by simp [Dk.arm, h]
    rw [e0]; clear e0
    go_enter Tryd.func24, Tryd.ntmps24
    go_wp2
    go_end0
    exact ⟨rfl, (hd.setArmed _).setLeft _, ((Kept.refl _ _).set _ _).set _ _⟩

set_option maxRecDepth 100000 in
set_option maxHeartbeats 400000 in
theorem dagain0_any (b : Nat) (d : Dk) (s : ByteArray) (w : World) (hd : IsDk w b d) (hr : d.room ≤ 0) :
    Calls Tryd.prog 46 #[.pointer (some ⟨b, 0, none⟩), .string s] w fun e w' => e = .returned (.tuple #[]) ∧ w = w' := by
  have c2 : w.cell? ⟨b, 2, none⟩ = some (.int .i64 d.room) := hd.cell 2
  go_enter Tryd.func46, Tryd.ntmps46
  go_wp2
  go_end0
  exact ⟨rfl, rfl⟩

theorem dagain2_any (b : Nat) (d : Dk) (s : ByteArray) (w : World) (hd : IsDk w b d) :
    Calls Tryd.prog 46 #[.pointer (some ⟨b, 0, none⟩), .string s] w fun e w' => e = .returned (.tuple #[]) ∧ IsDk w' b (d.again s) ∧ Kept b w w' := by
  by_cases hr : 0 < d.room
  · refine (dagain_any b d s w hd hr).mono ?_
    rintro e w' ⟨rfl, rfl⟩
    unfold Dk.again
    rw [if_pos hr]
    exact ⟨rfl, (((hd.setSafe _).setTail _).setOn _).setArmed _, ((((Kept.refl _ _).set _ _).set _ _).set _ _).set _ _⟩
  · refine (dagain0_any b d s w hd (by omega)).mono ?_
    rintro e w' ⟨rfl, rfl⟩
    unfold Dk.again
    rw [if_neg hr]
    exact ⟨rfl, hd, Kept.refl _ _⟩

set_option maxRecDepth 100000 in
set_option maxHeartbeats 1000000 in
theorem dcrash_neg (b : Nat) (d : Dk) (k : Int) (w : World) (hd : IsDk w b d) (hs : d.safe.size + d.tail.size ≤ 4611686018427387904) (h : k < 0) :
    Calls Tryd.prog 22 #[.pointer (some ⟨b, 0, none⟩), .int .i64 k] w fun e w' => e = .returned (.tuple #[]) ∧ IsDk w' b (d.again d.safe) ∧ Kept b w w' := by
  have c0 : w.cell? ⟨b, 0, none⟩ = some (.string d.safe) := hd.cell 0
  have c1 : w.cell? ⟨b, 1, none⟩ = some (.string d.tail) := hd.cell 1
  go_enter Tryd.func22, Tryd.ntmps22
  go_wp2
  go_region_with (go_at_call 46; refine (dagain2_any b d _ _ ?_).mono ?_; exact hd.drew; rintro e w' ⟨rfl, h1, h2⟩)
  all_goals go_wp2
  all_goals go_end0
  all_goals exact ⟨rfl, h1, (Kept.refl _ _).drew.trans h2⟩

set_option maxRecDepth 100000 in
set_option maxHeartbeats 1000000 in
theorem dcrash_mid (b : Nat) (d : Dk) (n : Nat) (w : World) (hd : IsDk w b d) (hs : d.safe.size + d.tail.size ≤ 4611686018427387904) (h : n ≤ d.tail.size) :
    Calls Tryd.prog 22 #[.pointer (some ⟨b, 0, none⟩), .int .i64 n] w fun e w' => e = .returned (.tuple #[]) ∧ IsDk w' b (d.again (d.safe ++ d.tail.extract 0 n)) ∧ Kept b w w' := by
  have c0 : w.cell? ⟨b, 0, none⟩ = some (.string d.safe) := hd.cell 0
  have c1 : w.cell? ⟨b, 1, none⟩ = some (.string d.tail) := hd.cell 1
  go_enter Tryd.func22, Tryd.ntmps22
  go_wp2
  go_region_with (go_at_call 46; refine (dagain2_any b d _ _ ?_).mono ?_; exact hd.drew; rintro e w' ⟨rfl, h1, h2⟩)
  all_goals go_wp2
  all_goals go_end0
  all_goals exact ⟨rfl, h1, (Kept.refl _ _).drew.trans h2⟩

set_option maxRecDepth 100000 in
set_option maxHeartbeats 1000000 in
theorem dcrash_all (b : Nat) (d : Dk) (n : Nat) (w : World) (hd : IsDk w b d) (hs : d.safe.size + d.tail.size ≤ 4611686018427387904) (h : d.tail.size < n) :
    Calls Tryd.prog 22 #[.pointer (some ⟨b, 0, none⟩), .int .i64 n] w fun e w' => e = .returned (.tuple #[]) ∧ IsDk w' b (d.again (d.safe ++ d.tail)) ∧ Kept b w w' := by
  have c0 : w.cell? ⟨b, 0, none⟩ = some (.string d.safe) := hd.cell 0
  have c1 : w.cell? ⟨b, 1, none⟩ = some (.string d.tail) := hd.cell 1
  have e0 : d.tail.extract 0 d.tail.size = d.tail := by simp
  go_enter Tryd.func22, Tryd.ntmps22
  go_wp2
  go_region_with (go_at_call 46; refine (dagain2_any b d _ _ ?_).mono ?_; exact hd.drew; rintro e w' ⟨rfl, h1, h2⟩)
  all_goals go_wp2
  all_goals go_end0
  all_goals exact ⟨rfl, h1, (Kept.refl _ _).drew.trans h2⟩

theorem dcrash_any (b : Nat) (d : Dk) (k : Int) (w : World) (hd : IsDk w b d) (hs : d.safe.size + d.tail.size ≤ 4611686018427387904) :
    Calls Tryd.prog 22 #[.pointer (some ⟨b, 0, none⟩), .int .i64 k] w fun e w' => e = .returned (.tuple #[]) ∧ IsDk w' b (d.crash k) ∧ Kept b w w' := by
  by_cases h : k < 0
  · have e0 : d.crash k = d.again d.safe := by simp [Dk.crash, show k.toNat = 0 from by omega]
    rw [e0]
    exact dcrash_neg b d k w hd hs h
  obtain ⟨n, rfl⟩ : ∃ n : Nat, k = n := ⟨k.toNat, by omega⟩
  by_cases h2 : n ≤ d.tail.size
  · have e0 : d.crash n = d.again (d.safe ++ d.tail.extract 0 n) := by simp [Dk.crash, show min n d.tail.size = n from by omega]
    rw [e0]
    exact dcrash_mid b d n w hd hs h2
  · have e0 : d.crash n = d.again (d.safe ++ d.tail) := by
      have : d.tail.extract 0 d.tail.size = d.tail := by simp
      simp [Dk.crash, show min n d.tail.size = d.tail.size from by omega, this]
    rw [e0]
    exact dcrash_all b d n w hd hs (by omega)

end Go.Proofs.YtkglfnjgneofdaaDoor
