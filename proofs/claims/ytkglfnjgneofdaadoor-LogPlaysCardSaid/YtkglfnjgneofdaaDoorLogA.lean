/- The walks of layer log: Open. -/
import Derived.Test.YtkglfnjgneofdaaDoorFrames
import Derived.Test.YtkglfnjgneofdaaDoorDiskFacts
namespace Go.Proofs.YtkglfnjgneofdaaDoor
open Go.RowKit

/-- Of what was there only the blocks b and c may have turned. -/
structure Kept2 (b c : Nat) (w w' : World) : Prop where
  os : w'.os = w.os
  tape : w'.tape = w.tape
  output : w'.output = w.output
  size : w.heap.size ≤ w'.heap.size
  block : ∀ k, k < w.heap.size → k ≠ b → k ≠ c → w'.heap[k]? = w.heap[k]?
theorem Kept2.refl (b c : Nat) (w : World) : Kept2 b c w w := ⟨rfl, rfl, rfl, Nat.le_refl _, fun _ _ _ _ => rfl⟩
theorem Kept2.trans {b c : Nat} {w v u : World} (h : Kept2 b c w v) (k : Kept2 b c v u) : Kept2 b c w u :=
  ⟨k.os.trans h.os, k.tape.trans h.tape, k.output.trans h.output, Nat.le_trans h.size k.size, fun i hi hb hc => (k.block i (Nat.lt_of_lt_of_le hi h.size) hb hc).trans (h.block i hi hb hc)⟩
theorem Kept.left {b : Nat} {w v : World} (h : Kept b w v) (c : Nat) : Kept2 b c w v := ⟨h.os, h.tape, h.output, h.size, fun k hk hb _ => h.block k hk hb⟩
theorem Kept.right {c : Nat} {w v : World} (h : Kept c w v) (b : Nat) : Kept2 b c w v := ⟨h.os, h.tape, h.output, h.size, fun k hk _ hc => h.block k hk hc⟩
theorem Kept2.below {b c : Nat} {w v : World} (h : Kept2 b c w v) {B : Nat} (hb : B ≤ b) (hc : B ≤ c) (hs : B ≤ w.heap.size) : Below B w v :=
  ⟨h.os, h.tape, h.output, h.size, fun k hk => h.block k (by omega) (by omega) (by omega)⟩
theorem Kept2.blk {b c b' : Nat} {w v : World} {cs : Array Value} {t : TypeId} (h : Kept2 b c w v) (hk : Blk w b' cs t) (h1 : b' ≠ b) (h2 : b' ≠ c) : Blk v b' cs t := (h.block b' hk.lt h1 h2).trans hk
theorem Kept2.ofBelow {b c : Nat} {w v : World} (h : Below w.heap.size w v) : Kept2 b c w v := ⟨h.os, h.tape, h.output, h.size, fun k hk _ _ => h.block k hk⟩

theorem Kept2.drew {b c : Nat} {w v : World} (h : Kept2 b c w v) : Kept2 b c w v.drew := ⟨h.os, h.tape, h.output, h.size, h.block⟩

/-- A log: how many records, how many bytes; is it broken. -/
structure Lg where
  n : Int
  size : Int
  broken : Bool
def Lg.cells (l : Lg) (db : Nat) : Array Value := #[.pointer (some ⟨db, 0, none⟩), .int .i64 l.n, .int .i64 l.size, .bool l.broken]
/-- Block b holds the log l on the disk of block db. -/
def IsLg (w : World) (b db : Nat) (l : Lg) : Prop := Blk w b (l.cells db) 46
theorem IsLg.setN {w : World} {b db : Nat} {l : Lg} (h : IsLg w b db l) (x : Int) : IsLg (w.setCell ⟨b, 1, none⟩ (.int .i64 x)) b db { l with n := x } := Blk.set h 1 (.int .i64 x)
theorem IsLg.setSize {w : World} {b db : Nat} {l : Lg} (h : IsLg w b db l) (x : Int) : IsLg (w.setCell ⟨b, 2, none⟩ (.int .i64 x)) b db { l with size := x } := Blk.set h 2 (.int .i64 x)
theorem IsLg.setBroken {w : World} {b db : Nat} {l : Lg} (h : IsLg w b db l) (x : Bool) : IsLg (w.setCell ⟨b, 3, none⟩ (.bool x)) b db { l with broken := x } := Blk.set h 3 (.bool x)

set_option maxRecDepth 100000 in
set_option maxHeartbeats 400000 in
theorem whole_any (s : ByteArray) (w : World) (hs : s.size ≤ 1000000) (ht : Tab w) :
    Calls Tryd.prog 11 #[.string s] w fun e w' => ∃ ao cap, e = .returned (.tuple #[.slice ao (allB s).length cap, .int .i64 ((allL (bl s)).2 : Nat)]) ∧ (allB s).length ≤ cap ∧
      SlAt w' ao ((allB s).map Value.string) ∧ Below w.heap.size w w' ∧ ∀ a, ao = some a → w.heap.size ≤ a.block := by
  go_enter Tryd.func11, Tryd.ntmps11
  go_wp2_with fail
  refine (all_anyN s w hs ht).mono ?_; rintro e w1 ⟨ao, cap, rfl, hc, hsl, hB, hn⟩
  go_wp2_with fail
  go_ret2
  exact ⟨ao, cap, rfl, hc, hsl, hB, hn⟩

theorem allF_le : ∀ (f : Nat) (s : List UInt8), (allF f s).2 ≤ s.length
  | 0, _ => Nat.zero_le _
  | f + 1, s => by
    have ih := allF_le f (s.drop (cutL s).2.1)
    unfold allF
    split
    · rename_i h
      have := (cut_ok s h).2
      rw [List.length_drop] at ih
      simp only
      omega
    · exact Nat.zero_le _
theorem allF_len : ∀ (f : Nat) (s : List UInt8), (allF f s).1.length ≤ s.length
  | 0, _ => Nat.zero_le _
  | f + 1, s => by
    have ih := allF_len f (s.drop (cutL s).2.1)
    unfold allF
    split
    · rename_i h
      have := cut_ok s h
      rw [List.length_drop] at ih
      simp only [List.length_cons]
      omega
    · exact Nat.zero_le _
theorem allB_len (s : ByteArray) : (allB s).length ≤ s.size := by
  have := allF_len ((bl s).length + 1) (bl s)
  rw [allB, List.length_map, ← bl_length]
  exact this
/-- How many bytes All takes. -/
def allN (s : ByteArray) : Nat := (allL (bl s)).2
theorem allN_le (s : ByteArray) : allN s ≤ s.size := by
  have := allF_le ((bl s).length + 1) (bl s)
  rw [bl_length] at this
  show (allF ((bl s).length + 1) (bl s)).2 ≤ s.size
  rw [bl_length]
  exact this

/-- What Open makes of a disk; which error. -/
def Dk.open1 (d : Dk) : Dk × Int := if allN (d.safe ++ d.tail) < (d.safe ++ d.tail).size then d.swap ((d.safe ++ d.tail).extract 0 (allN (d.safe ++ d.tail))) else (d, 0)
def Dk.open (d : Dk) : Dk × Int := if d.open1.2 = 0 then d.open1.1.sync else d.open1

/-- A disk that may go on. -/
structure Dk.Fit (d : Dk) : Prop where
  size : d.safe.size + d.tail.size ≤ 1000000
  steps : 0 ≤ d.steps ∧ d.steps ≤ 1000000
  left : 0 ≤ d.left ∧ d.left ≤ 9223372036854775807

theorem swap_fit {d : Dk} (h : d.Fit) (s : ByteArray) (x : Dk × Int) (hx : d.swap s = x) : (0 ≤ x.1.steps ∧ x.1.steps ≤ d.steps + 1) ∧ (0 ≤ x.1.left ∧ x.1.left ≤ 9223372036854775807) ∧ x.1.safe.size + x.1.tail.size ≤ max (d.safe.size + d.tail.size) s.size := by
  obtain ⟨h1, h2, h3⟩ := h
  subst hx
  unfold Dk.swap Dk.step
  split
  · split
    · exact ⟨by simp only; omega, by simp only; omega, by simp only; omega⟩
    · split
      · split
        · exact ⟨by simp only [id]; omega, by simp only [id]; omega, by simp only [id]; omega⟩
        · exact ⟨by simp only; omega, by simp only; omega, by simp only [nil_size]; omega⟩
      · exact ⟨by simp only; omega, by simp only; omega, by simp only [nil_size]; omega⟩
  · exact ⟨by simp only; omega, by simp only; omega, by simp only; omega⟩

set_option maxRecDepth 100000 in
set_option maxHeartbeats 4000000 in
theorem lopen_any (b : Nat) (d : Dk) (w : World) (hd : IsDk w b d) (hf : d.Fit) (ht : Tab w) :
    Calls Tryd.prog 16 #[.pointer (some ⟨b, 0, none⟩)] w fun e w' =>
      (IsDk w' b d.open.1 ∧ Kept b w w') ∧
      ((d.open.2 ≠ 0 ∧ e = .returned (.tuple #[.pointer none, .slice none 0 0, .int .i64 d.open.2])) ∨
       (d.open.2 = 0 ∧ ∃ g ao cap, e = .returned (.tuple #[.pointer (some ⟨g, 0, none⟩), .slice ao (allB (d.safe ++ d.tail)).length cap, .int .i64 0]) ∧ w.heap.size ≤ g ∧
          IsLg w' g b ⟨(allB (d.safe ++ d.tail)).length, allN (d.safe ++ d.tail), false⟩ ∧ (allB (d.safe ++ d.tail)).length ≤ cap ∧ SlAt w' ao ((allB (d.safe ++ d.tail)).map Value.string) ∧ ∀ a, ao = some a → w.heap.size ≤ a.block)) := by
  have HT : Hid (Tab w) := ht
  clear ht
  have hf2 := hf
  obtain ⟨hs1, hst, hle⟩ := hf
  have hbl := hd.lt
  obtain ⟨Q, hQ⟩ := nm d.open
  obtain ⟨x, hx⟩ := nm d.open1
  have hq0 : Q = if x.2 = 0 then x.1.sync else x := by rw [hQ.out, Dk.open, hx.out]
  have hx0 := hx.out
  unfold Dk.open1 at hx0
  rw [← hQ.out]
  clear hQ hx
  obtain ⟨s, hs⟩ := nm (d.safe ++ d.tail)
  have hss : s.size = d.safe.size + d.tail.size := by rw [hs.out, app_size]
  rw [← hs.out] at hx0 ⊢
  obtain ⟨X, hX⟩ := nm (allB s)
  obtain ⟨n, hn⟩ := nm (allN s)
  have hns : n ≤ s.size := by rw [hn.out]; exact allN_le s
  rw [← hn.out] at hx0
  rw [← hX.out, ← hn.out]
  have hXN : Hid (allB s = X ∧ (allL (bl s)).2 = n) := ⟨hX.out.symm, hn.out.symm⟩
  clear hX hn
  have hxf : (0 ≤ x.1.steps ∧ x.1.steps ≤ 4611686018427387904) ∧ (0 ≤ x.1.left ∧ x.1.left ≤ 9223372036854775807) ∧ x.1.safe.size + x.1.tail.size ≤ 4611686018427387904 := by
    rw [hx0]
    split
    · obtain ⟨g1, g2, g3⟩ := swap_fit hf2 (s.extract 0 n) _ rfl
      rw [ByteArray.size_extract] at g3
      refine ⟨by omega, g2, by omega⟩
    · exact ⟨by simp only; omega, hle, by simp only; omega⟩
  have HX := Lib.hid hx0
  clear hx0
  go_enter Tryd.func16, Tryd.ntmps16
  go_wp2_with fail
  refine (dbytes_any b d w hd (by omega)).mono ?_; rintro e w1 ⟨rfl, q, rfl⟩
  rw [← hs.out]
  clear hs
  go_wp2_with fail
  refine (whole_any s (w.drewN q) (by omega) ⟨HT.out.cells, HT.out.size⟩).mono ?_; rintro e w2 ⟨ao, cap, rfl, hcap, hsl, hB, hnw⟩
  rw [hXN.out.1] at hsl hcap ⊢
  rw [hXN.out.2]
  have hd2 : IsDk w2 b d := Blk.below (hd.drewN q) hB hbl
  have hk2 : Kept b w w2 := ((Kept.refl b w).drewN q).trans (Kept.ofBelow hB)
  replace hnw : ∀ a, ao = some a → w.heap.size ≤ a.block := hnw
  obtain ⟨m, hm⟩ := nm X.length
  rw [← hm.out] at hcap ⊢
  have hm63 : m ≤ 9223372036854775807 := by
    have := allB_len s
    rw [hXN.out.1, ← hm.out] at this
    omega
  clear hB hd
  go_upto_if 21 with fail
  go_cut [8] (fun s8 wx => s8 = .int .i64 x.2 ∧ IsDk wx b x.1 ∧ Kept b w2 wx)
  case first =>
    by_cases hlt : n < s.size
    · have hx1 := HX.out
      rw [if_pos hlt] at hx1
      have hk0 : (0 : Int) ≤ (n : Int) := by omega
      have hk1 : (n : Int) ≤ (s.size : Int) := by omega
      go_wp2_with fail
      refine (dswap_any b d _ w2 hd2 (by omega) hle).mono ?_; rintro e w3 ⟨rfl, h1, hk⟩
      rw [← hx1] at h1 ⊢
      clear hx1
      go_wp2_with fail
      go_meet
      exact ⟨rfl, h1, hk⟩
    · have hx1 := HX.out
      rw [if_neg hlt] at hx1
      go_wp2_with fail
      go_meet
      rw [hx1]
      exact ⟨rfl, hd2, Kept.refl _ _⟩
  obtain ⟨rfl, hd3, hk3⟩ := hcut
  clear hd2
  obtain ⟨x1, x2⟩ := x
  simp only at hq0 hxf hd3 ⊢
  by_cases hx2 : x2 = 0
  · rw [if_pos hx2] at hq0
    subst hx2
    go_wp2_with fail
    refine (dsync_any b x1 _ hd3 hxf.2.2 hxf.1 hxf.2.1).mono ?_; rintro e w4 ⟨rfl, hd4, hk4⟩
    rw [← hq0] at hd4 ⊢
    have hk5 := (hk2.trans hk3).trans hk4
    obtain ⟨y1, y2⟩ := Q
    simp only at hd4 ⊢
    by_cases hy : y2 = 0
    · subst hy
      have hsl4 : SlAt w4 ao (X.map Value.string) := (hsl.above hnw hk3.size (fun k h1 h2 => hk3.block k h1 (by omega))).above hnw hk4.size (fun k h1 h2 => hk4.block k h1 (by omega))
      go_wp2_with fail
      go_ret3
      rw [← hm.out]
      refine ⟨⟨hd4.alloc _, hk5.alloc _⟩, w4.heap.size, ao, cap, rfl, hk5.size, ?_, hcap, ?_, hnw⟩
      · exact Blk.new _ _ _
      · exact hsl4.above (B := 0) (fun _ _ => Nat.zero_le _) (by simp) (fun k h1 _ => Below.heap_alloc _ _ _ h1)
    · have hyb : (y2 == 0) = false := by simpa using hy
      go_wp2_with fail
      go_ret3
      exact ⟨⟨hd4, hk5⟩, rfl⟩
  · rw [if_neg hx2] at hq0
    subst hq0
    have hyb : (x2 == 0) = false := by simpa using hx2
    go_wp2_with fail
    go_ret3
    exact ⟨⟨hd3, hk2.trans hk3⟩, rfl⟩
end Go.Proofs.YtkglfnjgneofdaaDoor
