/- A log and its disk, as a law holds them; the examples of chapter 14. -/
import Derived.Test.YtkglfnjgneofdaaDoorLogB
import Derived.Test.YtkglfnjgneofdaaDoorFoldLaid
import Derived.Test.YtkglfnjgneofdaaDoorSameTexts
import Derived.Test.YtkglfnjgneofdaaDoorBytes
namespace Go.Proofs.YtkglfnjgneofdaaDoor
open Go.RowKit

theorem SlAt.newRow (w : World) (cs : List Value) (t : TypeId) : SlAt (w.alloc (.cells cs.toArray t)) (some ⟨w.heap.size, 0, none⟩) cs := by
  intro k _
  refine ⟨w.heap.size, 0, rfl, by simp, fun j _ => ?_⟩
  rw [Nat.zero_add, World.cell?_alloc_at _ _ _ _ rfl]
  simp

/-- A log, in block g, on a disk, in block b, both of the law's own. -/
structure LD (w wr : World) (g b : Nat) (l : Lg) (d : Dk) : Prop where
  ne : g ≠ b
  lg : w.heap.size ≤ g
  lb : w.heap.size ≤ b
  il : IsLg wr g b l
  id : IsDk wr b d
  old : Below w.heap.size w wr
section
variable {w wr w2 : World} {g b : Nat} {l l1 : Lg} {d d1 : Dk}
theorem LD.next (h : LD w wr g b l d) (h1 : IsLg w2 g b l1) (h2 : IsDk w2 b d1) (hk : Kept2 g b wr w2) : LD w w2 g b l1 d1 :=
  ⟨h.ne, h.lg, h.lb, h1, h2, h.old.trans (hk.below h.lg h.lb h.old.size)⟩
theorem LD.disk (h : LD w wr g b l d) (h2 : IsDk w2 b d1) (hk : Kept b wr w2) : LD w w2 g b l d1 :=
  ⟨h.ne, h.lg, h.lb, hk.blk h.il h.ne, h2, bKept h.old hk h.lb⟩
theorem LD.alloc (h : LD w wr g b l d) (o : Obj) : LD w (wr.alloc o) g b l d := ⟨h.ne, h.lg, h.lb, h.il.alloc o, h.id.alloc o, bNew h.old o⟩
theorem LD.drewN (h : LD w wr g b l d) (n : Nat) : LD w (wr.drewN n) g b l d := ⟨h.ne, h.lg, h.lb, h.il.drewN n, h.id.drewN n, below_drewN h.old n⟩
theorem LD.below (h : LD w wr g b l d) (hB : Below wr.heap.size wr w2) : LD w w2 g b l d := ⟨h.ne, h.lg, h.lb, Blk.below h.il hB h.il.lt, Blk.below h.id hB h.id.lt, bNext h.old hB⟩
end

/-- Open where it is well. -/
theorem lopen_ok (b : Nat) (d d1 : Dk) (X : List ByteArray) (n : Nat) (w0 w : World) (hw : w0.heap.size ≤ b) (hB : Below w0.heap.size w0 w) (hd : IsDk w b d) (hf : d.Fit) (ht : Tab w0) (h0 : d.open = (d1, 0)) (hX : allB (d.safe ++ d.tail) = X) (hn : allN (d.safe ++ d.tail) = n) :
    Calls Tryd.prog 16 #[.pointer (some ⟨b, 0, none⟩)] w fun e w' => ∃ g ao cap, e = .returned (.tuple #[.pointer (some ⟨g, 0, none⟩), .slice ao X.length cap, .int .i64 0]) ∧
      LD w0 w' g b ⟨X.length, n, false⟩ d1 ∧ X.length ≤ cap ∧ SlAt w' ao (X.map Value.string) ∧ (∀ a, ao = some a → w.heap.size ≤ a.block) ∧ w.heap.size ≤ g ∧ Kept b w w' := by
  have hbl := hd.lt
  refine (lopen_any b d w hd hf (ht.below hB)).mono ?_
  rintro e w' ⟨⟨h1, h2⟩, h3 | ⟨_, g, ao, cap, rfl, h4, h5, h6, h7, h8⟩⟩
  · rw [h0] at h3; exact absurd rfl h3.1
  · subst hX hn
    rw [h0] at h1
    exact ⟨g, ao, cap, rfl, ⟨by omega, Nat.le_trans hB.size h4, hw, h5, h1, bKept hB h2 hw⟩, h6, h7, h8, h4, h2⟩

set_option maxRecDepth 100000 in
set_option maxHeartbeats 400000 in
theorem short_any (s : ByteArray) (n : Nat) (w : World) (hn : n ≤ 9223372036854775807) :
    Calls Tryd.prog 10 #[.string s, .int .i64 (n : Int)] w fun e w' => e = .returned (.string (cutB s n)) ∧ w = w' := by
  have h10 := cutB_cases s n
  obtain ⟨s2, hs2⟩ := nm (cutB s n)
  rw [← hs2.out] at h10 ⊢
  rcases h10 with ⟨h, e⟩ | ⟨h, rfl⟩
  all_goals
    go_enter Tryd.func10, Tryd.ntmps10
    go_wp2_with fail
    go_ret
    exact ⟨rfl, rfl⟩

namespace Aw
def d1 : Dk := (Dk.new 100).open.1
theorem o1 : (Dk.new 100).open = (d1, 0) := by kernel_rfl
def s2 : Lg × Dk × Int := (Lg.mk 0 0 false).add d1 [⟨#[97]⟩]
theorem o2 : s2.2.2 = 0 := by kernel_rfl
def s3 : Lg × Dk × Int := s2.1.sync s2.2.1
theorem o3 : s3.2.2 = 0 := by kernel_rfl
def s4 : Lg × Dk × Int := s3.1.add s3.2.1 [⟨#[98]⟩, ⟨#[99]⟩]
theorem o4 : s4.2.2 = 0 := by kernel_rfl
def d5 : Dk := s4.2.1.crash 4
def d6 : Dk := d5.open.1
theorem o6 : d5.open = (d6, 0) := by kernel_rfl
theorem x6 : allB (d5.safe ++ d5.tail) = [⟨#[97]⟩, ⟨#[98]⟩] := by kernel_rfl
theorem n6 : allN (d5.safe ++ d5.tail) = 8 := by kernel_rfl
theorem f1 : d1.Fit := ⟨by decide +kernel, by decide +kernel, by decide +kernel⟩
theorem f2 : s2.2.1.Fit := ⟨by decide +kernel, by decide +kernel, by decide +kernel⟩
theorem f3 : s3.2.1.Fit := ⟨by decide +kernel, by decide +kernel, by decide +kernel⟩
theorem f4 : s4.2.1.safe.size + s4.2.1.tail.size ≤ 1000 := by decide +kernel
theorem f5 : d5.Fit := ⟨by decide +kernel, by decide +kernel, by decide +kernel⟩
theorem l3 : (0 ≤ s3.1.n ∧ s3.1.n ≤ 1000000) ∧ (0 ≤ s3.1.size ∧ s3.1.size ≤ 1000000000) := by decide +kernel
end Aw

set_option maxRecDepth 100000 in
set_option maxHeartbeats 4000000 in
theorem awake_any (w : World) (ht : Tab w) :
    Calls Tryd.prog 9 #[] w fun e w' => e = .returned (.bool true) ∧ Below w.heap.size w w' := by
  have HT : Hid (Tab w) := ht
  clear ht
  have hf0 : (Dk.new 100).Fit := ⟨by decide, by decide, by decide⟩
  go_enter Tryd.func9, Tryd.ntmps9
  go_wp2_with fail
  refine (dnew2_any 100 _ (by decide) (by decide)).mono ?_; rintro e w1 ⟨b, rfl, hb, hd, hB⟩
  go_wp2_with fail
  refine (lopen_ok b _ Aw.d1 [] 0 w _ hb hB hd hf0 HT.out Aw.o1 (by kernel_rfl) (by kernel_rfl)).mono ?_; rintro e w2 ⟨g, ao, cap, rfl, hL, -, -, -, -, -⟩
  clear hB hd hf0 hb
  go_wp2_with fail
  refine (ladd_any g b _ _ _ 1 [⟨#[97]⟩] _ (hL.alloc _).il (hL.alloc _).id hL.ne (by decide) (by decide) Aw.f1 (by decide) (by decide) (HT.out.below (hL.alloc _).old) (SlAt.newRow _ _ _)).mono ?_; rintro e w3 ⟨rfl, h1, h2, hk⟩
  replace hL : LD w w3 g b Aw.s2.1 Aw.s2.2.1 := (hL.alloc _).next h1 h2 hk
  rw [show ((Lg.mk ([] : List ByteArray).length (0 : Nat) false).add Aw.d1 [⟨#[97]⟩]).2.2 = 0 from Aw.o2]
  clear h1 h2 hk
  go_wp2_with fail
  refine (lsync_any g b _ _ _ hL.il hL.id hL.ne Aw.f2).mono ?_; rintro e w4 ⟨rfl, h1, h2, hk⟩
  replace hL : LD w w4 g b Aw.s3.1 Aw.s3.2.1 := hL.next h1 h2 hk
  rw [show (Aw.s2.1.sync Aw.s2.2.1).2.2 = 0 from Aw.o3]
  clear h1 h2 hk
  go_wp2_with fail
  refine (ladd_any g b _ _ _ 2 [⟨#[98]⟩, ⟨#[99]⟩] _ (hL.alloc _).il (hL.alloc _).id hL.ne (by decide) (by decide) Aw.f3 Aw.l3.1 Aw.l3.2 (HT.out.below (hL.alloc _).old) (SlAt.newRow _ _ _)).mono ?_; rintro e w5 ⟨rfl, h1, h2, hk⟩
  replace hL : LD w w5 g b Aw.s4.1 Aw.s4.2.1 := (hL.alloc _).next h1 h2 hk
  rw [show (Aw.s3.1.add Aw.s3.2.1 [⟨#[98]⟩, ⟨#[99]⟩]).2.2 = 0 from Aw.o4]
  clear h1 h2 hk
  go_wp2_with fail
  refine (dcrash_any b _ 4 _ hL.id (Nat.le_trans Aw.f4 (by decide))).mono ?_; rintro e w6 ⟨rfl, h2, hk⟩
  replace hL : LD w w6 g b Aw.s4.1 Aw.d5 := hL.disk h2 hk
  clear h2 hk
  go_wp2_with fail
  refine (lopen_ok b _ Aw.d6 [⟨#[97]⟩, ⟨#[98]⟩] 8 w _ hL.lb hL.old hL.id Aw.f5 HT.out Aw.o6 Aw.x6 Aw.n6).mono ?_; rintro e w7 ⟨g2, ao2, cap2, rfl, hL2, hcap, hsl, -, -, -⟩
  clear hL
  go_wp2_with fail
  refine (sametexts_any ao2 _ cap2 2 [⟨#[97]⟩, ⟨#[98]⟩] [⟨#[97]⟩, ⟨#[98]⟩] _ (by decide) (hsl.below (bOld _)) (SlAt.newRow _ _ _)).mono ?_; rintro e w8 ⟨rfl, q, rfl⟩
  rw [show decide (([⟨#[97]⟩, ⟨#[98]⟩] : List ByteArray) = [⟨#[97]⟩, ⟨#[98]⟩]) = true from decide_eq_true rfl]
  go_wp2_with fail
  go_ret
  exact ⟨rfl, below_drewN (bNew hL2.old _) q⟩
end Go.Proofs.YtkglfnjgneofdaaDoor
