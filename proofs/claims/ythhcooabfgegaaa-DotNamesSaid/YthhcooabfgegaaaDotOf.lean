/- dot.Of: a node's names. -/
import Derived.Test.YthhcooabfgegaaaPairDelete
import Derived.Test.YthhcooabfgegaaaDotSort
namespace Go.Proofs.Ythhcooabfgegaaa
open Go.RowKit Go.Shelf Go.Lib Go.Sort

/-- Block p holds the number z. -/
def HasZ (p : Nat) (z : Int) (w : World) : Prop := Blk w p #[.int .i64 z] 3

set_option maxRecDepth 100000 in
set_option maxHeartbeats 400000 in
theorem other_any (p : Nat) (z x y : Int) (w : World) (hw : HasZ p z w) :
    Calls Try.prog 41 #[.agg #[.int .i64 x, .int .i64 y], .pointer (some ⟨p, 0, none⟩)] w fun e w' => e = .returned (.bool (!decide (x = z))) ∧ Below w.heap.size w w' := by
  have c0 : (w.alloc (.cells #[.int .i64 x, .int .i64 y] 23)).cell? ⟨p, 0, none⟩ = some (.int .i64 z) := (Blk.alloc hw _).cell 0
  obtain ⟨B, hB⟩ := nm (!decide (x = z))
  rw [← hB.out]
  have hb : (x != z) = B := by
    rw [hB.out]
    by_cases h : x = z <;> simp [h]
  go_enter Try.func41, Try.ntmps41
  go_wp2_with fail
  go_ret
  exact ⟨rfl, bOld _⟩

set_option maxRecDepth 100000 in
set_option maxHeartbeats 400000 in
/-- DeleteFunc of no pair. -/
theorem delete_none (ao : Option Addr) (cap : Nat) (p : Nat) (z : Int) (w : World) (hw : HasZ p z w) :
    Calls Try.prog 42 #[.slice ao 0 cap, .func (.func 41) #[] #[.pointer (some ⟨p, 0, none⟩)]] w fun e w' => e = .returned (.slice ao 0 cap) ∧ Below w.heap.size w w' := by
  have eg : ∀ args w, (callFunc 41 args).run Try.prog w = .ok (.enter 41 args) w := enters_of Try.func41 (by kernel_rfl) rfl
  have hidx := index_any ao [] 0 cap rfl (by decide) (fun x => !decide (x.1 = z)) 41 #[.pointer (some ⟨p, 0, none⟩)] (HasZ p z) (fun w w' h hb => Blk.below h hb h.lt) eg (fun x y w h => other_any p z x y w h) w hw (SlP.nil _ _)
  have HIX := Lib.hid hidx
  clear hidx eg
  go_enter Try.func42, Try.ntmps42
  go_wp2_with fail
  refine HIX.out.mono ?_; rintro e w1 ⟨⟨k, rfl, hcase⟩, hB⟩
  rcases hcase with ⟨rfl, _⟩ | ⟨i, rfl, hi, _⟩
  · go_wp2_with fail
    go_ret
    exact ⟨rfl, hB⟩
  · omega

/-- What dot.Of tells. -/
def ofD (l : List (Int × Int)) (z : Int) : List (Int × Int) := l.filter fun p => decide (p.1 = z)
theorem ofD_length (l : List (Int × Int)) (z : Int) : (ofD l z).length ≤ l.length := List.length_filter_le _ _
def OfTells (ps : List (Int × Int)) (z : Int) (w : World) (e : Ending) (w' : World) : Prop :=
  ∃ ao cap, e = .returned (.slice ao (ofD ps z).length cap) ∧ (ofD ps z).length ≤ cap ∧ SlP w' ao (ofD ps z) ∧ (ao = none → (ofD ps z).length = 0) ∧ Below w.heap.size w w'

set_option maxRecDepth 100000 in
set_option maxHeartbeats 1000000 in
theorem of_any (ao : Option Addr) (ps : List (Int × Int)) (n cap : Nat) (hn : ps.length = n) (hcap : n ≤ cap) (z : Int) (w : World) (hs : SlP w ao ps) (hm : n ≤ 1000000000) :
    Calls Try.prog 16 #[.slice ao n cap, .int .i64 z] w (OfTells ps z w) := by
  have eg : ∀ args w, (callFunc 41 args).run Try.prog w = .ok (.enter 41 args) w := enters_of Try.func41 (by kernel_rfl) rfl
  have EG := Lib.hid eg
  have hno : ao = none → n = 0 := by
    rintro rfl
    rw [← hn]; exact hs.none_len
  have HNO := Lib.hid hno
  have hZ : HasZ w.heap.size z (w.alloc (.cells #[.int .i64 z] 3)) := Blk.new _ _ _
  have HZ := Lib.hid hZ
  have HS := Lib.hid (hs.below (bOld (w := w) (.cells #[.int .i64 z] 3)))
  have HN := Lib.hid hn
  clear hs eg hno hZ hn
  go_enter Try.func16, Try.ntmps16
  go_wp2_with fail
  refine (clone_any ao ps n n HN.out _ HS.out (by omega) HNO.out).mono ?_; rintro e w1 ⟨v, rfl, hO, hB⟩
  have hZ1 : HasZ w.heap.size z w1 := Blk.below HZ.out hB HZ.out.lt
  have hlt := HZ.out.lt
  have hB1 := bNext (bOld (w := w) (.cells #[.int .i64 z] 3)) hB
  by_cases hz : n = 0
  · subst hz
    obtain rfl := List.length_eq_zero_iff.1 HN.out
    obtain ⟨ao2, cap2, rfl, hc, _, _, ha⟩ := hO.sl
    have HZ1 := Lib.hid hZ1
    clear hO hZ1 hlt
    go_wp2_with fail
    refine (delete_none _ _ _ z _ HZ1.out).mono ?_; rintro e w2 ⟨rfl, hB2⟩
    go_wp2_with fail
    go_ret
    exact ⟨ao2, cap2, rfl, Nat.zero_le _, SlP.nil _ _, fun _ => rfl, bNext hB1 hB2⟩
  · obtain ⟨g, cap2, rfl, hg, hgl, hc, hcm, hH⟩ := HoldsD.ofOwn hO (by
      rintro rfl
      rcases hO.2 with ⟨_, h⟩ | ⟨_, _, _, h, _⟩
      · exact hz (HN.out.symm.trans h)
      · cases h)
    rw [HN.out] at hc
    have hne : w.heap.size ≠ g := by simp at hg; omega
    have hdel := delete_any g cap2 ps n HN (by omega) hc hcm (fun x => !decide (x.1 = z)) 41 #[.pointer (some ⟨w.heap.size, 0, none⟩)] (HasZ w.heap.size z)
      (fun w1 w2 h hk => hk.blk h hne) EG.out (fun x y w' h => other_any _ z x y w' h) w1 hZ1 hH hgl
    have hf : (ps.filter fun x => !(fun x : Int × Int => !decide (x.1 = z)) x) = ofD ps z := by simp [ofD]
    rw [hf] at hdel
    have HD := Lib.hid hdel
    have HLE : Hid ((ofD ps z).length ≤ cap2) := by
      show _ ≤ _
      have := ofD_length ps z
      rw [HN.out] at this; omega
    clear hO hH hdel hZ1 hlt hf
    rw [show (Value.slice (some ⟨g, 0, none⟩) ps.length cap2) = (Value.slice (some ⟨g, 0, none⟩) n cap2) from by rw [HN.out]]
    go_wp2_with fail
    refine HD.out.mono ?_; rintro e w2 ⟨rfl, hsl, hK⟩
    go_wp2_with fail
    go_ret
    refine ⟨some ⟨g, 0, none⟩, cap2, rfl, HLE.out, hsl, (fun h => by cases h), hB1.trans (hK.below (by simp at hg; omega) hB1.size)⟩
end Go.Proofs.Ythhcooabfgegaaa
