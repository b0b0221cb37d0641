/- What adding and opening come to; a law's own lists beside its logs. -/
import Derived.Test.YtkglfnjgneofdaaDoorLogAwake
namespace Go.Proofs.YtkglfnjgneofdaaDoor
open Go.RowKit

theorem joinF_ge : ∀ l : List (List UInt8), l.length ≤ (joinF l).length
  | [] => Nat.le_refl _
  | b :: l => by
    have h1 := joinF_ge l
    have h2 := frame_length b
    rw [joinF_cons, List.length_append, List.length_cons]
    omega
/-- The bytes of some records. -/
def recB (rs : List ByteArray) : ByteArray := ofL (joinF (rs.map bl))
theorem recB_append (a b : List ByteArray) : recB (a ++ b) = recB a ++ recB b := by
  rw [recB, recB, recB, ofL_append, List.map_append]
  congr 1
  simp [joinF]
theorem recB_nil : recB [] = ⟨#[]⟩ := rfl
theorem recB_size (rs : List ByteArray) (h : ∀ r ∈ rs, r.size ≤ 20) : (recB rs).size ≤ 23 * rs.length := by
  induction rs with
  | nil => exact Nat.le_refl _
  | cons r rs ih =>
    have h1 := ih (fun x hx => h x (by simp [hx]))
    have h2 := frame_length (bl r)
    have h3 := h r (by simp)
    rw [bl_length, nd_one (by omega)] at h2
    have e : recB (r :: rs) = ofL (frameL (bl r)) ++ recB rs := by rw [recB, recB, List.map_cons, joinF_cons, ofL_append]
    rw [e, app_size, ofL_size, List.length_cons]
    omega
theorem frames_fine (rs : List ByteArray) (h : ∀ r ∈ rs, r.size ≤ 8000) : framesB rs = recB rs ∧ framesE rs = 0 := by
  have e : rs.all (fun r => decide (r.size ≤ 8000)) = true := List.all_eq_true.2 fun r hr => by simpa using h r hr
  rw [framesB, framesE, e]
  exact ⟨rfl, rfl⟩

theorem add_fine (n sz : Int) (safe tail : ByteArray) (room st left : Int) (rs : List ByteArray) (h : ∀ r ∈ rs, r.size ≤ 8000) (h0 : rs ≠ []) (hr : (safe.size : Int) + tail.size + (recB rs).size ≤ room) :
    (Lg.mk n sz false).add ⟨safe, tail, room, st, true, false, left⟩ rs = (⟨n + rs.length, sz + (recB rs).size, false⟩, ⟨safe, tail ++ recB rs, room, st + 1, true, false, left⟩, 0) := by
  obtain ⟨h1, h2⟩ := frames_fine rs h
  have h3 : rs.length ≠ 0 := by simpa using h0
  have ha : (Dk.mk safe tail room st true false left).append (recB rs) = (⟨safe, tail ++ recB rs, room, st + 1, true, false, left⟩, 0) := append_free _ _ rfl rfl (by simp only; omega)
  rw [Lg.add, if_neg (by simp), Lg.addP, h1, h2, ha, if_neg (by simp), if_neg h3, if_pos rfl]
  rfl
theorem add_none (n sz : Int) (d : Dk) : (Lg.mk n sz false).add d [] = (⟨n, sz, false⟩, d, 0) := rfl

theorem open_frames (d : Dk) (rs : List ByteArray) (h : ∀ r ∈ rs, r.size ≤ 8000) (hs : d.safe ++ d.tail = recB rs) (h1 : d.on = true) (h2 : d.armed = false) (h3 : 0 ≤ d.room) :
    d.open = ({ d with safe := d.safe ++ d.tail, tail := ⟨#[]⟩, steps := d.steps + 1 }, 0) ∧ allB (d.safe ++ d.tail) = rs ∧ allN (d.safe ++ d.tail) = (d.safe ++ d.tail).size := by
  have hA : allL (bl (d.safe ++ d.tail)) = (rs.map bl, (d.safe ++ d.tail).size) := by
    rw [hs, recB, bl_ofL, allL, allF_join _ _ (by have := joinF_ge (rs.map bl); omega) (fun b hb => by
      obtain ⟨r, hr, rfl⟩ := List.mem_map.1 hb
      rw [bl_length]; exact h r hr), ofL_size]
  have hB : allB (d.safe ++ d.tail) = rs := by
    rw [allB, hA]
    simp only [List.map_map]
    exact (List.map_congr_left (fun r _ => ofL_bl r)).trans (List.map_id _)
  have hN : allN (d.safe ++ d.tail) = (d.safe ++ d.tail).size := by rw [allN, hA]
  have h1' : d.open1 = (d, 0) := by rw [Dk.open1, hN, if_neg (Nat.lt_irrefl _)]
  refine ⟨?_, hB, hN⟩
  rw [Dk.open, h1', if_pos rfl]
  exact sync_free _ h1 h2 h3

theorem own_kept2 {w w' : World} {base : Nat} {e : TypeId} {sz : Nat} {v : Value} {n : Nat} {xs : List Value} {b c : Nat} (h : w.ownsRow base e sz v n xs) (hk : Kept2 b c w w') (hb : b < base) (hc : c < base) : w'.ownsRow base e sz v n xs := by
  obtain ⟨h1, h2⟩ := h
  refine ⟨h1, ?_⟩
  rcases h2 with h2 | ⟨g, cap, cur, e1, e2, e3, e4⟩
  · exact .inl h2
  · exact .inr ⟨g, cap, cur, e1, e2, (hk.block g (lt_of_block e3) (by omega) (by omega)).trans e3, e4⟩
theorem grown_blk {w w' : World} {row : Option Nat} (hg : w.grownBy w' row) {k : Nat} {c : Array Value} {t : TypeId} (hk : Blk w k c t) (hne : some k ≠ row) : Blk w' k c t := (hg.block k hk.lt hne).trans hk

section
variable {w wr w2 : World} {g b g2 b2 : Nat} {l l1 l2 : Lg} {d d1 d2 : Dk}
theorem LD.grown {base : Nat} {row : Option Nat} {o : Obj} (h : LD w wr g b l d) (hg : (wr.alloc o).grownBy w2 row) (hrow : ∀ k, row = some k → base ≤ k) (hgb : g < base) (hbb : b < base) (hw : w.heap.size ≤ base) : LD w w2 g b l d :=
  ⟨h.ne, h.lg, h.lb, grown_blk hg (h.il.alloc o) (fun e => by have := hrow g e.symm; omega), grown_blk hg (h.id.alloc o) (fun e => by have := hrow b e.symm; omega),
    (h.old.alloc h.old.size o).grown hg (Nat.le_trans h.old.size (by simp)) (fun k hk => Nat.le_trans hw (hrow k hk))⟩
/-- Another log, which lies elsewhere, stays. -/
theorem LD.apart (h : LD w wr g b l d) (hk : Kept2 g2 b2 wr w2) (h1 : g ≠ g2) (h2 : g ≠ b2) (h3 : b ≠ g2) (h4 : b ≠ b2) (hg : w.heap.size ≤ g2) (hb : w.heap.size ≤ b2) : LD w w2 g b l d :=
  ⟨h.ne, h.lg, h.lb, hk.blk h.il h1 h2, hk.blk h.id h3 h4, h.old.trans (hk.below hg hb h.old.size)⟩
end

theorem fit_of {safe tail : ByteArray} {room st left : Int} {on armed : Bool} (h1 : safe.size + tail.size ≤ 1000000) (h2 : 0 ≤ st ∧ st ≤ 1000000) (h3 : 0 ≤ left ∧ left ≤ 9223372036854775807) : (Dk.mk safe tail room st on armed left).Fit := ⟨h1, h2, h3⟩

theorem dbytes_is (b : Nat) (d : Dk) (S : ByteArray) (w : World) (hd : IsDk w b d) (hS : d.safe ++ d.tail = S) (hs : S.size ≤ 4611686018427387904) :
    Calls Tryd.prog 17 #[.pointer (some ⟨b, 0, none⟩)] w fun e w' => e = .returned (.string S) ∧ ∃ n, w' = w.drewN n := by
  subst hS
  exact dbytes_any b d w hd (by rw [app_size] at hs; exact hs)

/-- The law's records, cut short. -/
def cut20 (n : Nat) (ss : List ByteArray) : List ByteArray := (ss.take n).map (cutB · 20)
theorem cut20_le (n : Nat) (ss : List ByteArray) : ∀ r ∈ cut20 n ss, r.size ≤ 20 := by
  intro r hr
  obtain ⟨x, _, rfl⟩ := List.mem_map.1 hr
  exact cutB_le x 20
theorem cut20_len (n : Nat) (ss : List ByteArray) : (cut20 n ss).length = min n ss.length := by rw [cut20, List.length_map, List.length_take]
theorem cut20_get (n : Nat) (ss : List ByteArray) (k : Nat) (h : k < (cut20 n ss).length) (h2 : k < ss.length) : (cut20 n ss)[k] = cutB ss[k] 20 := by
  simp [cut20]
end Go.Proofs.YtkglfnjgneofdaaDoor
