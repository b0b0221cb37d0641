/- A block whose cells are known whole; what stays of old memory where one block is written. No program in sight. -/
import Derived.WalkKit
import Derived.WalkLawsBesides
import Derived.Deep.Draws
namespace Go.Proofs.Ytfpjdmplepepjaa
open Go.RowKit

/-- Block b has these cells, none of them frozen. -/
def Blk (w : World) (b : Nat) (c : Array Value) (t : TypeId) : Prop := w.heap[b]? = some (.cells c t (0, 0))

theorem Blk.cell {w : World} {b : Nat} {c : Array Value} {t : TypeId} (h : Blk w b c t) (i : Nat) : w.cell? ⟨b, i, none⟩ = c[i]? := by
  unfold Blk at h; simp [World.cell?, h]
theorem Blk.free {w : World} {b : Nat} {c : Array Value} {t : TypeId} (h : Blk w b c t) (i : Nat) : w.frozen? ⟨b, i, none⟩ = false := by
  unfold Blk at h; simp [World.frozen?, h]
theorem Blk.lt {w : World} {b : Nat} {c : Array Value} {t : TypeId} (h : Blk w b c t) : b < w.heap.size := lt_of_block h
theorem Blk.set {w : World} {b : Nat} {c : Array Value} {t : TypeId} (h : Blk w b c t) (i : Nat) (v : Value) : Blk (w.setCell ⟨b, i, none⟩ v) b (c.setIfInBounds i v) t := by
  have hlt := h.lt
  have h' : w.heap[b] = .cells c t (0, 0) := by unfold Blk at h; simpa [Array.getElem?_eq_getElem hlt] using h
  show (w.heap.modify b _)[b]? = _
  rw [Array.getElem?_eq_getElem (by simpa using hlt), Array.getElem_modify_self, h']
  rfl
theorem Blk.setOther {w : World} {b : Nat} {c : Array Value} {t : TypeId} (h : Blk w b c t) {a : Addr} (ha : b ≠ a.block) (v : Value) : Blk (w.setCell a v) b c t :=
  (Below.heap_setCell w a v b ha).trans h
theorem Blk.alloc {w : World} {b : Nat} {c : Array Value} {t : TypeId} (h : Blk w b c t) (o : Obj) : Blk (w.alloc o) b c t :=
  (Below.heap_alloc w o b h.lt).trans h
theorem Blk.drew {w : World} {b : Nat} {c : Array Value} {t : TypeId} (h : Blk w b c t) : Blk w.drew b c t := h
theorem Blk.drewN {w : World} {b : Nat} {c : Array Value} {t : TypeId} (h : Blk w b c t) (n : Nat) : Blk (w.drewN n) b c t := h
theorem Blk.new (w : World) (c : Array Value) (t : TypeId) : Blk (w.alloc (.cells c t)) w.heap.size c t := by
  show (w.heap.push _)[w.heap.size]? = _
  simp
theorem Blk.below {w w' : World} {b : Nat} {c : Array Value} {t : TypeId} (h : Blk w b c t) {B : Nat} (hb : Below B w w') (hB : b < B) : Blk w' b c t := (hb.block b hB).trans h

/-- Of what was there only block b may have turned. -/
structure Kept (b : Nat) (w w' : World) : Prop where
  os : w'.os = w.os
  tape : w'.tape = w.tape
  output : w'.output = w.output
  size : w.heap.size ≤ w'.heap.size
  block : ∀ k, k < w.heap.size → k ≠ b → w'.heap[k]? = w.heap[k]?

theorem Kept.refl (b : Nat) (w : World) : Kept b w w := ⟨rfl, rfl, rfl, Nat.le_refl _, fun _ _ _ => rfl⟩
theorem Kept.trans {b : Nat} {w v u : World} (h : Kept b w v) (k : Kept b v u) : Kept b w u :=
  ⟨k.os.trans h.os, k.tape.trans h.tape, k.output.trans h.output, Nat.le_trans h.size k.size, fun i hi hb => (k.block i (Nat.lt_of_lt_of_le hi h.size) hb).trans (h.block i hi hb)⟩
theorem Kept.drew {b : Nat} {w v : World} (h : Kept b w v) : Kept b w v.drew := ⟨h.os, h.tape, h.output, h.size, h.block⟩
theorem Kept.drewN {b : Nat} {w v : World} (h : Kept b w v) (n : Nat) : Kept b w (v.drewN n) := ⟨h.os, h.tape, h.output, h.size, h.block⟩
theorem Kept.alloc {b : Nat} {w v : World} (h : Kept b w v) (o : Obj) : Kept b w (v.alloc o) :=
  h.trans ⟨rfl, rfl, rfl, by simp, fun k hk _ => Below.heap_alloc _ _ _ hk⟩
theorem Kept.set {b : Nat} {w v : World} (h : Kept b w v) (i : Nat) (u : Value) : Kept b w (v.setCell ⟨b, i, none⟩ u) :=
  h.trans ⟨rfl, rfl, rfl, by simp [World.setCell], fun k _ hb => Below.heap_setCell _ _ _ _ hb⟩
theorem Kept.setNew {b : Nat} {w v : World} (h : Kept b w v) {a : Addr} (ha : w.heap.size ≤ a.block) (u : Value) : Kept b w (v.setCell a u) :=
  ⟨h.os, h.tape, h.output, by simpa [World.setCell] using h.size, fun k hk hb => (Below.heap_setCell _ _ _ _ (by omega)).trans (h.block k hk hb)⟩
theorem Kept.ofBelow {b : Nat} {w v : World} (h : Below w.heap.size w v) : Kept b w v := ⟨h.os, h.tape, h.output, h.size, fun k hk _ => h.block k hk⟩
theorem Kept.below {b : Nat} {w v : World} (h : Kept b w v) {B : Nat} (hB : B ≤ b) (hs : B ≤ w.heap.size) : Below B w v :=
  ⟨h.os, h.tape, h.output, h.size, fun k hk => h.block k (by omega) (by omega)⟩
theorem Kept.blk {b b' : Nat} {w v : World} {c : Array Value} {t : TypeId} (h : Kept b w v) (hk : Blk w b' c t) (hne : b' ≠ b) : Blk v b' c t := (h.block b' hk.lt hne).trans hk
end Go.Proofs.Ytfpjdmplepepjaa
