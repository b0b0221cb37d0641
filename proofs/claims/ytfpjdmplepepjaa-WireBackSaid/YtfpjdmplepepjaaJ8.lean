/- The document's reader of a number is the program's. No program in sight. (and what stands on it: 11 texts in one) -/
import Derived.Laws.AppendOwnNone
import Derived.Outline
import Derived.OwnWalk
import Derived.Deep.AppendLies
import Derived.Test.YtfpjdmplepepjaaJ1
import Derived.Test.YtfpjdmplepepjaaJ3
import Derived.Test.YtfpjdmplepepjaaJ2
import Derived.Test.YtfpjdmplepepjaaJ5
import Derived.Test.YtfpjdmplepepjaaJ6
import Derived.Test.YtfpjdmplepepjaaJ4
import Derived.Test.YtfpjdmplepepjaaJ7
/-! PlainR: The document's reader of a number is the program's. No program in sight. -/
namespace Go.Proofs.Ytfpjdmplepepjaa.Pl

/-- What is read is a number's digits. -/
theorem rdG_is : ∀ (f : Nat) (first : Bool) (m : Nat) (l : List UInt8) (n : Nat) (r : List UInt8), rdG f first m l = some (n, r) →
    ∃ k, k + 1 ≤ f ∧ m = n / 128 ^ (k + 1) ∧ l = dg k (n / 128) ++ UInt8.ofNat (n % 128) :: r ∧ (first = true → k = 0 ∨ n / 128 ^ k % 128 ≠ 0)
  | 0, _, _, _, _, _, h => by cases h
  | f + 1, _, _, [], _, _, h => by cases h
  | f + 1, first, m, c :: l, n, r, h => by
    rw [rdG] at h
    have hc := c.toNat_lt
    split at h
    · cases h
    · rename_i hb
      split at h
      · rename_i hc2
        have hc3 : c.toNat < 128 := by rw [UInt8.lt_iff_toNat_lt] at hc2; exact hc2
        cases h
        refine ⟨0, by omega, by omega, ?_, fun _ => .inl rfl⟩
        have e : (m * 128 + c.toNat % 128) % 128 = c.toNat := by omega
        rw [e]
        simp [dg]
      · rename_i hc2
        have hc3 : 128 ≤ c.toNat := by
          rcases Nat.lt_or_ge c.toNat 128 with h' | h'
          · exact absurd (UInt8.lt_iff_toNat_lt.2 h') hc2
          · exact h'
        obtain ⟨k, h1, h2, h3, _⟩ := rdG_is f false _ l n r h
        have e0 : n / 128 / 128 ^ k = n / 128 ^ (k + 1) := by rw [Nat.div_div_eq_div_mul, Nat.pow_succ, Nat.mul_comm]
        have e1 : n / 128 ^ (k + 1 + 1) = n / 128 ^ (k + 1) / 128 := by rw [Nat.div_div_eq_div_mul, Nat.pow_succ]
        refine ⟨k + 1, by omega, by rw [e1, ← h2]; omega, ?_, fun hf => .inr ?_⟩
        · rw [dg, e0, ← h2, List.cons_append, ← h3]
          congr 1
          have e : 128 + (m * 128 + c.toNat % 128) % 128 = c.toNat := by omega
          rw [e]
          simp
        · rw [← h2]
          intro h0
          apply hb
          right
          refine ⟨hf, UInt8.toNat_inj.1 ?_⟩
          show c.toNat = 128
          omega

theorem rdNum_is (l : List UInt8) (n : Nat) (r : List UInt8) (hn : n < 18446744073709551616) (h : rdNum l = some (n, r)) : l = num n ++ r := by
  obtain ⟨k, h1, h2, h3, h4⟩ := rdG_is 10 true 0 l n r h
  have hk : k + 1 = nd n := by
    refine nd_unique n (k + 1) hn (by omega) ?_ ?_
    · rcases Nat.lt_or_ge n (128 ^ (k + 1)) with h5 | h5
      · exact h5
      · have : 1 ≤ n / 128 ^ (k + 1) := by rw [Nat.le_div_iff_mul_le (Nat.pow_pos (by decide))]; omega
        omega
    · rcases h4 rfl with h5 | h5
      · left; omega
      · right
        rw [Nat.add_sub_cancel]
        rcases Nat.lt_or_ge n (128 ^ k) with h6 | h6
        · rw [Nat.div_eq_of_lt h6] at h5; exact absurd rfl h5
        · exact h6
  rw [h3, num, ← hk, Nat.add_sub_cancel]
  simp

/-- Without the first digit's test as much is read. -/
theorem rdG_false : ∀ (f : Nat) (m : Nat) (l : List UInt8) (x : Nat × List UInt8), rdG f true m l = some x → rdG f false m l = some x
  | 0, _, _, _, h => by cases h
  | f + 1, _, [], _, h => by cases h
  | f + 1, m, c :: l, x, h => by
    rw [rdG] at h ⊢
    split at h
    · cases h
    · rename_i hb
      rw [if_neg (by intro h'; rcases h' with h' | ⟨h', _⟩; exact hb (.inl h'); cases h')]
      exact h

/-- The document's: it reads on, and then holds what it read against the number's bytes. -/
theorem ref_reads (l : List UInt8) (hb : ∀ n r, rdG 10 false 0 l = some (n, r) → n < 18446744073709551616) : rdNum l = match rdG 10 false 0 l with
    | some (n, r) => if num n = l.take (l.length - r.length) then some (n, r) else none
    | none => none := by
  cases h : rdG 10 false 0 l with
  | none =>
    simp only
    cases h2 : rdNum l with
    | none => rfl
    | some x => rw [rdG_false 10 0 l x h2] at h; cases h
  | some x =>
    obtain ⟨n, r⟩ := x
    have hn := hb n r h
    simp only
    obtain ⟨k, _, _, h3, _⟩ := rdG_is 10 false 0 l n r h
    split
    · rename_i he
      have h5 : l = l.take (l.length - r.length) ++ r := by
        have hlen : l.length - r.length = (dg k (n / 128) ++ [UInt8.ofNat (n % 128)]).length := by rw [h3]; simp; omega
        rw [hlen]
        have h6 : l = (dg k (n / 128) ++ [UInt8.ofNat (n % 128)]) ++ r := by rw [h3]; simp
        conv => rhs; rw [h6, List.take_left]
        exact h6
      rw [← he] at h5
      rw [h5]
      exact rd_num n hn r
    · rename_i he
      cases h2 : rdNum l with
      | none => rfl
      | some x =>
        obtain ⟨n2, r2⟩ := x
        have h4 := rdG_false 10 0 l _ h2
        rw [h] at h4
        cases h4
        exfalso
        apply he
        have h5 := rdNum_is l n r hn h2
        rw [h5]
        simp
end Go.Proofs.Ytfpjdmplepepjaa.Pl

/-! WRed: What a reader reads, as what stands there. No program in sight. -/
namespace Go.Proofs.Ytfpjdmplepepjaa
open Go.RowKit

/-- Behind r stands an x that is so, and r' stands behind it; or r' is torn, and no such stands there. -/
def Red {α : Type} (P : α → Prop) (f : α → List UInt8) (r r' : Rd) (x : α) : Prop :=
  (r'.torn = false ∧ r.torn = false ∧ P x ∧ bl r.left = f x ++ bl r'.left) ∨ (r'.torn = true ∧ ∀ y t, r.torn = false → P y → bl r.left ≠ f y ++ t)
section
variable {α β : Type} {P : α → Prop} {f : α → List UInt8} {r r' r'' : Rd} {x : α}
theorem Red.iff {P' : α → Prop} (h : Red P f r r' x) (hp : ∀ y, P y ↔ P' y) : Red P' f r r' x := by
  rcases h with ⟨h1, h2, h3, h4⟩ | ⟨h1, h2⟩
  · exact .inl ⟨h1, h2, (hp x).1 h3, h4⟩
  · exact .inr ⟨h1, fun y t ht hy => h2 y t ht ((hp y).2 hy)⟩
/-- As another kind of thing. -/
theorem Red.map {P' : β → Prop} {f' : β → List UInt8} (u : α → β) (v : β → α) (h : Red P f r r' x) (h1 : ∀ y, P y → P' (u y) ∧ f' (u y) = f y) (h2 : ∀ z, P' z → P (v z) ∧ f (v z) = f' z) : Red P' f' r r' (u x) := by
  rcases h with ⟨g1, g2, g3, g4⟩ | ⟨g1, g2⟩
  · exact .inl ⟨g1, g2, (h1 x g3).1, by rw [(h1 x g3).2]; exact g4⟩
  · exact .inr ⟨g1, fun y t ht hy => by rw [← (h2 y hy).2]; exact g2 (v y) t ht (h2 y hy).1⟩
theorem Red.torn (h : Red P f r r' x) (ht : r.torn = true) : r'.torn = true := by
  rcases h with ⟨_, h2, _⟩ | ⟨h1, _⟩
  · rw [ht] at h2; cases h2
  · exact h1
theorem Red.is (h : Red P f r r' x) (ht : r'.torn = false) : r.torn = false ∧ P x ∧ bl r.left = f x ++ bl r'.left := by
  rcases h with ⟨_, h2⟩ | ⟨h1, _⟩
  · exact h2
  · rw [ht] at h1; cases h1
theorem Red.none (h : Red P f r r' x) (ht : r'.torn = true) : ∀ y t, r.torn = false → P y → bl r.left ≠ f y ++ t := by
  rcases h with ⟨h1, _⟩ | ⟨_, h2⟩
  · rw [ht] at h1; cases h1
  · exact h2
/-- One thing, and another one behind it. -/
theorem Red.seq {Q : β → Prop} {g : β → List UInt8} {y : β} (h : Red P f r r' x) (k : Red Q g r' r'' y) (ht : Tells P f) : Red (fun p : α × β => P p.1 ∧ Q p.2) (fun p => f p.1 ++ g p.2) r r'' (x, y) := by
  rcases h with ⟨h1, h2, h3, h4⟩ | ⟨h1, h2⟩
  · rcases k with ⟨k1, _, k3, k4⟩ | ⟨k1, k2⟩
    · exact .inl ⟨k1, h2, ⟨h3, k3⟩, by rw [h4, k4, List.append_assoc]⟩
    · refine .inr ⟨k1, fun z t _ hz e => ?_⟩
      rw [h4, List.append_assoc] at e
      obtain ⟨_, e2⟩ := ht _ _ _ _ h3 hz.1 e
      exact k2 z.2 t h1 hz.2 e2
  · refine .inr ⟨k.torn h1, fun z t hr hz e => ?_⟩
    simp only [List.append_assoc] at e
    exact h2 z.1 _ hr hz.1 e
/-- What is read may be. -/
theorem Red.pass {C : α → Prop} (h : Red P f r r' x) (hc : r'.torn = false → C x) : Red (fun y => P y ∧ C y) f r r' x := by
  rcases h with ⟨h1, h2, h3, h4⟩ | ⟨h1, h2⟩
  · exact .inl ⟨h1, h2, ⟨h3, hc h1⟩, h4⟩
  · exact .inr ⟨h1, fun y t ht hy => h2 y t ht hy.1⟩
/-- It may not, or nothing was read. -/
theorem Red.fail {C : α → Prop} {z : α} (h : Red P f r r' x) (ht : Tells P f) (hc : r'.torn = true ∨ ¬ C x) (hr : r''.torn = true) : Red (fun y => P y ∧ C y) f r r'' z := by
  refine .inr ⟨hr, fun y t hr hy e => ?_⟩
  rcases h with ⟨h1, h2, h3, h4⟩ | ⟨h1, h2⟩
  · rcases hc with hc | hc
    · rw [h1] at hc; cases hc
    · rw [h4] at e
      obtain ⟨e1, _⟩ := ht _ _ _ _ h3 hy.1 e
      exact hc (e1 ▸ hy.2)
  · exact h2 y t hr hy.1 e
/-- Torn already: whatever it says. -/
theorem Red.any {z : α} (h : Red P f r r' x) (ht : r'.torn = true) (hr : r''.torn = true) : Red P f r r'' z := .inr ⟨hr, h.none ht⟩
end
theorem Tells.sub {α : Type} {P Q : α → Prop} {f : α → List UInt8} (h : Tells P f) (hq : ∀ x, Q x → P x) : Tells Q f := fun x y r t hx hy e => h x y r t (hq x hx) (hq y hy) e
theorem Tells.seq {α β : Type} {P : α → Prop} {Q : β → Prop} {f : α → List UInt8} {g : β → List UInt8} (h : Tells P f) (k : Tells Q g) : Tells (fun p : α × β => P p.1 ∧ Q p.2) (fun p => f p.1 ++ g p.2) := by
  rintro ⟨x1, x2⟩ ⟨y1, y2⟩ r t ⟨hx1, hx2⟩ ⟨hy1, hy2⟩ e
  simp only [List.append_assoc] at e
  obtain ⟨e1, e⟩ := h _ _ _ _ hx1 hy1 e
  obtain ⟨e2, e⟩ := k _ _ _ _ hx2 hy2 e
  exact ⟨by rw [show x1 = y1 from e1, show x2 = y2 from e2], e⟩

/-! ### Numbers, texts -/
def In (most z : Int) : Prop := 0 ≤ z ∧ z ≤ most
def numZ (z : Int) : List UInt8 := Pl.num z.toNat
theorem tells_in {most : Int} (h : most ≤ 9223372036854775807) : Tells (In most) numZ := Tells.sub tells_num fun x hx => ⟨hx.1, by have := hx.2; omega⟩
theorem red_int (r : Rd) (most : Int) (hm : most ≤ 9223372036854775807) : Red (In most) numZ r (r.int most).1 ((r.int most).2 : Int) := by
  obtain ⟨s, t⟩ := r
  cases t
  rotate_left
  · refine .inr ⟨?_, fun _ _ h => by cases h⟩
    unfold Rd.int
    split
    · rfl
    · rfl
  unfold Rd.int
  have hn : (Rd.mk s false).num = match Pl.rdNum (bl s) with | some (n, l) => (⟨ofL l, false⟩, n) | none => (⟨s, true⟩, 0) := rfl
  rw [hn]
  cases hq : Pl.rdNum (bl s) with
  | none =>
    simp only
    have key : ∀ y t, In most y → bl s ≠ numZ y ++ t := by
      intro y t hy e
      rw [e, numZ, Pl.rd_num _ (by have := hy.2; have := hy.1; omega)] at hq
      cases hq
    split
    · exact .inr ⟨rfl, fun y t _ hy => key y t hy⟩
    · exact .inr ⟨rfl, fun y t _ hy => key y t hy⟩
  | some q =>
    obtain ⟨n, l⟩ := q
    have hlt := (Pl.rdG_lt _ _ _ _ _ _ hq).1
    have his := Pl.rdNum_is _ _ _ hlt hq
    simp only
    split
    · rename_i hc
      refine .inr ⟨rfl, fun y t _ hy e => ?_⟩
      simp only at e
      rw [his] at e
      have h1 := hy.1
      have h2 := hy.2
      obtain ⟨e1, _⟩ := Pl.num_inj hlt (by omega) e
      rcases hc with hc | hc
      · omega
      · rw [e1] at hc; omega
    · rename_i hc
      refine .inl ⟨rfl, rfl, ⟨by omega, by omega⟩, ?_⟩
      show bl s = numZ n ++ bl (ofL l)
      rw [his, bl_ofL]; rfl
def Tx (most : Int) (s : ByteArray) : Prop := (s.size : Int) ≤ most
def textZ (s : ByteArray) : List UInt8 := textL (bl s)
theorem tells_tx {most : Int} (h : most ≤ 1000000) : Tells (Tx most) textZ := Tells.sub tells_text fun x (hx : (x.size : Int) ≤ most) => by omega
theorem red_text (r : Rd) (most : Int) (hm : most ≤ 1000000) : Red (Tx most) textZ r (r.text most).1 (r.text most).2 := by
  have hi := red_int r most (by omega)
  unfold Rd.text
  obtain ⟨q, hq⟩ := nm (r.int most).1
  obtain ⟨n, hn⟩ := nm (r.int most).2
  rw [← hq.out, ← hn.out] at hi ⊢
  have key : (q.torn = true ∨ q.left.size < n) → ∀ y t, r.torn = false → Tx most y → bl r.left ≠ textZ y ++ t := by
    intro hc y t hr hy e
    have hy2 : (y.size : Int) ≤ most := hy
    have e' : bl r.left = numZ (y.size : Int) ++ (bl y ++ t) := by
      rw [e, textZ, textL, bl_length, List.append_assoc]; rfl
    rcases hi with ⟨h1, h2, h3, h4⟩ | ⟨h1, h2⟩
    · rcases hc with hc | hc
      · rw [h1] at hc; cases hc
      · rw [h4] at e'
        obtain ⟨e1, e2⟩ := tells_in (most := most) (by omega) _ _ _ _ h3 ⟨by omega, hy2⟩ e'
        have e3 : q.left.size = y.size + t.length := by rw [← bl_length, e2, List.length_append, bl_length]
        omega
    · exact h2 (y.size : Int) _ hr ⟨by omega, hy2⟩ e'
  split
  · rename_i hc
    exact .inr ⟨rfl, key hc⟩
  · rename_i hc
    have hqt : q.torn = false := by
      cases h : q.torn with
      | false => rfl
      | true => exact absurd (.inl h) hc
    have hsz : n ≤ q.left.size := by
      rcases Nat.lt_or_ge q.left.size n with h | h
      · exact absurd (.inr h) hc
      · exact h
    obtain ⟨h1, h2, h3⟩ := hi.is hqt
    have e1 : (q.left.extract 0 n).size = n := by rw [← bl_length, bl_extract, List.drop_zero, Nat.sub_zero, List.length_take, bl_length]; omega
    refine .inl ⟨rfl, h1, by show ((q.left.extract 0 n).size : Int) ≤ most; rw [e1]; exact h2.2, ?_⟩
    rw [h3]
    show Pl.num n ++ bl q.left = (Pl.num (bl (q.left.extract 0 n)).length ++ bl (q.left.extract 0 n)) ++ bl (q.left.extract n q.left.size)
    rw [bl_length, e1, List.append_assoc, bl_extract, bl_extract, List.drop_zero, Nat.sub_zero]
    rw [List.take_of_length_le (l := (bl q.left).drop n) (by rw [List.length_drop, bl_length]; exact Nat.le_refl _), List.take_append_drop]

/-! ### Rows -/
/-- k of n were read, from q on: zs; or torn, and no n stand there. -/
def RedN {α : Type} (P : α → Prop) (f : α → List UInt8) (n : Nat) (q : Rd) (k : Nat) (r : Rd) (zs : List α) : Prop :=
  zs.length = k ∧ ((r.torn = false ∧ q.torn = false ∧ (∀ z ∈ zs, P z) ∧ bl q.left = zs.flatMap f ++ bl r.left) ∨ (r.torn = true ∧ ∀ (ys : List α) (t : List UInt8), q.torn = false → ys.length = n → (∀ y ∈ ys, P y) → bl q.left ≠ ys.flatMap f ++ t))
section
variable {α : Type} {P : α → Prop} {f : α → List UInt8} {n k : Nat} {q r r' : Rd} {zs : List α} {x : α}
theorem RedN.zero (q : Rd) : RedN P f n q 0 q [] := by
  refine ⟨rfl, ?_⟩
  cases h : q.torn with
  | false => exact .inl ⟨rfl, rfl, by simp, by simp⟩
  | true => exact .inr ⟨rfl, fun _ _ h2 => by cases h2⟩
theorem RedN.next (ht : Tells P f) (h : RedN P f n q k r zs) (hk : k < n) (g : Red P f r r' x) : RedN P f n q (k + 1) r' (zs ++ [x]) := by
  obtain ⟨hl, h⟩ := h
  refine ⟨by simp [hl], ?_⟩
  rcases h with ⟨h1, h2, h3, h4⟩ | ⟨h1, h2⟩
  · rcases g with ⟨g1, _, g3, g4⟩ | ⟨g1, g2⟩
    · refine .inl ⟨g1, h2, ?_, ?_⟩
      · intro z hz
        rcases List.mem_append.1 hz with hz | hz
        · exact h3 z hz
        · obtain rfl : z = x := by simpa using hz
          exact g3
      · rw [h4, g4, List.flatMap_append, List.append_assoc]; simp
    · refine .inr ⟨g1, fun ys t _ hy1 hy2 e => ?_⟩
      have hlt : k < ys.length := by omega
      have e1 : ys = ys.take k ++ ys[k] :: ys.drop (k + 1) := by rw [← List.drop_eq_getElem_cons hlt, List.take_append_drop]
      rw [h4, e1, List.flatMap_append, List.append_assoc] at e
      obtain ⟨_, e2⟩ := tells_many ht zs (ys.take k) _ _ (by rw [hl, List.length_take]; omega) h3 (fun y hy => hy2 y (List.mem_of_mem_take hy)) e
      rw [List.flatMap_cons, List.append_assoc] at e2
      exact g2 ys[k] _ h1 (hy2 _ (List.getElem_mem hlt)) e2
  · exact .inr ⟨g.torn h1, h2⟩
theorem RedN.red {most : Int} {r0 : Rd} (hi : Red (In most) numZ r0 q (n : Int)) (hm : most ≤ 1000000) (h : RedN P f n q n r zs) : Red (fun xs : List α => (xs.length : Int) ≤ most ∧ ∀ y ∈ xs, P y) (rowL f) r0 r zs := by
  obtain ⟨hl, h⟩ := h
  rcases h with ⟨h1, h2, h3, h4⟩ | ⟨h1, h2⟩
  · obtain ⟨i1, i2, i3⟩ := hi.is h2
    refine .inl ⟨h1, i1, ⟨by rw [hl]; exact i2.2, h3⟩, ?_⟩
    rw [i3, h4, rowL, hl, List.append_assoc]; rfl
  · refine .inr ⟨h1, fun ys t hr hy e => ?_⟩
    obtain ⟨hy1, hy2⟩ := hy
    have e' : bl r0.left = numZ (ys.length : Int) ++ (ys.flatMap f ++ t) := by rw [e, rowL, List.append_assoc]; rfl
    rcases hi with ⟨i1, i2, i3, i4⟩ | ⟨i1, i2⟩
    · rw [i4] at e'
      obtain ⟨e1, e2⟩ := tells_in (most := most) (by omega) _ _ _ _ i3 ⟨by omega, hy1⟩ e'
      exact h2 ys t i1 (by omega) hy2 e2
    · exact i2 _ _ hr ⟨by omega, hy1⟩ e'
/-- Torn on the way. -/
theorem RedN.stop {most : Int} {r0 : Rd} {z : List α} (hi : Red (In most) numZ r0 q (n : Int)) (hm : most ≤ 1000000) (h : RedN P f n q k r zs) (hr : r.torn = true) (hr' : r'.torn = true) : Red (fun xs : List α => (xs.length : Int) ≤ most ∧ ∀ y ∈ xs, P y) (rowL f) r0 r' z := by
  obtain ⟨_, h⟩ := h
  rcases h with ⟨h1, _⟩ | ⟨h1, h2⟩
  · rw [hr] at h1; cases h1
  · refine .inr ⟨hr', fun ys t hr hy e => ?_⟩
    obtain ⟨hy1, hy2⟩ := hy
    have e' : bl r0.left = numZ (ys.length : Int) ++ (ys.flatMap f ++ t) := by rw [e, rowL, List.append_assoc]; rfl
    rcases hi with ⟨i1, i2, i3, i4⟩ | ⟨i1, i2⟩
    · rw [i4] at e'
      obtain ⟨e1, e2⟩ := tells_in (most := most) (by omega) _ _ _ _ i3 ⟨by omega, hy1⟩ e'
      exact h2 ys t i1 (by omega) hy2 e2
    · exact i2 _ _ hr ⟨by omega, hy1⟩ e'
end
end Go.Proofs.Ytfpjdmplepepjaa

/-! WRead: Names and rows of names are read: the program's. -/
namespace Go.Proofs.Ytfpjdmplepepjaa
open Go.RowKit Go.Sort
theorem Rd.num_torn (r : Rd) (h : r.num.1.torn = true) : r.num.2 = 0 := by
  unfold Rd.num at h ⊢
  split at h
  · rename_i ht; rw [if_pos ht]
  · rename_i ht
    rw [if_neg ht]
    split at h
    · cases h
    · rfl
theorem Rd.int_torn0 (r : Rd) (m : Int) (h : (r.int m).1.torn = true) : (r.int m).2 = 0 := by
  unfold Rd.int at h ⊢
  split at h
  · rename_i hc; rw [if_pos hc]
  · rename_i hc; rw [if_neg hc]; exact r.num_torn h

theorem infoD : (Try.prog.info? 31).map (fun i => (i.zero, i.size, i.bytes)) = some (some (.agg #[.int .i64 0, .int .i64 0]), 2, 16) := by kernel_rfl

theorem SlP.newsA {w : World} {a : Addr} {ps : List (Int × Int)} (h : SlP w (some a) ps) : ∀ j u, (flatD ps)[j]? = some u → w.cell? (a.add j) = some u := by
  intro j u hj
  by_cases h0 : ps.length = 0
  · rw [List.length_eq_zero_iff.1 h0] at hj; simp [flatD] at hj
  · obtain ⟨b, off, h1, _⟩ := h 0 (by omega)
    cases h1
    exact h.news j u hj

theorem SlP.ofBlk {w : World} {b : Nat} {t : TypeId} {ps : List (Int × Int)} (h : Blk w b (flatD ps).toArray t) : SlP w (some ⟨b, 0, none⟩) ps := by
  intro k _
  refine ⟨b, 0, rfl, h.lt, fun j p hj => ?_⟩
  obtain ⟨g0, g1⟩ := flatD_get ps j p hj
  rw [h.cell, h.cell, Nat.zero_add]
  simp only [List.getElem?_toArray]
  exact ⟨g0, g1⟩
theorem app_pairs {w : World} {ops : Array Oper} {rest : List Oper} {o : Oper} {a : Act} {Q : Exit → Act → World → Prop} (hgd : o.guard = none) (s x : Operand)
    (ho : o.op = .call { callee := .builtin .append, args := #[s, x], argTypes := #[23, 23] })
    (base : Nat) (v : Value) (ps : List (Int × Int)) (hs : a.eval s = v) (hown : OwnP w base 31 v ps)
    (ao : Option Addr) (m c : Nat) (qs : List (Int × Int)) (hx : a.eval x = .slice ao m c) (hq : qs.length = m) (hc : ao = none → c = 0) (hsl : SlP w ao qs) (hb : ps.length + m ≤ 1000000000) (hbase : base ≤ w.heap.size)
    (h : ∀ v' w', OwnP w' base 31 v' (ps ++ qs) → w.grownBy w' v.ownBlock → wpList Try.prog ops Q rest (a.put o.dst v') w') : wpList Try.prog ops Q (o :: rest) a w := by
  obtain ⟨i0, hi, hz0, hz1, hz2⟩ := info_parts infoD
  cases ao with
  | none =>
    have h0 := hsl.none_len
    obtain rfl := hc rfl
    obtain rfl : m = 0 := hq.symm.trans h0
    obtain rfl := List.length_eq_zero_iff.1 h0
    refine wpList_append_own_none hgd s x _ ho base 31 i0 2 Try.underlying23 hi v ps.length (flatD ps) hs hown hx ?_
    refine h v w (by rw [List.append_nil]; exact hown) ⟨rfl, rfl, rfl, Nat.le_refl _, fun _ _ _ => rfl⟩
  | some ad =>
    refine wpList_append_own w hgd s x _ ho base 31 i0 _ 2 16 Try.underlying23 hi hz0 hz1 hz2 rfl (by decide) v ps.length (flatD ps) hs hown ad m c (flatD qs) hx (by rw [flatD_length, hq]) hsl.newsA (flatD_cell qs) (by unfold maxLen; omega) (by omega) hbase ?_
    intro v' w' h1 h2 _
    refine h v' w' ?_ h2
    show w'.ownsRow _ _ _ _ _ _
    rw [flatD_append, List.length_append, hq]
    exact h1
theorem OwnP.cap0 {w : World} {base : Nat} {t : TypeId} {ao : Option Addr} {n cap : Nat} {ps : List (Int × Int)} (h : OwnP w base t (.slice ao n cap) ps) : ao = none → cap = 0 := by
  rintro rfl
  rcases h.2 with ⟨h1, _⟩ | ⟨g, cap', cur, h1, _⟩
  · cases h1; rfl
  · cases h1


/-- A name is read. -/
def Rd.dot (r : Rd) : Rd × (Int × Int) :=
  if ((r.int 1099511627776).1.int 1099511627776).1.torn = true ∨ okD (r.int 1099511627776).2 ((r.int 1099511627776).1.int 1099511627776).2 = false then (⟨((r.int 1099511627776).1.int 1099511627776).1.left, true⟩, (0, 0))
  else (((r.int 1099511627776).1.int 1099511627776).1, ((r.int 1099511627776).2, ((r.int 1099511627776).1.int 1099511627776).2))

set_option maxRecDepth 100000 in
set_option maxHeartbeats 400000 in
theorem torn_any (b : Nat) (r : Rd) (w : World) (hr : IsRd w b r) (hs : r.left.size ≤ 4611686018427387904) :
    Calls Try.prog 106 #[.pointer (some ⟨b, 0, none⟩)] w fun e w' => e = .returned (.tuple #[]) ∧ IsRd w' b (r.int (-1)).1 ∧ Kept b w w' := by
  go_enter Try.func106, Try.ntmps106
  go_wp2_with fail
  refine (rint_any b r (-1) _ hr hs (by decide)).mono ?_; rintro e w1 ⟨rfl, h1, h2⟩
  go_wp2_with fail
  go_end0
  exact ⟨rfl, h1, h2⟩
theorem Rd.int_neg (r : Rd) : (r.int (-1)).1.torn = true ∧ (r.int (-1)).1.left.size ≤ r.left.size := by
  unfold Rd.int
  rw [if_pos (.inl (by decide))]
  exact ⟨rfl, r.num_lt.2⟩

theorem fine_is' (T : Bool) (b : Nat) (r : Rd) (hT : Hid (T = r.torn)) (w : World) (hr : IsRd w b r) :
    Calls Try.prog 78 #[.pointer (some ⟨b, 0, none⟩)] w fun e w' => e = .returned (.bool (!T)) ∧ w = w' := by rw [hT.out]; exact fine_any b r w hr

/-- What dot.Read tells. -/
def DotTells (b : Nat) (r : Rd) (w : World) (e : Ending) (w' : World) : Prop :=
  e = .returned (.agg #[.int .i64 r.dot.2.1, .int .i64 r.dot.2.2]) ∧ (∃ r', IsRd w' b r' ∧ r'.torn = r.dot.1.torn ∧ (r.dot.1.torn = false → r' = r.dot.1) ∧ r'.left.size ≤ r.left.size) ∧ Kept b w w'

set_option maxRecDepth 100000 in
set_option maxHeartbeats 2000000 in
theorem rdot_any (b : Nat) (r : Rd) (w : World) (hr : IsRd w b r) (hs : r.left.size ≤ 1000000) :
    Calls Try.prog 81 #[.pointer (some ⟨b, 0, none⟩)] w (DotTells b r w) := by
  have hbl := hr.lt
  obtain ⟨i1, i2, i3⟩ := r.int_lt 1099511627776
  obtain ⟨j1, j2, j3⟩ := (r.int 1099511627776).1.int_lt 1099511627776
  obtain ⟨d, hd⟩ := nm r.dot
  have hd2 := hd.out
  unfold Rd.dot at hd2
  obtain ⟨q1, hq1⟩ := nm (r.int 1099511627776).1
  obtain ⟨n1, hn1⟩ := nm (r.int 1099511627776).2
  rw [← hq1.out] at hd2 i2 j1 j2 j3
  rw [← hn1.out] at hd2 i1 i3
  obtain ⟨q2, hq2⟩ := nm (q1.int 1099511627776).1
  obtain ⟨n2, hn2⟩ := nm (q1.int 1099511627776).2
  rw [← hq2.out] at hd2 j2
  rw [← hn2.out] at hd2 j1 j3
  have hD := Lib.hid hd2
  clear hd2
  have n1b : n1 ≤ 1099511627776 := by omega
  have n2b : n2 ≤ 1099511627776 := by omega
  obtain ⟨T, hT⟩ := nm q2.torn
  obtain ⟨C, hC⟩ := nm (okD (n1 : Int) (n2 : Int))
  have fin : ∀ (w' : World) (r' : Rd) (x y : Int), d.2 = (x, y) → IsRd w' b r' → r'.torn = d.1.torn → (d.1.torn = false → r' = d.1) → r'.left.size ≤ r.left.size → Kept b w w' → DotTells b r w (.returned (.agg #[.int .i64 x, .int .i64 y])) w' := by
    intro w' r' x y e1 h1 h2 h3 h4 h5
    refine ⟨by rw [← hd.out, e1], ⟨r', h1, ?_, ?_, h4⟩, h5⟩
    · rw [← hd.out]; exact h2
    · rw [← hd.out]; exact h3
  have FIN := Lib.hid fin
  clear fin i3 j3
  have bR0 : Blk (w.alloc (.cells #[.int .i64 0, .int .i64 0] 31)) w.heap.size #[.int .i64 0, .int .i64 0] 31 := Blk.new _ _ _
  have k0 : Kept b w (w.alloc (.cells #[.int .i64 0, .int .i64 0] 31)) := (Kept.refl b w).alloc _
  have h0 : IsRd (w.alloc (.cells #[.int .i64 0, .int .i64 0] 31)) b r := hr.alloc _
  have s0 : (w.alloc (.cells #[.int .i64 0, .int .i64 0] 31)).heap.size = w.heap.size + 1 := by simp
  obtain ⟨w0, hw0⟩ := nm (w.alloc (.cells #[.int .i64 0, .int .i64 0] 31))
  rw [← hw0.out] at bR0 k0 h0 s0
  obtain ⟨R, hR⟩ := nm w.heap.size
  rw [← hR.out] at bR0 s0 hbl
  go_enter Try.func81, Try.ntmps81
  go_wp2_with fail
  rw [← hR.out, ← hw0.out]
  refine (rint_any b r 1099511627776 _ h0 (by omega) (by decide)).mono ?_; rintro e w1 ⟨rfl, h1, k1⟩
  rw [← hq1.out] at h1
  rw [← hn1.out]
  have bR1 := k1.blk bR0 (by omega)
  have k01 := k0.trans k1
  have s1 := k1.size
  have bD1 : Blk (w1.alloc (.cells #[.int .i64 (n1 : Int), .int .i64 0] 31)) w1.heap.size #[.int .i64 (n1 : Int), .int .i64 0] 31 := Blk.new _ _ _
  have bR2 := bR1.alloc (.cells #[.int .i64 (n1 : Int), .int .i64 0] 31)
  have h1a : IsRd (w1.alloc (.cells #[.int .i64 (n1 : Int), .int .i64 0] 31)) b q1 := h1.alloc _
  have k02 := k01.alloc (.cells #[.int .i64 (n1 : Int), .int .i64 0] 31)
  clear bR0 k0 h0 k1 k01 bR1 h1
  go_wp2_with fail
  obtain ⟨D, hDn⟩ := nm w1.heap.size
  obtain ⟨w2, hw2⟩ := nm (w1.alloc (.cells #[.int .i64 (n1 : Int), .int .i64 0] 31))
  rw [← hw2.out] at bD1 bR2 h1a k02 ⊢
  rw [← hDn.out] at bD1 s1 ⊢
  refine (rint_any b q1 1099511627776 _ h1a (by omega) (by decide)).mono ?_; rintro e w3 ⟨rfl, h3, k3⟩
  rw [← hq2.out] at h3
  rw [← hn2.out]
  have bD3 := k3.blk bD1 (by omega)
  have bR3 := k3.blk bR2 (by omega)
  have k03 := k02.trans k3
  have cD : w3.cell? ⟨D, 1, none⟩ = some (.int .i64 0) := bD3.cell 1
  have fD : w3.frozen? ⟨D, 1, none⟩ = false := bD3.free 1
  have bD4 : Blk (w3.setCell ⟨D, 1, none⟩ (.int .i64 (n2 : Int))) D #[.int .i64 (n1 : Int), .int .i64 (n2 : Int)] 31 := bD3.set 1 _
  have bR4 : Blk (w3.setCell ⟨D, 1, none⟩ (.int .i64 (n2 : Int))) R #[.int .i64 0, .int .i64 0] 31 := bR3.setOther (by show R ≠ D; omega) _
  have h4 : IsRd (w3.setCell ⟨D, 1, none⟩ (.int .i64 (n2 : Int))) b q2 := Blk.setOther h3 (by show b ≠ D; omega) _
  have k04 : Kept b w (w3.setCell ⟨D, 1, none⟩ (.int .i64 (n2 : Int))) := k03.setNew (by show w.heap.size ≤ D; rw [← hR.out]; omega) _
  clear bD1 bR2 h1a k02 k3 bD3 bR3 k03 h3
  go_wp2_with fail
  clear cD fD
  obtain ⟨w4, hw4⟩ := nm (w3.setCell ⟨D, 1, none⟩ (.int .i64 (n2 : Int)))
  rw [← hw4.out] at bD4 bR4 h4 k04 ⊢
  refine (fine_is' T b q2 hT w4 h4).mono ?_; rintro e w5 ⟨rfl, rfl⟩
  have FR : Hid (∀ w' : World, Kept b w4 w' → Blk w' R #[.int .i64 0, .int .i64 0] 31) := fun w' h => h.blk bR4 (by omega)
  have hdb : D < w4.heap.size := bD4.lt
  have hrb : R < w4.heap.size := bR4.lt
  have hb4 : b < w4.heap.size := h4.lt
  cases T
  rotate_left
  · have e1 : d = (⟨q2.left, true⟩, (0, 0)) := by rw [hD.out, if_pos (.inl hT.out.symm)]
    have E1 := Lib.hid e1
    clear e1
    go_wp2_with fail
    refine (torn_any b q2 _ h4 (by omega)).mono ?_; rintro e w6 ⟨rfl, h6, k6⟩
    have bR6 := FR.out _ k6
    have c0 : w6.cell? ⟨R, 0, none⟩ = some (.int .i64 0) := bR6.cell 0
    have c1 : w6.cell? ⟨R, 1, none⟩ = some (.int .i64 0) := bR6.cell 1
    have f0 : w6.frozen? ⟨R, 0, none⟩ = false := bR6.free 0
    have f1 : w6.frozen? ⟨R, 1, none⟩ = false := bR6.free 1
    obtain ⟨t1, t2⟩ := q2.int_neg
    go_wp2_with fail
    refine bodyPost_ret (v := .agg #[.int .i64 0, .int .i64 0]) (by simp [results, Try.results81, go_sem, c0, c1]) rfl ?_
    refine FIN.out _ (q2.int (-1)).1 0 0 (by rw [E1.out]) (Blk.setOther (Blk.setOther h6 (by show b ≠ R; omega) _) (by show b ≠ R; omega) _) (by rw [E1.out, t1]) (by rw [E1.out]; intro h; cases h) (by omega) ?_
    exact ((k04.trans k6).setNew (by show w.heap.size ≤ R; rw [← hR.out]; omega) _).setNew (by show w.heap.size ≤ R; rw [← hR.out]; omega) _
  have g0 : w4.cell? ⟨D, 0, none⟩ = some (.int .i64 (n1 : Int)) := bD4.cell 0
  have g1 : w4.cell? ⟨D, 1, none⟩ = some (.int .i64 (n2 : Int)) := bD4.cell 1
  go_wp2_with fail
  refine (check_any (n1 : Int) (n2 : Int) C hC _).mono ?_; rintro e w5 ⟨rfl, hB5⟩
  clear g0 g1
  have h5 : IsRd w5 b q2 := Blk.below h4 hB5 hb4
  have bD5 := bD4.below hB5 hdb
  have bR5 := bR4.below hB5 hrb
  have k05 := k04.trans (Kept.ofBelow hB5)
  have c0 : w5.cell? ⟨R, 0, none⟩ = some (.int .i64 0) := bR5.cell 0
  have c1 : w5.cell? ⟨R, 1, none⟩ = some (.int .i64 0) := bR5.cell 1
  have f0 : w5.frozen? ⟨R, 0, none⟩ = false := bR5.free 0
  have f1 : w5.frozen? ⟨R, 1, none⟩ = false := bR5.free 1
  have g0 : w5.cell? ⟨D, 0, none⟩ = some (.int .i64 (n1 : Int)) := bD5.cell 0
  have g1 : w5.cell? ⟨D, 1, none⟩ = some (.int .i64 (n2 : Int)) := bD5.cell 1
  cases C
  · have e1 : d = (⟨q2.left, true⟩, (0, 0)) := by rw [hD.out, if_pos (.inr hC.out.symm)]
    have E1 := Lib.hid e1
    clear e1 c0 c1 f0 f1 g0 g1
    go_wp2_with fail
    refine (torn_any b q2 _ h5 (by omega)).mono ?_; rintro e w6 ⟨rfl, h6, k6⟩
    have bR6 := k6.blk bR5 (by omega)
    have c0 : w6.cell? ⟨R, 0, none⟩ = some (.int .i64 0) := bR6.cell 0
    have c1 : w6.cell? ⟨R, 1, none⟩ = some (.int .i64 0) := bR6.cell 1
    have f0 : w6.frozen? ⟨R, 0, none⟩ = false := bR6.free 0
    have f1 : w6.frozen? ⟨R, 1, none⟩ = false := bR6.free 1
    obtain ⟨t1, t2⟩ := q2.int_neg
    go_wp2_with fail
    refine bodyPost_ret (v := .agg #[.int .i64 0, .int .i64 0]) (by simp [results, Try.results81, go_sem, c0, c1]) rfl ?_
    refine FIN.out _ (q2.int (-1)).1 0 0 (by rw [E1.out]) (Blk.setOther (Blk.setOther h6 (by show b ≠ R; omega) _) (by show b ≠ R; omega) _) (by rw [E1.out, t1]) (by rw [E1.out]; intro h; cases h) (by omega) ?_
    exact ((k05.trans k6).setNew (by show w.heap.size ≤ R; rw [← hR.out]; omega) _).setNew (by show w.heap.size ≤ R; rw [← hR.out]; omega) _
  · have e1 : d = (q2, ((n1 : Int), (n2 : Int))) := by rw [hD.out, if_neg (by rw [← hT.out, ← hC.out]; simp)]
    have E1 := Lib.hid e1
    clear e1
    go_wp2_with fail
    refine bodyPost_ret (v := .agg #[.int .i64 (n1 : Int), .int .i64 (n2 : Int)]) (by simp [results, Try.results81, go_sem, c0, c1]) rfl ?_
    refine FIN.out _ q2 n1 n2 (by rw [E1.out]) (Blk.setOther (Blk.setOther h5 (by show b ≠ R; omega) _) (by show b ≠ R; omega) _) (by rw [E1.out]) (by rw [E1.out]; intro h; rfl) (by omega) ?_
    exact (k05.setNew (by show w.heap.size ≤ R; rw [← hR.out]; omega) _).setNew (by show w.heap.size ≤ R; rw [← hR.out]; omega) _


/-- So many names are read. -/
def Rd.dots : Nat → Rd → Rd × Option (List (Int × Int))
  | 0, r => (r, some [])
  | k + 1, r => if r.dot.1.torn then (r.dot.1, none) else ((Rd.dots k r.dot.1).1, (Rd.dots k r.dot.1).2.map (r.dot.2 :: ·))
/-- A row is read. -/
def Rd.row (r : Rd) (most : Int) : Rd × List (Int × Int) :=
  match Rd.dots (r.int most).2 (r.int most).1 with
  | (q, some l) => if q.torn = true ∨ ¬ Asc l then (⟨q.left, true⟩, []) else (q, l)
  | (q, none) => (⟨q.left, true⟩, [])

theorem Rd.dot_uses (r : Rd) (h : r.dot.1.torn = false) : r.torn = false ∧ r.dot.1.left.size + 1 ≤ r.left.size := by
  unfold Rd.dot at h ⊢
  split at h
  · cases h
  · rename_i hc
    rw [if_neg hc]
    simp only at h ⊢
    obtain ⟨h1, h2⟩ := Rd.int_uses _ _ h
    obtain ⟨h3, h4⟩ := Rd.int_uses _ _ h1
    exact ⟨h3, by omega⟩
theorem Rd.dot_in (r : Rd) : InD r.dot.2 := by
  unfold Rd.dot
  split
  · exact ⟨show (0 : Int) ≤ 9223372036854775807 by decide, show (0 : Int) ≤ 9223372036854775807 by decide⟩
  · have h1 := (r.int_lt 1099511627776).2.2
    have h2 := ((r.int 1099511627776).1.int_lt 1099511627776).2.2
    simp only
    exact ⟨by simp only; omega, by simp only; omega⟩

theorem Kept.own {b base : Nat} {w w' : World} {t : TypeId} {v : Value} {ps : List (Int × Int)} (hk : Kept b w w') (h : OwnP w base t v ps) (hb : b < base) : OwnP w' base t v ps := by
  have hg : w.grownBy w' (some b) := ⟨hk.os, hk.tape, hk.output, hk.size, fun k hk' hne => hk.block k hk' (fun e => hne (by rw [e]))⟩
  refine h.kept hg ?_
  cases hv : v.ownBlock with
  | none => exact .inl rfl
  | some g =>
    right
    intro e
    have := (World.ownsRow.lt h g hv).1
    cases e
    omega
theorem Kept.grownP {b base : Nat} {w a c : World} {t : TypeId} {v : Value} {ps : List (Int × Int)} (hk : Kept b w a) (h : OwnP a base t v ps) (hb : w.heap.size ≤ base) (hg : a.grownBy c v.ownBlock) : Kept b w c :=
  ⟨hg.os.trans hk.os, hg.tape.trans hk.tape, hg.output.trans hk.output, Nat.le_trans hk.size hg.size, fun k hk' hne => by
    rw [hg.block k (Nat.lt_of_lt_of_le hk' hk.size) (by intro e; have := (World.ownsRow.lt h k e.symm).1; omega)]
    exact hk.block k hk' hne⟩
theorem Blk.grownP {a c : World} {base k : Nat} {cs : Array Value} {t t' : TypeId} {v : Value} {ps : List (Int × Int)} (hb : Blk a k cs t') (h : OwnP a base t v ps) (hk : k < base) (hg : a.grownBy c v.ownBlock) : Blk c k cs t' :=
  (hg.block k hb.lt (by intro e; have := (World.ownsRow.lt h k e.symm).1; omega)).trans hb

theorem rises_is (ao : Option Addr) (ps : List (Int × Int)) (n cap : Nat) (hn : Hid (ps.length = n)) (hm : n ≤ 1000000000) (r : Bool) (hr : Hid (r = decide (Asc ps))) (w : World) (hs : SlP w ao ps) :
    Calls Try.prog 98 #[.slice ao n cap] w fun e w' => e = .returned (.bool r) ∧ Below w.heap.size w w' := rises_any ao ps n cap hn hm w hs r hr

/-- What dot.ReadRow tells. -/
def RowTells (b : Nat) (r : Rd) (most : Int) (w : World) (e : Ending) (w' : World) : Prop :=
  ∃ ao cap, e = .returned (.slice ao (r.row most).2.length cap) ∧ (SlP w' ao (r.row most).2 ∧ ∀ a, ao = some a → w.heap.size ≤ a.block) ∧ (∃ r', IsRd w' b r' ∧ r'.torn = (r.row most).1.torn ∧ ((r.row most).1.torn = false → r' = (r.row most).1) ∧ r'.left.size ≤ 1000000) ∧ Kept b w w'

set_option maxRecDepth 100000 in
set_option maxHeartbeats 4000000 in
theorem readrow_any (b : Nat) (r : Rd) (most : Int) (w : World) (hr : IsRd w b r) (hs : r.left.size ≤ 1000000) (hm : most ≤ 9223372036854775807) :
    Calls Try.prog 105 #[.pointer (some ⟨b, 0, none⟩), .int .i64 most] w (RowTells b r most w) := by
  have hbl := hr.lt
  obtain ⟨i1, i2, i3⟩ := r.int_lt most
  have iu := r.int_uses most
  obtain ⟨q, hq⟩ := nm (r.int most).1
  obtain ⟨n, hn⟩ := nm (r.int most).2
  obtain ⟨d, hd⟩ := nm (r.row most)
  have hd2 := hd.out
  unfold Rd.row at hd2
  rw [← hq.out, ← hn.out] at hd2
  rw [← hq.out] at i2 iu
  rw [← hn.out] at i1 i3
  have hn63 : n ≤ 9223372036854775807 := by omega
  have i4 : n ≠ 0 → q.torn = false := by
    intro h
    cases hqt : q.torn with
    | false => rfl
    | true =>
      exfalso; apply h
      rw [hn.out]
      exact r.int_torn0 most (by rw [← hq.out]; exact hqt)
  have HD := Lib.hid hd2
  have fin : ∀ (w' : World) (r' : Rd) (ao : Option Addr) (cap m : Nat), d.2.length = m → (SlP w' ao d.2 ∧ ∀ a, ao = some a → w.heap.size ≤ a.block) → IsRd w' b r' → r'.torn = d.1.torn → (d.1.torn = false → r' = d.1) → Kept b w w' → r'.left.size ≤ 1000000 → RowTells b r most w (.returned (.slice ao m cap)) w' := by
    intro w' r' ao cap m e1 hsl h1 h2 h3 h5 h6
    refine ⟨ao, cap, by rw [← hd.out, e1], by rw [← hd.out]; exact hsl, ⟨r', h1, ?_, ?_, h6⟩, h5⟩
    · rw [← hd.out]; exact h2
    · rw [← hd.out]; exact h3
  have FIN := Lib.hid fin
  have I4 := Lib.hid i4
  clear fin hd2 i4 i3
  go_enter Try.func105, Try.ntmps105
  go_wp2_with fail
  refine (rint_any b r most _ hr (by omega) hm).mono ?_; rintro e w1 ⟨rfl, h1, k1⟩
  rw [← hq.out] at h1
  rw [← hn.out]
  go_wp2_with fail
  go_loopw [5, 9] (fun v i wr => ∃ (k : Nat) (ri : Rd) (zs : List (Int × Int)), k ≤ n ∧ i = .int .i64 (k : Int) ∧ zs.length = k ∧ IsRd wr b ri ∧ OwnP wr w.heap.size 31 v zs ∧ Kept b w wr ∧ (k < n → ri.torn = false) ∧ ri.left.size + k ≤ 1000000 ∧
    Hid (Rd.dots n q = ((Rd.dots (n - k) ri).1, (Rd.dots (n - k) ri).2.map (zs ++ ·)))) (fun _ i _ => n - (intOf i).toNat)
  case atStart => exact ⟨0, q, [], by omega, rfl, rfl, h1, OwnP.nil _ _ _, k1, fun h => I4.out (by omega), by omega, Lib.hid (by simp)⟩
  case round =>
    clear h1 k1
    obtain ⟨k, ri, zs, hkn, rfl, hz, hrd, hown, hk, ht, hsz, hI⟩ := hrel
    by_cases hlt : k < n
    · have hst : Rd.dots (n - k) ri = if ri.dot.1.torn then (ri.dot.1, none) else ((Rd.dots (n - (k + 1)) ri.dot.1).1, (Rd.dots (n - (k + 1)) ri.dot.1).2.map (ri.dot.2 :: ·)) := by
        rw [show n - k = (n - (k + 1)) + 1 from by omega, Rd.dots]
      have hu := ri.dot_uses
      obtain ⟨T, hT⟩ := nm ri.dot.1.torn
      obtain ⟨⟨x, y⟩, hxy⟩ := nm ri.dot.2
      rw [← hT.out] at hst hu
      rw [← hxy.out] at hst
      have hbw : b < wr.heap.size := hrd.lt
      have HST := Lib.hid hst
      have HU := Lib.hid hu
      clear hst hu
      go_wp2_with fail
      refine (rdot_any b ri _ hrd (by omega)).mono ?_; rintro e w3 ⟨rfl, ⟨rj, h3, t3, e3, z3⟩, k3⟩
      rw [← hxy.out]
      rw [← hT.out] at t3 e3
      have E3 := Lib.hid e3
      have hown3 := k3.own hown hbl
      have k03 := hk.trans k3
      have s3 := k03.size
      clear hown hk hrd k3 e3
      go_wp2_with (at_builtin; refine app_pairs rfl _ _ rfl w.heap.size _ zs rfl (hown3.alloc _) (some ⟨w3.heap.size, 0, none⟩) 1 1 [(x, y)] rfl rfl (fun h => by cases h) (SlP.ofBlk (Blk.new w3 _ _)) (by omega) (Nat.le_trans s3 (by simp)) ?_)
      intro v' w4 hown4 hgrow
      have h4 : IsRd w4 b rj := Blk.grownP (Blk.alloc h3 _) (hown3.alloc _) hbl hgrow
      have k04 := (k03.alloc _).grownP (hown3.alloc _) (Nat.le_refl _) hgrow
      clear hown3 hgrow k03 h3
      go_wp2_with fail
      refine (fine_is' T b rj (by show _ = _; exact t3.symm) w4 h4).mono ?_; rintro e w5 ⟨rfl, rfl⟩
      cases T
      · obtain rfl := E3.out rfl
        have hu2 := (HU.out rfl).2
        have HI : Hid (Rd.dots n q = ((Rd.dots (n - (k + 1)) ri.dot.1).1, (Rd.dots (n - (k + 1)) ri.dot.1).2.map ((zs ++ [(x, y)]) ++ ·))) := by
          show _ = _
          rw [hI.out, HST.out]
          simp only [Bool.false_eq_true, if_false, Option.map_map]
          congr 2
          funext l
          simp
        have htt : ri.dot.1.torn = false := hT.out.symm
        go_wp2_with fail
        go_roundw
        case rel => exact ⟨k + 1, ri.dot.1, zs ++ [(x, y)], by omega, by go_num, by simp [hz], h4, hown4, k04, fun _ => htt, by omega, HI⟩
        case measure => simp [intOf]; omega
      · have e0 : d = (⟨ri.dot.1.left, true⟩, []) := by
          rw [HD.out, hI.out, HST.out]; rfl
        have E0 := Lib.hid e0
        clear e0
        go_wp2_with fail
        go_ret
        exact FIN.out _ rj none 0 0 (by rw [E0.out]; rfl) (by rw [E0.out]; exact ⟨SlP.nil _ _, fun a h => by cases h⟩) h4 (by rw [E0.out, t3]) (by rw [E0.out]; intro h; cases h) k04 (by omega)
    · obtain rfl : k = n := by omega
      have hdd : Rd.dots k q = (ri, some zs) := by
        rw [hI.out, Nat.sub_self]; simp [Rd.dots]
      obtain ⟨T, hT⟩ := nm ri.torn
      obtain ⟨A, hA⟩ := nm (decide (Asc zs))
      have hd3 : d = if T = true ∨ A = false then (⟨ri.left, true⟩, []) else (ri, zs) := by
        rw [HD.out, hdd]
        simp only
        rw [← hT.out]
        have : (¬ Asc zs) = (A = false) := by rw [hA.out]; simp
        simp only [this]
      obtain ⟨ao, cap, rfl, _, _, hsl, hab⟩ := hown.sl
      have HD3 := Lib.hid hd3
      have HSL := Lib.hid hsl
      have HZ := Lib.hid hz
      clear hd3 hdd hown hsl
      rw [hz]
      clear hz
      go_wp2_with fail
      refine (fine_is' T b ri hT _ hrd).mono ?_; rintro e w5 ⟨rfl, rfl⟩
      obtain ⟨t1, t2⟩ := ri.int_neg
      cases T
      · go_wp2_with fail
        refine (rises_is ao zs k cap HZ (by omega) A hA _ HSL.out).mono ?_; rintro e w6 ⟨rfl, hB6⟩
        have h6 : IsRd w6 b ri := Blk.below hrd hB6 hrd.lt
        have k06 := hk.trans (Kept.ofBelow hB6)
        have HSL6 := Lib.hid (HSL.out.below hB6)
        cases A
        · have e0 : d = (⟨ri.left, true⟩, []) := by rw [HD3.out]; simp
          have E0 := Lib.hid e0
          clear e0
          go_wp2_with fail
          refine (torn_any b ri _ h6 (by omega)).mono ?_; rintro e w7 ⟨rfl, h7, k7⟩
          go_wp2_with fail
          go_ret
          exact FIN.out _ _ none 0 0 (by rw [E0.out]; rfl) (by rw [E0.out]; exact ⟨SlP.nil _ _, fun a h => by cases h⟩) h7 (by rw [E0.out, t1]) (by rw [E0.out]; intro h; cases h) (k06.trans k7) (by omega)
        · have e0 : d = (ri, zs) := by rw [HD3.out]; simp
          have E0 := Lib.hid e0
          clear e0
          go_wp2_with fail
          go_ret
          exact FIN.out _ ri ao cap k (by rw [E0.out]; exact HZ.out) (by rw [E0.out]; exact ⟨HSL6.out, hab⟩) h6 (by rw [E0.out]) (by rw [E0.out]; intro h; rfl) k06 (by omega)
      · have e0 : d = (⟨ri.left, true⟩, []) := by rw [HD3.out]; simp
        have E0 := Lib.hid e0
        clear e0
        go_wp2_with fail
        refine (torn_any b ri _ hrd (by omega)).mono ?_; rintro e w7 ⟨rfl, h7, k7⟩
        go_wp2_with fail
        go_ret
        exact FIN.out _ _ none 0 0 (by rw [E0.out]; rfl) (by rw [E0.out]; exact ⟨SlP.nil _ _, fun a h => by cases h⟩) h7 (by rw [E0.out, t1]) (by rw [E0.out]; intro h; cases h) (hk.trans k7) (by omega)

/-! ### As what stands there -/
theorem Rd.dot_red (r : Rd) : Red dotP dotL r r.dot.1 r.dot.2 := by
  have h1 := red_int r 1099511627776 (by decide)
  have h2 := red_int (r.int 1099511627776).1 1099511627776 (by decide)
  have h3 := h1.seq h2 (tells_in (by decide))
  have ht : Tells (fun p : Int × Int => In 1099511627776 p.1 ∧ In 1099511627776 p.2) (fun p => numZ p.1 ++ numZ p.2) := (tells_in (by decide)).seq (tells_in (by decide))
  have hi : ∀ y : Int × Int, ((In 1099511627776 y.1 ∧ In 1099511627776 y.2) ∧ dotP y) ↔ dotP y := fun y => ⟨fun h => h.2, fun h => ⟨by have := h.le; exact ⟨⟨by omega, by omega⟩, by omega, by omega⟩, h⟩⟩
  unfold Rd.dot
  split
  · rename_i hc
    refine (Red.fail (C := dotP) h3 ht ?_ rfl).iff hi
    rcases hc with hc | hc
    · exact .inl hc
    · exact .inr (by show ¬ okD _ _ = true; rw [hc]; decide)
  · rename_i hc
    refine (Red.pass (C := dotP) h3 fun _ => ?_).iff hi
    show okD _ _ = true
    cases h : okD ((r.int 1099511627776).2 : Int) (((r.int 1099511627776).1.int 1099511627776).2 : Int) with
    | true => rfl
    | false => exact absurd (.inr h) hc
theorem tells_dotP : Tells dotP dotL := tells_dot.sub fun _ h => h.up
theorem Rd.dots_red : ∀ (n : Nat) (r : Rd), (∀ q l, Rd.dots n r = (q, some l) → RedN dotP dotL n r n q l) ∧ (∀ q, Rd.dots n r = (q, none) → q.torn = true ∧ ∀ (ys : List Dot2) (t : List UInt8), r.torn = false → ys.length = n → (∀ y ∈ ys, dotP y) → bl r.left ≠ ys.flatMap dotL ++ t)
  | 0, r => by
    refine ⟨fun q l h => ?_, fun q h => by cases h⟩
    cases h
    exact RedN.zero r
  | n + 1, r => by
    have hd := r.dot_red
    obtain ⟨i1, i2⟩ := Rd.dots_red n r.dot.1
    have far : (∀ (ys : List Dot2) (t : List UInt8), r.dot.1.torn = false → ys.length = n → (∀ y ∈ ys, dotP y) → bl r.dot.1.left ≠ ys.flatMap dotL ++ t) → ∀ (ys : List Dot2) (t : List UInt8), r.torn = false → ys.length = n + 1 → (∀ y ∈ ys, dotP y) → bl r.left ≠ ys.flatMap dotL ++ t := by
      intro h ys t hr hl hy e
      obtain ⟨y, ys, rfl⟩ : ∃ y zs, ys = y :: zs := by cases ys with | nil => simp at hl | cons y zs => exact ⟨y, zs, rfl⟩
      rw [List.flatMap_cons, List.append_assoc] at e
      rcases hd with ⟨h1, h2, h3, h4⟩ | ⟨h1, h2⟩
      · rw [h4] at e
        obtain ⟨_, e2⟩ := tells_dotP _ _ _ _ h3 (hy y (by simp)) e
        exact h ys t h1 (by simpa using hl) (fun z hz => hy z (by simp [hz])) e2
      · exact h2 y _ hr (hy y (by simp)) e
    rw [Rd.dots]
    cases ht : r.dot.1.torn with
    | true =>
      rw [if_pos rfl]
      refine ⟨fun q l h => (by cases h), fun q h => ?_⟩
      cases h
      exact ⟨ht, far fun ys t h => by rw [ht] at h; cases h⟩
    | false =>
      rw [if_neg (by simp)]
      obtain ⟨⟨q', o⟩, ho⟩ := nm (Rd.dots n r.dot.1)
      rw [← ho.out] at i1 i2 ⊢
      obtain ⟨h1, h2, h3⟩ := hd.is ht
      cases o with
      | none =>
        refine ⟨fun q l h => (by cases h), fun q h => ?_⟩
        cases h
        obtain ⟨g1, g2⟩ := i2 _ rfl
        exact ⟨g1, far g2⟩
      | some l' =>
        refine ⟨fun q l h => ?_, fun q h => by cases h⟩
        cases h
        obtain ⟨g1, g2⟩ := i1 _ _ rfl
        refine ⟨by simp [g1], ?_⟩
        rcases g2 with ⟨k1, k2, k3, k4⟩ | ⟨k1, k2⟩
        · refine .inl ⟨k1, h1, ?_, ?_⟩
          · intro z hz
            rcases List.mem_cons.1 hz with rfl | hz
            · exact h2
            · exact k3 z hz
          · rw [h3, k4, List.flatMap_cons, List.append_assoc]
        · exact .inr ⟨k1, far k2⟩
/-- A row that may be. -/
def RowP (most : Int) (xs : List Dot2) : Prop := (xs.length : Int) ≤ most ∧ (∀ x ∈ xs, dotP x) ∧ Asc xs
theorem tells_rowD {most : Int} (h : most ≤ 1000000) : Tells (fun xs : List Dot2 => (xs.length : Int) ≤ most ∧ ∀ y ∈ xs, dotP y) (rowL dotL) := (tells_row tells_dotP).sub fun _ hx => ⟨by have := hx.1; omega, hx.2⟩
theorem Rd.row_red (r : Rd) (most : Int) (hm : most ≤ 1000000) : Red (RowP most) (rowL dotL) r (r.row most).1 (r.row most).2 := by
  have h1 := red_int r most (by omega)
  obtain ⟨d1, d2⟩ := Rd.dots_red (r.int most).2 (r.int most).1
  have hi : ∀ y : List Dot2, (((y.length : Int) ≤ most ∧ ∀ z ∈ y, dotP z) ∧ Asc y) ↔ RowP most y := fun y => ⟨fun h => ⟨h.1.1, h.1.2, h.2⟩, fun h => ⟨⟨h.1, h.2.1⟩, h.2.2⟩⟩
  unfold Rd.row
  obtain ⟨⟨q, o⟩, ho⟩ := nm (Rd.dots (r.int most).2 (r.int most).1)
  rw [← ho.out] at d1 d2 ⊢
  cases o with
  | none =>
    obtain ⟨g1, g2⟩ := d2 _ rfl
    refine .inr ⟨rfl, fun ys t hr hy e => ?_⟩
    have e' : bl r.left = numZ (ys.length : Int) ++ (ys.flatMap dotL ++ t) := by rw [e, rowL, List.append_assoc]; rfl
    rcases h1 with ⟨k1, k2, k3, k4⟩ | ⟨k1, k2⟩
    · rw [k4] at e'
      obtain ⟨e1, e2⟩ := tells_in (most := most) (by omega) _ _ _ _ k3 ⟨by omega, hy.1⟩ e'
      exact g2 ys t k1 (by omega) hy.2.1 e2
    · exact k2 _ _ hr ⟨by omega, hy.1⟩ e'
  | some l =>
    have hl := (d1 _ _ rfl).red h1 hm
    simp only
    split
    · rename_i hc
      exact (Red.fail (C := Asc) hl (tells_rowD hm) hc rfl).iff hi
    · rename_i hc
      refine (Red.pass (C := Asc) hl fun _ => ?_).iff hi
      by_cases ha : Asc l
      · exact ha
      · exact absurd (.inr ha) hc
theorem rdot_red (b : Nat) (r : Rd) (w : World) (hr : IsRd w b r) (hs : r.left.size ≤ 1000000) :
    Calls Try.prog 81 #[.pointer (some ⟨b, 0, none⟩)] w fun e w' => ∃ (p q : Int) (r' : Rd), e = .returned (.agg #[.int .i64 p, .int .i64 q]) ∧ IsRd w' b r' ∧ Red dotP dotL r r' (p, q) ∧ r'.left.size ≤ 1000000 ∧ Kept b w w' := by
  refine (rdot_any b r w hr hs).mono ?_
  rintro e w' ⟨rfl, ⟨r', h1, h2, h3, h4⟩, h5⟩
  refine ⟨_, _, r', rfl, h1, ?_, by omega, h5⟩
  have h := r.dot_red
  cases ht : r.dot.1.torn with
  | true => exact h.any ht (h2.trans ht)
  | false => rw [h3 ht]; exact h
theorem readrow_red (b : Nat) (r : Rd) (most : Int) (w : World) (hr : IsRd w b r) (hs : r.left.size ≤ 1000000) (hm : most ≤ 1000000) :
    Calls Try.prog 105 #[.pointer (some ⟨b, 0, none⟩), .int .i64 most] w fun e w' => ∃ ao n cap xs r', e = .returned (.slice ao n cap) ∧ xs.length = n ∧ SlP w' ao xs ∧ (∀ a, ao = some a → w.heap.size ≤ a.block) ∧ IsRd w' b r' ∧ Red (RowP most) (rowL dotL) r r' xs ∧ r'.left.size ≤ 1000000 ∧ Kept b w w' := by
  refine (readrow_any b r most w hr hs (by omega)).mono ?_
  rintro e w' ⟨ao, cap, rfl, ⟨h0, h0'⟩, ⟨r', h1, h2, h3, h4⟩, h5⟩
  refine ⟨ao, _, cap, _, r', rfl, rfl, h0, h0', h1, ?_, h4, h5⟩
  have h := r.row_red most hm
  cases ht : (r.row most).1.torn with
  | true => exact h.any ht (h2.trans ht)
  | false => rw [h3 ht]; exact h
end Go.Proofs.Ytfpjdmplepepjaa

/-! WReadA: How much a reader leaves; own rows that stay. -/
namespace Go.Proofs.Ytfpjdmplepepjaa
open Go.RowKit

theorem Rd.int_sz (r : Rd) (m : Int) : (r.int m).1.left.size ≤ r.left.size := (r.int_lt m).2.1
theorem Rd.text_sz (r : Rd) (m : Int) : (r.text m).1.left.size ≤ r.left.size := by
  have h := r.int_sz m
  unfold Rd.text
  split
  · exact h
  · show ((r.int m).1.left.extract (r.int m).2 (r.int m).1.left.size).size ≤ _
    rw [← bl_length, bl_extract, List.length_take, List.length_drop, bl_length]
    omega
end Go.Proofs.Ytfpjdmplepepjaa

/-! WReadCtx: Contexts are read: the program's. -/
namespace Go.Proofs.Ytfpjdmplepepjaa
open Go.RowKit

/-- Of what was there only the blocks x, y, z may have turned. -/
structure Tri (x y z : Nat) (w w' : World) : Prop where
  size : w.heap.size ≤ w'.heap.size
  block : ∀ k, k < w.heap.size → k ≠ x → k ≠ y → k ≠ z → w'.heap[k]? = w.heap[k]?
theorem Tri.refl (x y z : Nat) (w : World) : Tri x y z w w := ⟨Nat.le_refl _, fun _ _ _ _ _ => rfl⟩
theorem Tri.trans {x y z : Nat} {a b c : World} (h : Tri x y z a b) (g : Tri x y z b c) : Tri x y z a c :=
  ⟨Nat.le_trans h.size g.size, fun k hk h1 h2 h3 => (g.block k (Nat.lt_of_lt_of_le hk h.size) h1 h2 h3).trans (h.block k hk h1 h2 h3)⟩
theorem Tri.ofBelow {x y z : Nat} {a b : World} (h : Below a.heap.size a b) : Tri x y z a b := ⟨h.size, fun k hk _ _ _ => h.block k hk⟩
theorem Tri.ofKept {x y z : Nat} {a b : World} (h : Kept x a b) : Tri x y z a b := ⟨h.size, fun k hk hx _ _ => h.block k hk hx⟩
theorem Tri.set {x y z : Nat} {a b : World} (h : Tri x y z a b) {p : Addr} (hp : p.block = x ∨ p.block = y ∨ p.block = z) (v : Value) : Tri x y z a (b.setCell p v) :=
  ⟨Nat.le_trans h.size (by simp), fun k hk h1 h2 h3 => (Below.heap_setCell _ _ _ _ (by rcases hp with e | e | e <;> (rw [e]; assumption))).trans (h.block k hk h1 h2 h3)⟩
theorem Tri.alloc {x y z : Nat} {a b : World} (h : Tri x y z a b) (o : Obj) : Tri x y z a (b.alloc o) := h.trans (Tri.ofBelow (bOld o))
theorem SlE.tri {α : Type} {enc : α → List Value} {k : Nat} {w w' : World} {ao : Option Addr} {xs : List α} {x y z : Nat} (h : SlE enc k w ao xs) (hn : ∀ a, ao = some a → a.block ≠ x ∧ a.block ≠ y ∧ a.block ≠ z) (ht : Tri x y z w w') : SlE enc k w' ao xs := by
  intro i hi
  obtain ⟨b, off, h1, h2, h3⟩ := h i hi
  obtain ⟨hx, hy, hz⟩ := hn _ h1
  refine ⟨b, off, h1, Nat.lt_of_lt_of_le h2 ht.size, fun j u hj c v hv => ?_⟩
  rw [← h3 j u hj c v hv]
  simp only [World.cell?, ht.block b h2 hx hy hz]
theorem SlP.row {w : World} {ao : Option Addr} {ps : List Dot2} (h : SlP w ao ps) : SlE eDot 2 w ao ps := by
  intro i hi
  obtain ⟨b, off, x, y, h1, h2, _⟩ := h.get i hi
  refine ⟨b, off, h1, h2, fun j p hj c u hu => ?_⟩
  subst h1
  have hj2 : j < ps.length := (List.getElem?_eq_some_iff.1 hj).1
  obtain ⟨b', off', x', y', e1, _, g0, g1, hp⟩ := h.get j hj2
  cases e1
  have hp2 := hp.out
  rw [hj] at hp2
  obtain rfl := Option.some.inj hp2
  match c, hu with
  | 0, hu => simp [eDot] at hu; rw [← hu]; exact g0
  | 1, hu => simp [eDot] at hu; rw [← hu]; exact g1
  | c + 2, hu => simp [eDot] at hu
theorem SlP.tri {w w' : World} {ao : Option Addr} {xs : List Dot2} {x y z : Nat} (h : SlP w ao xs) (hn : ∀ a, ao = some a → a.block ≠ x ∧ a.block ≠ y ∧ a.block ≠ z) (ht : Tri x y z w w') : SlP w' ao xs := (h.row.tri hn ht).pairs
/-- A context that is read. -/
def CtxR (p : List Dot2 × List Dot2) : Prop := (p.1.length ≤ 1000 ∧ p.2.length ≤ 1000) ∧ CtxP p.1 p.2
def ctxZ (p : List Dot2 × List Dot2) : List UInt8 := ctxL p.1 p.2
/-- What ctx.Read tells. -/
def CtxTells (b : Nat) (r : Rd) (w : World) (e : Ending) (w' : World) : Prop :=
  ∃ ab ac nb kb nc kc bs cl r', e = .returned (.agg #[.slice ab nb kb, .slice ac nc kc]) ∧ bs.length = nb ∧ cl.length = nc ∧ SlP w' ab bs ∧ SlP w' ac cl ∧ (∀ a, ab = some a → w.heap.size ≤ a.block) ∧ (∀ a, ac = some a → w.heap.size ≤ a.block) ∧ IsRd w' b r' ∧ Red CtxR ctxZ r r' (bs, cl) ∧ r'.left.size ≤ 1000000 ∧ Kept b w w'
theorem CtxP.dots {bs cl : List Dot2} (h : CtxP bs cl) : (∀ x ∈ bs, dotP x) ∧ ∀ x ∈ cl, dotP x := ⟨h.base.all (Nat.le_refl _), fun x hx => (h.cloud x hx).1⟩

set_option maxRecDepth 100000 in
set_option maxHeartbeats 4000000 in
theorem rctx_any (b : Nat) (r : Rd) (w : World) (hr : IsRd w b r) (hs : r.left.size ≤ 1000000) :
    Calls Try.prog 80 #[.pointer (some ⟨b, 0, none⟩)] w (CtxTells b r w) := by
  obtain ⟨x, hx⟩ := nm w.heap.size
  have hbx : b < x := by rw [hx.out]; exact hr.lt
  obtain ⟨w0, hw0⟩ := nm (w.alloc (.cells #[.slice none 0 0, .slice none 0 0] 25))
  have Kx : Hid (Blk w0 x #[.slice none 0 0, .slice none 0 0] 25) := by show Blk _ _ _ _; rw [hw0.out, hx.out]; exact Blk.new _ _ _
  have HR : Hid (IsRd w0 b r) := by show IsRd _ _ _; rw [hw0.out]; exact Blk.alloc hr _
  have HP : Hid (Kept b w w0) := by show Kept _ _ _; rw [hw0.out]; exact (Kept.refl _ _).alloc _
  have hwx : Hid (w.heap.size ≤ x) := Nat.le_of_eq hx.out.symm
  clear hr
  go_enter Try.func80, Try.ntmps80
  go_upto_region 1 with fail
  rw [← hw0.out, ← hx.out]
  go_wp2_with fail
  refine (readrow_red b r 1000 _ HR.out hs (by decide)).mono ?_; rintro e w1 ⟨ab, nb, kb, bs, r1, rfl, hnb, hsb, hfb, h1, hd1, hs1, hk⟩
  have hx0 : x < w0.heap.size := Kx.out.lt
  have HFB : Hid (∀ a, ab = some a → x < a.block) := fun a ha => by have := hfb a ha; omega
  replace Kx := Lib.hid (hk.blk Kx.out (by omega))
  replace HP := Lib.hid (HP.out.trans hk)
  obtain ⟨c, hc⟩ := nm w1.heap.size
  have hbc : b < c := by rw [hc.out]; exact h1.lt
  have hxc : x < c := by rw [hc.out]; exact Kx.out.lt
  have HSB : Hid (SlP w1 ab bs) := hsb
  have HLB : Hid (∀ a, ab = some a → 0 < bs.length → a.block < c) := by
    show ∀ a, _
    intro a ha h0
    obtain ⟨b', off', e, hl⟩ := HSB.out.base h0
    rw [ha] at e; cases e; rw [hc.out]; exact hl
  obtain ⟨w2, hw2⟩ := nm (w1.alloc (.cells #[.slice ab nb kb, .slice none 0 0] 25))
  have Kc : Hid (Blk w2 c #[.slice ab nb kb, .slice none 0 0] 25) := by show Blk _ _ _ _; rw [hw2.out, hc.out]; exact Blk.new _ _ _
  replace Kx : Hid (Blk w2 x #[.slice none 0 0, .slice none 0 0] 25) := by show Blk _ _ _ _; rw [hw2.out]; exact Kx.out.alloc _
  replace HR : Hid (IsRd w2 b r1) := by show IsRd _ _ _; rw [hw2.out]; exact Blk.alloc h1 _
  replace HP : Hid (Kept b w w2) := by show Kept _ _ _; rw [hw2.out]; exact HP.out.alloc _
  have HT : Hid (Tri b x c w1 w2) := by show Tri _ _ _ _ _; rw [hw2.out]; exact (Tri.refl _ _ _ _).alloc _
  have D1 := Lib.hid hd1
  have HNB := Lib.hid hnb
  clear h1 hk hsb hfb hd1 hnb
  go_upto_region 2 with fail
  rw [← hw2.out, ← hc.out]
  go_wp2_with fail
  refine (readrow_red b r1 1000 _ HR.out hs1 (by decide)).mono ?_; rintro e w3 ⟨ac, nc, kc, cl, r2, rfl, hnc, hsc, hfc, h3, hd2, hs2, hk⟩
  have hc2 : c < w2.heap.size := Kc.out.lt
  have HFC : Hid (∀ a, ac = some a → c < a.block) := fun a ha => by have := hfc a ha; omega
  replace Kx := Lib.hid (hk.blk Kx.out (by omega))
  replace Kc := Lib.hid (hk.blk Kc.out (by omega))
  replace HP := Lib.hid (HP.out.trans hk)
  replace HT := Lib.hid (HT.out.trans (Tri.ofKept hk))
  have cc0 : w3.cell? ⟨c, 0, none⟩ = some (.slice ab nb kb) := Kc.out.cell 0
  have cf0 : w3.frozen? ⟨c, 0, none⟩ = false := Kc.out.free 0
  have cc1 : w3.cell? ⟨c, 1, none⟩ = some (.slice none 0 0) := Kc.out.cell 1
  have cf1 : w3.frozen? ⟨c, 1, none⟩ = false := Kc.out.free 1
  obtain ⟨w4, hw4⟩ := nm (w3.setCell ⟨c, 1, none⟩ (.slice ac nc kc))
  have hwc : w.heap.size ≤ c := by rw [← hx.out]; omega
  replace Kx : Hid (Blk w4 x #[.slice none 0 0, .slice none 0 0] 25) := by show Blk _ _ _ _; rw [hw4.out]; exact Kx.out.setOther (by simp only; omega) _
  replace Kc : Hid (Blk w4 c #[.slice ab nb kb, .slice ac nc kc] 25) := by show Blk _ _ _ _; rw [hw4.out]; exact Kc.out.set 1 _
  replace HR : Hid (IsRd w4 b r2) := by show IsRd _ _ _; rw [hw4.out]; exact Blk.setOther h3 (by simp only; omega) _
  replace HP : Hid (Kept b w w4) := by show Kept _ _ _; rw [hw4.out]; exact HP.out.setNew hwc _
  replace HT : Hid (Tri b x c w1 w4) := by show Tri _ _ _ _ _; rw [hw4.out]; exact HT.out.set (.inr (.inr rfl)) _
  have HT2 : Hid (Tri b x c w3 w4) := by show Tri _ _ _ _ _; rw [hw4.out]; exact (Tri.refl _ _ _ _).set (p := ⟨c, 1, none⟩) (.inr (.inr rfl)) _
  have HNB2 : Hid (∀ a, ab = some a → 0 < bs.length → a.block ≠ b ∧ a.block ≠ x ∧ a.block ≠ c) := by
    show ∀ a, _
    intro a ha h0
    have h1 := HFB.out a ha
    have h2 := HLB.out a ha h0
    exact ⟨by omega, by omega, by omega⟩
  have HNC2 : Hid (∀ a, ac = some a → a.block ≠ b ∧ a.block ≠ x ∧ a.block ≠ c) := by
    show ∀ a, _
    intro a ha
    have h1 := HFC.out a ha
    exact ⟨by omega, by omega, by omega⟩
  have stay : ∀ w', Tri b x c w4 w' → SlP w' ab bs ∧ SlP w' ac cl := by
    intro w' ht
    refine ⟨?_, hsc.tri HNC2.out (HT2.out.trans ht)⟩
    rcases Nat.eq_zero_or_pos bs.length with h0 | h0
    · rw [List.length_eq_zero_iff.1 h0]; exact SlP.nil _ _
    · exact HSB.out.tri (fun a ha => HNB2.out a ha h0) (HT.out.trans ht)
  have STAY := Lib.hid stay
  have D2 := Lib.hid hd2
  have HNC := Lib.hid hnc
  have HSEQ : Hid (Red (fun p : List Dot2 × List Dot2 => RowP 1000 p.1 ∧ RowP 1000 p.2) (fun p => rowL dotL p.1 ++ rowL dotL p.2) r r2 (bs, cl)) := D1.out.seq D2.out ((tells_rowD (most := 1000) (by decide)).sub fun _ h => ⟨h.1, h.2.1⟩)
  have HIFF : Hid (∀ p : List Dot2 × List Dot2, ((RowP 1000 p.1 ∧ RowP 1000 p.2) ∧ CtxP p.1 p.2) ↔ CtxR p) := by
    show ∀ p : List Dot2 × List Dot2, _
    intro p
    refine ⟨fun h => ⟨⟨by have := h.1.1.1; omega, by have := h.1.2.1; omega⟩, h.2⟩, fun h => ⟨⟨⟨by have := h.1.1; omega, h.2.dots.1, h.2.asc1⟩, by have := h.1.2; omega, h.2.dots.2, h.2.asc2⟩, h.2⟩⟩
  have HTL : Hid (Tells (fun p : List Dot2 × List Dot2 => RowP 1000 p.1 ∧ RowP 1000 p.2) (fun p => rowL dotL p.1 ++ rowL dotL p.2)) :=
    ((tells_rowD (most := 1000) (by decide)).sub (Q := RowP 1000) fun _ h => ⟨h.1, h.2.1⟩).seq ((tells_rowD (most := 1000) (by decide)).sub (Q := RowP 1000) fun _ h => ⟨h.1, h.2.1⟩)
  have bad : ∀ w' r', r'.torn = true → r'.left.size ≤ 1000000 → (r2.torn = true ∨ ¬ CtxP bs cl) → IsRd w' b r' → Kept b w w' → CtxTells b r w (.returned (.agg #[.slice none 0 0, .slice none 0 0])) w' := by
    intro w' r' h1 h2 h3 h4 h5
    refine ⟨none, none, 0, 0, 0, 0, [], [], r', rfl, rfl, rfl, SlP.nil _ _, SlP.nil _ _, fun a h => (by cases h), fun a h => (by cases h), h4, ?_, h2, h5⟩
    exact (Red.fail (C := fun p : List Dot2 × List Dot2 => CtxP p.1 p.2) HSEQ.out HTL.out h3 h1).iff HIFF.out
  have BAD := Lib.hid bad
  have HWB : Hid (∀ a, ab = some a → w.heap.size ≤ a.block) := fun a ha => by have := HFB.out a ha; have := hwx.out; omega
  have HWC : Hid (∀ a, ac = some a → w.heap.size ≤ a.block) := fun a ha => by have := HFC.out a ha; omega
  clear h3 hk hsc hfc hd2 hnc stay bad HT HT2 HSB HLB HFB HFC HNB2 HNC2
  go_upto_region 3 with fail
  rw [← hw4.out]
  clear cc0 cc1 cf0 cf1
  obtain ⟨T, hT⟩ := nm r2.torn
  obtain ⟨t1, t2⟩ := r2.int_neg
  cases T
  rotate_left
  · have xc0 : w4.cell? ⟨x, 0, none⟩ = some (.slice none 0 0) := Kx.out.cell 0
    go_wp2_with fail
    refine (fine_is' true b r2 hT _ HR.out).mono ?_; rintro e w5 ⟨rfl, rfl⟩
    go_wp2_with fail
    refine (rint_any b r2 (-1) _ HR.out (by omega) (by decide)).mono ?_; rintro e w6 ⟨rfl, h6, hk6⟩
    have xb := hk6.blk Kx.out (by omega)
    clear xc0
    have xc0 := xb.cell 0
    have xc1 := xb.cell 1
    have xf0 := xb.free 0
    have xf1 := xb.free 1
    go_wp2_with fail
    refine bodyPost_ret (results_cell_row rfl _ _ x 25 #[.slice none 0 0, .slice none 0 0] (0, 0) _ rfl ((xb.set 0 _).set 1 _) Try.underlying25 rfl infoCx) rfl ?_
    exact BAD.out _ _ t1 (by omega) (.inl hT.out.symm) (Blk.setOther (Blk.setOther h6 (by simp only; omega) _) (by simp only; omega) _) (((HP.out.trans hk6).setNew hwx.out _).setNew hwx.out _)
  obtain ⟨i1, i2, i3⟩ := HSEQ.out.is hT.out.symm
  have HLN : Hid (bs.length ≤ 1000 ∧ cl.length ≤ 1000) := ⟨by have := i2.1.1; simp only at this; omega, by have := i2.2.1; simp only at this; omega⟩
  clear i1 i2 i3
  have hnb6 : nb ≤ 1000000 := by rw [← HNB.out]; have := HLN.out.1; omega
  have hnc6 : nc ≤ 1000000 := by rw [← HNC.out]; have := HLN.out.2; omega
  obtain ⟨B, hB, hBf, hBt⟩ := boolOf (CtxP bs cl)
  obtain ⟨E, hE⟩ := nm (errno B)
  obtain ⟨s1, s2⟩ := STAY.out w4 (Tri.refl _ _ _ _)
  have cc0 : w4.cell? ⟨c, 0, none⟩ = some (.slice ab nb kb) := Kc.out.cell 0
  have cc1 : w4.cell? ⟨c, 1, none⟩ = some (.slice ac nc kc) := Kc.out.cell 1
  go_wp2_with fail
  refine (fine_is' false b r2 hT _ HR.out).mono ?_; rintro e w5 ⟨rfl, rfl⟩
  go_wp2_with fail
  refine (ctxcheck_any ab ac nb kb nc kc bs cl HNB hnb6 HNC hnc6 B hB E hE _ s1 s2).mono ?_; rintro e w6 ⟨rfl, hB6⟩
  have hx4 := Kx.out.lt
  have hc4 := Kc.out.lt
  have hb4 := HR.out.lt
  replace Kx := Lib.hid (Kx.out.below hB6 hx4)
  replace Kc := Lib.hid (Kc.out.below hB6 hc4)
  replace HR : Hid (IsRd w6 b r2) := Blk.below HR.out hB6 hb4
  replace HP := Lib.hid (HP.out.trans (Kept.ofBelow hB6))
  have HT6 : Hid (Tri b x c w4 w6) := Tri.ofBelow hB6
  clear cc0 cc1 s1 s2 hB6
  have hE2 := hE.out
  cases B
  · obtain rfl : E = 1 := hE2
    have xc0 : w6.cell? ⟨x, 0, none⟩ = some (.slice none 0 0) := Kx.out.cell 0
    go_wp2_with fail
    refine (rint_any b r2 (-1) _ HR.out (by omega) (by decide)).mono ?_; rintro e w7 ⟨rfl, h7, hk7⟩
    have xb := hk7.blk Kx.out (by omega)
    clear xc0
    have xc0 := xb.cell 0
    have xc1 := xb.cell 1
    have xf0 := xb.free 0
    have xf1 := xb.free 1
    go_wp2_with fail
    refine bodyPost_ret (results_cell_row rfl _ _ x 25 #[.slice none 0 0, .slice none 0 0] (0, 0) _ rfl ((xb.set 0 _).set 1 _) Try.underlying25 rfl infoCx) rfl ?_
    exact BAD.out _ _ t1 (by omega) (.inr (hBf.out (by first | exact rfl | exact trivial))) (Blk.setOther (Blk.setOther h7 (by simp only; omega) _) (by simp only; omega) _) (((HP.out.trans hk7).setNew hwx.out _).setNew hwx.out _)
  · obtain rfl : E = 0 := hE2
    have xb := Kx.out
    have xc0 := xb.cell 0
    have xc1 := xb.cell 1
    have xf0 := xb.free 0
    have xf1 := xb.free 1
    have cc0 : w6.cell? ⟨c, 0, none⟩ = some (.slice ab nb kb) := Kc.out.cell 0
    have cc1 : w6.cell? ⟨c, 1, none⟩ = some (.slice ac nc kc) := Kc.out.cell 1
    go_wp2_with fail
    refine bodyPost_ret (results_cell_row rfl _ _ x 25 #[.slice ab nb kb, .slice ac nc kc] (0, 0) _ rfl ((xb.set 0 _).set 1 _) Try.underlying25 rfl infoCx) rfl ?_
    have h7 := STAY.out _ ((HT6.out.set (p := ⟨x, 0, none⟩) (.inr (.inl rfl)) (.slice ab nb kb)).set (p := ⟨x, 1, none⟩) (.inr (.inl rfl)) (.slice ac nc kc))
    refine ⟨ab, ac, nb, kb, nc, kc, bs, cl, r2, rfl, HNB.out, HNC.out, h7.1, h7.2, HWB.out, HWC.out, (Blk.setOther (Blk.setOther HR.out (by simp only; omega) _) (by simp only; omega) _), ?_, hs2, ((HP.out.setNew hwx.out _).setNew hwx.out _)⟩
    exact (Red.pass (C := fun p : List Dot2 × List Dot2 => CtxP p.1 p.2) HSEQ.out fun _ => hBt.out (by first | exact rfl | exact trivial)).iff HIFF.out
end Go.Proofs.Ytfpjdmplepepjaa

/-! WReadTag: Rows of tags are read: the program's. -/
namespace Go.Proofs.Ytfpjdmplepepjaa
open Go.RowKit

def tagR (p : Tag2) : Prop := Tx 100 p.1 ∧ In 1048576 p.2
theorem tells_tagR : Tells tagR tagL := (tells_tx (by decide)).seq (tells_in (by decide))
theorem tagsR (y : List Tag2) : (((y.length : Int) ≤ 100 ∧ ∀ z ∈ y, tagR z) ∧ TagsP y) ↔ TagsP y := by
  refine ⟨fun h => h.2, fun h => ⟨⟨by have := h.many; omega, fun z hz => ?_⟩, h⟩⟩
  obtain ⟨⟨h1, h2⟩, h3, h4⟩ := h.each.all (Nat.le_refl _) z hz
  exact ⟨show (z.1.size : Int) ≤ 100 by omega, by omega, h4⟩
/-- What is told. -/
def TagTells (b : Nat) (r : Rd) (w : World) (e : Ending) (w' : World) : Prop :=
  ∃ ao n cap xs r', e = .returned (.slice ao n cap) ∧ xs.length = n ∧ SlE eTag 2 w' ao xs ∧ (∀ a, ao = some a → w.heap.size ≤ a.block) ∧ IsRd w' b r' ∧ Red TagsP (rowL tagL) r r' xs ∧ r'.left.size ≤ 1000000 ∧ Kept b w w'

set_option maxRecDepth 100000 in
set_option maxHeartbeats 4000000 in
theorem rtag_any (b : Nat) (r : Rd) (w : World) (hr : IsRd w b r) (hs : r.left.size ≤ 1000000) :
    Calls Try.prog 40 #[.pointer (some ⟨b, 0, none⟩)] w (TagTells b r w) := by
  have hbl := hr.lt
  obtain ⟨i1, i2, i3⟩ := r.int_lt 100
  have hq0 := red_int r 100 (by decide)
  obtain ⟨q, hq⟩ := nm (r.int 100).1
  obtain ⟨n, hn⟩ := nm (r.int 100).2
  rw [← hq.out] at i2 hq0
  rw [← hn.out] at i1 i3 hq0
  have hnm : n ≤ 100 := by omega
  have HQ := Lib.hid hq0
  clear hq0 i1 i3
  go_enter Try.func40, Try.ntmps40
  go_wp2_with fail
  refine (rint_any b r 100 _ hr (by omega) (by decide)).mono ?_; rintro e w1 ⟨rfl, h1, k1⟩
  rw [← hq.out] at h1
  rw [← hn.out]
  go_wp2_with fail
  go_loopw [3, 7] (fun u i wr => ∃ (k : Nat) (ri : Rd) (zs : List Tag2) (v : Value), v = u ∧ k ≤ n ∧ i = .int .i64 (k : Int) ∧ zs.length = k ∧ IsRd wr b ri ∧ OwnE eTag 2 wr w.heap.size 57 v zs ∧ Kept b w wr ∧ ri.left.size ≤ 1000000 ∧ Hid (RedN tagR tagL n q k ri zs)) (fun _ i _ => n - (intOf i).toNat)
  case atStart => exact ⟨0, q, [], _, rfl, by omega, rfl, rfl, h1, OwnE.nil _ _ _, k1, by omega, RedN.zero q⟩
  case round =>
    clear h1 k1
    obtain ⟨k, ri, zs, v, rfl, hkn, rfl, hz, hrd, hown, hk, hsz, hI⟩ := hrel
    by_cases hlt : k < n
    · have r0 := red_text ri 100 (by decide)
      have z0 := ri.text_sz 100
      obtain ⟨q0, hq0⟩ := nm (ri.text 100).1
      obtain ⟨a0, ha0⟩ := nm (ri.text 100).2
      rw [← hq0.out, ← ha0.out] at r0
      rw [← hq0.out] at z0
      have r1 := red_int q0 1048576 (by decide)
      have z1 := q0.int_sz 1048576
      obtain ⟨q1, hq1⟩ := nm (q0.int 1048576).1
      obtain ⟨a1, ha1⟩ := nm (((q0.int 1048576).2 : Nat) : Int)
      rw [← hq1.out, ← ha1.out] at r1
      rw [← hq1.out] at z1
      have HN : Hid (RedN tagR tagL n q (k + 1) q1 (zs ++ [(a0, a1)])) := hI.out.next tells_tagR hlt (r0.seq (r1) (tells_tx (by decide)))
      clear hI r0 r1
      go_wp2_with fail
      refine (rtext_any b ri 100 _ hrd (by omega) (by decide)).mono ?_; rintro e w2 ⟨rfl, h2, hk2⟩
      rw [← hq0.out] at h2
      rw [← ha0.out]
      have hown2 := hown.kept hk2 hbl
      have k2 := hk.trans hk2
      obtain ⟨d, hd⟩ := nm w2.heap.size
      have hbd : b < d := by rw [hd.out]; exact h2.lt
      have hwd : w.heap.size ≤ d := by rw [hd.out]; exact k2.size
      obtain ⟨w3, hw3⟩ := nm (w2.alloc (.cells #[.string a0, .int .i64 0] 57))
      have Kd : Hid (Blk w3 d #[.string a0, .int .i64 0] 57) := by show Blk _ _ _ _; rw [hw3.out, hd.out]; exact Blk.new _ _ _
      have HR : Hid (IsRd w3 b q0) := by show IsRd _ _ _; rw [hw3.out]; exact Blk.alloc h2 _
      have HO : Hid (OwnE eTag 2 w3 w.heap.size 57 v zs) := by show OwnE _ _ _ _ _ _ _; rw [hw3.out]; exact hown2.alloc _
      have HK : Hid (Kept b w w3) := by show Kept _ _ _; rw [hw3.out]; exact k2.alloc _
      have HD : Hid (∀ g, v.ownBlock = some g → g < d) := by show ∀ g, _; rw [hd.out]; exact fun g hg => (World.ownsRow.lt hown2 g hg).2
      clear hown hk hk2 hown2 k2 h2 hrd
      go_upto_region 5 with fail
      rw [← hw3.out, ← hd.out]
      go_wp2_with fail
      refine (rint_any b q0 1048576 _ HR.out (by omega) (by decide)).mono ?_; rintro e w4 ⟨rfl, h4, hk4⟩
      rw [← hq1.out] at h4
      rw [← ha1.out]
      replace Kd := Lib.hid (hk4.blk Kd.out (by omega))
      replace HO := Lib.hid (HO.out.kept hk4 hbl)
      replace HK := Lib.hid (HK.out.trans hk4)
      have d1 : w4.cell? ⟨d, 1, none⟩ = some (.int .i64 0) := Kd.out.cell 1
      have e1 : w4.frozen? ⟨d, 1, none⟩ = false := Kd.out.free 1
      obtain ⟨w5, hw5⟩ := nm (w4.setCell ⟨d, 1, none⟩ (.int .i64 a1))
      replace Kd : Hid (Blk w5 d #[.string a0, .int .i64 a1] 57) := by show Blk _ _ _ _; rw [hw5.out]; exact Kd.out.set 1 _
      replace HR : Hid (IsRd w5 b q1) := by show IsRd _ _ _; rw [hw5.out]; exact Blk.setOther h4 (by simp only; omega) _
      replace HO : Hid (OwnE eTag 2 w5 w.heap.size 57 v zs) := by show OwnE _ _ _ _ _ _ _; rw [hw5.out]; exact HO.out.setAt HD.out
      replace HK : Hid (Kept b w w5) := by show Kept _ _ _; rw [hw5.out]; exact HK.out.setNew hwd _
      clear hk4 h4
      go_upto_region 6 with fail
      rw [← hw5.out]
      clear d1 e1 hw5
      have s5 := HK.out.size
      have y0 : w5.cell? ⟨d, 0, none⟩ = some (.string a0) := Kd.out.cell 0
      have y1 : w5.cell? ⟨d, 1, none⟩ = some (.int .i64 a1) := Kd.out.cell 1
      go_wp2_with (at_builtin; refine app_E encTag Try.underlying28 infoTag rfl (by decide) rfl _ _ rfl w.heap.size _ zs rfl (HO.out.alloc _) (some ⟨w5.heap.size, 0, none⟩) 1 1 [(a0, a1)] rfl rfl (fun h => by cases h) (SlE.ofBlk encTag (Blk.new w5 _ _)) (by omega) (Nat.le_trans s5 (by simp)) ?_)
      intro v' w6 hown6 hgrow
      have h6 : IsRd w6 b q1 := OwnE.blk (HO.out.alloc _) (Blk.alloc HR.out _) hbl hgrow
      have k6 : Kept b w w6 := OwnE.grownK (HO.out.alloc _) (HK.out.alloc _) (Nat.le_refl _) hgrow
      have hsz6 : q1.left.size ≤ 1000000 := by omega
      clear hgrow y0 y1 Kd HR HO HK HD
      go_wp2_with fail
      go_roundw
      case rel => exact ⟨k + 1, q1, zs ++ [(a0, a1)], _, rfl, by omega, by go_num, by simp [hz], h6, hown6, k6, hsz6, HN⟩
      case measure => simp [intOf]; omega
    · obtain rfl : k = n := by omega
      have HALL := Lib.hid (hI.out.red HQ.out (by decide))
      clear hI HQ
      obtain ⟨ao, cap, rfl, _, _, hsl, _, hab⟩ := hown.sl encTag
      have bad : ∀ w' r', r'.torn = true → r'.left.size ≤ 1000000 → (ri.torn = true ∨ ¬ TagsP zs) → IsRd w' b r' → Kept b w w' → TagTells b r w (.returned (.slice none 0 0)) w' := by
        intro w' r' h1 h2 h3 h4 h5
        refine ⟨none, 0, 0, [], r', rfl, rfl, SlE.nil _ _ _ _, fun a h => (by cases h), h4, ?_, h2, h5⟩
        exact (Red.fail (C := TagsP) HALL.out ((tells_row tells_tagR).sub fun _ h => ⟨by have := h.1; omega, h.2⟩) h3 h1).iff tagsR
      have BAD := Lib.hid bad
      have HSL := Lib.hid hsl
      have HZ := Lib.hid hz
      have HAB := Lib.hid hab
      clear bad hown hsl hab
      rw [hz]
      clear hz
      obtain ⟨t1, t2⟩ := ri.int_neg
      obtain ⟨T, hT⟩ := nm ri.torn
      obtain ⟨B, hB, hBf, hBt⟩ := boolOf (TagsP zs)
      obtain ⟨E, hE⟩ := nm (errno B)
      cases T
      rotate_left
      · go_wp2_with fail
        refine (fine_is' true b ri hT _ hrd).mono ?_; rintro e w5 ⟨rfl, rfl⟩
        go_wp2_with fail
        refine (rint_any b ri (-1) _ hrd (by omega) (by decide)).mono ?_; rintro e w6 ⟨rfl, h6, hk6⟩
        go_wp2_with fail
        go_ret
        exact BAD.out _ _ t1 (by omega) (.inl hT.out.symm) h6 (hk.trans hk6)
      go_wp2_with fail
      refine (fine_is' false b ri hT _ hrd).mono ?_; rintro e w5 ⟨rfl, rfl⟩
      go_wp2_with fail
      refine (tagcheck_any ao k cap zs HZ (by omega) B hB E hE _ HSL.out).mono ?_; rintro e w6 ⟨rfl, hB6⟩
      have h6 : IsRd w6 b ri := Blk.below hrd hB6 hrd.lt
      have k6 := hk.trans (Kept.ofBelow hB6)
      have HSL6 := Lib.hid (HSL.out.below hB6)
      clear hB6 HSL hrd hk
      have hE2 := hE.out
      cases B
      · obtain rfl : E = 1 := hE2
        go_wp2_with fail
        refine (rint_any b ri (-1) _ h6 (by omega) (by decide)).mono ?_; rintro e w7 ⟨rfl, h7, hk7⟩
        go_wp2_with fail
        go_ret
        exact BAD.out _ _ t1 (by omega) (.inr (hBf.out (by first | exact rfl | exact trivial))) h7 (k6.trans hk7)
      · obtain rfl : E = 0 := hE2
        go_wp2_with fail
        go_ret
        exact ⟨ao, k, cap, zs, ri, rfl, HZ.out, HSL6.out, HAB.out, h6, (Red.pass (C := TagsP) HALL.out fun _ => hBt.out (by first | exact rfl | exact trivial)).iff tagsR, hsz, k6⟩
end Go.Proofs.Ytfpjdmplepepjaa

/-! WReadVw: Rows of peers are read: the program's. -/
namespace Go.Proofs.Ytfpjdmplepepjaa
open Go.RowKit

theorem encPeer : EncOk ePeer 3 := ⟨by decide, fun _ => rfl, fun x u hu => by simp [ePeer] at hu; rcases hu with rfl | rfl | rfl <;> rfl⟩
theorem infoPeer : (Try.prog.info? 82).map (fun i => (i.zero, i.size, i.bytes)) = some (some (.agg #[.int .i64 0, .int .i64 0, .int .i64 0]), 3, 24) := by kernel_rfl
def peerR (p : Peer3) : Prop := In 1099511627776 p.1 ∧ In 1073741824 p.2.1 ∧ In 2 p.2.2
theorem tells_peerR : Tells peerR peerL := (tells_in (by decide)).seq ((tells_in (by decide)).seq (tells_in (by decide)))
theorem viewR (y : List Peer3) : (((y.length : Int) ≤ 64 ∧ ∀ z ∈ y, peerR z) ∧ ViewP y) ↔ ViewP y := by
  refine ⟨fun h => h.2, fun h => ⟨⟨by have := h.many; omega, fun z hz => ?_⟩, h⟩⟩
  obtain ⟨⟨h1, h2⟩, ⟨h3, h4⟩, h5, h6⟩ := h.each.all (Nat.le_refl _) z hz
  exact ⟨⟨by omega, h2⟩, ⟨h3, h4⟩, h5, h6⟩
/-- What is told. -/
def VwTells (b : Nat) (r : Rd) (w : World) (e : Ending) (w' : World) : Prop :=
  ∃ ao n cap xs r', e = .returned (.slice ao n cap) ∧ xs.length = n ∧ SlE ePeer 3 w' ao xs ∧ (∀ a, ao = some a → w.heap.size ≤ a.block) ∧ IsRd w' b r' ∧ Red ViewP (rowL peerL) r r' xs ∧ r'.left.size ≤ 1000000 ∧ Kept b w w'

set_option maxRecDepth 100000 in
set_option maxHeartbeats 4000000 in
theorem rvw_any (b : Nat) (r : Rd) (w : World) (hr : IsRd w b r) (hs : r.left.size ≤ 1000000) :
    Calls Try.prog 41 #[.pointer (some ⟨b, 0, none⟩)] w (VwTells b r w) := by
  have hbl := hr.lt
  obtain ⟨i1, i2, i3⟩ := r.int_lt 64
  have hq0 := red_int r 64 (by decide)
  obtain ⟨q, hq⟩ := nm (r.int 64).1
  obtain ⟨n, hn⟩ := nm (r.int 64).2
  rw [← hq.out] at i2 hq0
  rw [← hn.out] at i1 i3 hq0
  have hnm : n ≤ 64 := by omega
  have HQ := Lib.hid hq0
  clear hq0 i1 i3
  go_enter Try.func41, Try.ntmps41
  go_wp2_with fail
  refine (rint_any b r 64 _ hr (by omega) (by decide)).mono ?_; rintro e w1 ⟨rfl, h1, k1⟩
  rw [← hq.out] at h1
  rw [← hn.out]
  go_wp2_with fail
  go_loopw [3, 7] (fun u i wr => ∃ (k : Nat) (ri : Rd) (zs : List Peer3) (v : Value), v = u ∧ k ≤ n ∧ i = .int .i64 (k : Int) ∧ zs.length = k ∧ IsRd wr b ri ∧ OwnE ePeer 3 wr w.heap.size 82 v zs ∧ Kept b w wr ∧ ri.left.size ≤ 1000000 ∧ Hid (RedN peerR peerL n q k ri zs)) (fun _ i _ => n - (intOf i).toNat)
  case atStart => exact ⟨0, q, [], _, rfl, by omega, rfl, rfl, h1, OwnE.nil _ _ _, k1, by omega, RedN.zero q⟩
  case round =>
    clear h1 k1
    obtain ⟨k, ri, zs, v, rfl, hkn, rfl, hz, hrd, hown, hk, hsz, hI⟩ := hrel
    by_cases hlt : k < n
    · have r0 := red_int ri 1099511627776 (by decide)
      have z0 := ri.int_sz 1099511627776
      obtain ⟨q0, hq0⟩ := nm (ri.int 1099511627776).1
      obtain ⟨a0, ha0⟩ := nm (((ri.int 1099511627776).2 : Nat) : Int)
      rw [← hq0.out, ← ha0.out] at r0
      rw [← hq0.out] at z0
      have r1 := red_int q0 1073741824 (by decide)
      have z1 := q0.int_sz 1073741824
      obtain ⟨q1, hq1⟩ := nm (q0.int 1073741824).1
      obtain ⟨a1, ha1⟩ := nm (((q0.int 1073741824).2 : Nat) : Int)
      rw [← hq1.out, ← ha1.out] at r1
      rw [← hq1.out] at z1
      have r2 := red_int q1 2 (by decide)
      have z2 := q1.int_sz 2
      obtain ⟨q2, hq2⟩ := nm (q1.int 2).1
      obtain ⟨a2, ha2⟩ := nm (((q1.int 2).2 : Nat) : Int)
      rw [← hq2.out, ← ha2.out] at r2
      rw [← hq2.out] at z2
      have HN : Hid (RedN peerR peerL n q (k + 1) q2 (zs ++ [(a0, a1, a2)])) := hI.out.next tells_peerR hlt (r0.seq (r1.seq (r2) (tells_in (by decide))) (tells_in (by decide)))
      clear hI r0 r1 r2
      go_wp2_with fail
      refine (rint_any b ri 1099511627776 _ hrd (by omega) (by decide)).mono ?_; rintro e w2 ⟨rfl, h2, hk2⟩
      rw [← hq0.out] at h2
      rw [← ha0.out]
      have hown2 := hown.kept hk2 hbl
      have k2 := hk.trans hk2
      obtain ⟨d, hd⟩ := nm w2.heap.size
      have hbd : b < d := by rw [hd.out]; exact h2.lt
      have hwd : w.heap.size ≤ d := by rw [hd.out]; exact k2.size
      obtain ⟨w3, hw3⟩ := nm (w2.alloc (.cells #[.int .i64 a0, .int .i64 0, .int .i64 0] 82))
      have Kd : Hid (Blk w3 d #[.int .i64 a0, .int .i64 0, .int .i64 0] 82) := by show Blk _ _ _ _; rw [hw3.out, hd.out]; exact Blk.new _ _ _
      have HR : Hid (IsRd w3 b q0) := by show IsRd _ _ _; rw [hw3.out]; exact Blk.alloc h2 _
      have HO : Hid (OwnE ePeer 3 w3 w.heap.size 82 v zs) := by show OwnE _ _ _ _ _ _ _; rw [hw3.out]; exact hown2.alloc _
      have HK : Hid (Kept b w w3) := by show Kept _ _ _; rw [hw3.out]; exact k2.alloc _
      have HD : Hid (∀ g, v.ownBlock = some g → g < d) := by show ∀ g, _; rw [hd.out]; exact fun g hg => (World.ownsRow.lt hown2 g hg).2
      clear hown hk hk2 hown2 k2 h2 hrd
      go_upto_region 5 with fail
      rw [← hw3.out, ← hd.out]
      go_wp2_with fail
      refine (rint_any b q0 1073741824 _ HR.out (by omega) (by decide)).mono ?_; rintro e w4 ⟨rfl, h4, hk4⟩
      rw [← hq1.out] at h4
      rw [← ha1.out]
      replace Kd := Lib.hid (hk4.blk Kd.out (by omega))
      replace HO := Lib.hid (HO.out.kept hk4 hbl)
      replace HK := Lib.hid (HK.out.trans hk4)
      have d1 : w4.cell? ⟨d, 1, none⟩ = some (.int .i64 0) := Kd.out.cell 1
      have e1 : w4.frozen? ⟨d, 1, none⟩ = false := Kd.out.free 1
      obtain ⟨w5, hw5⟩ := nm (w4.setCell ⟨d, 1, none⟩ (.int .i64 a1))
      replace Kd : Hid (Blk w5 d #[.int .i64 a0, .int .i64 a1, .int .i64 0] 82) := by show Blk _ _ _ _; rw [hw5.out]; exact Kd.out.set 1 _
      replace HR : Hid (IsRd w5 b q1) := by show IsRd _ _ _; rw [hw5.out]; exact Blk.setOther h4 (by simp only; omega) _
      replace HO : Hid (OwnE ePeer 3 w5 w.heap.size 82 v zs) := by show OwnE _ _ _ _ _ _ _; rw [hw5.out]; exact HO.out.setAt HD.out
      replace HK : Hid (Kept b w w5) := by show Kept _ _ _; rw [hw5.out]; exact HK.out.setNew hwd _
      clear hk4 h4
      go_upto_region 6 with fail
      rw [← hw5.out]
      clear d1 e1 hw5
      go_wp2_with fail
      refine (rint_any b q1 2 _ HR.out (by omega) (by decide)).mono ?_; rintro e w4 ⟨rfl, h4, hk4⟩
      rw [← hq2.out] at h4
      rw [← ha2.out]
      replace Kd := Lib.hid (hk4.blk Kd.out (by omega))
      replace HO := Lib.hid (HO.out.kept hk4 hbl)
      replace HK := Lib.hid (HK.out.trans hk4)
      have d2 : w4.cell? ⟨d, 2, none⟩ = some (.int .i64 0) := Kd.out.cell 2
      have e2 : w4.frozen? ⟨d, 2, none⟩ = false := Kd.out.free 2
      obtain ⟨w5, hw5⟩ := nm (w4.setCell ⟨d, 2, none⟩ (.int .i64 a2))
      replace Kd : Hid (Blk w5 d #[.int .i64 a0, .int .i64 a1, .int .i64 a2] 82) := by show Blk _ _ _ _; rw [hw5.out]; exact Kd.out.set 2 _
      replace HR : Hid (IsRd w5 b q2) := by show IsRd _ _ _; rw [hw5.out]; exact Blk.setOther h4 (by simp only; omega) _
      replace HO : Hid (OwnE ePeer 3 w5 w.heap.size 82 v zs) := by show OwnE _ _ _ _ _ _ _; rw [hw5.out]; exact HO.out.setAt HD.out
      replace HK : Hid (Kept b w w5) := by show Kept _ _ _; rw [hw5.out]; exact HK.out.setNew hwd _
      clear hk4 h4
      go_upto_region 7 with fail
      rw [← hw5.out]
      clear d2 e2 hw5
      have s5 := HK.out.size
      have y0 : w5.cell? ⟨d, 0, none⟩ = some (.int .i64 a0) := Kd.out.cell 0
      have y1 : w5.cell? ⟨d, 1, none⟩ = some (.int .i64 a1) := Kd.out.cell 1
      have y2 : w5.cell? ⟨d, 2, none⟩ = some (.int .i64 a2) := Kd.out.cell 2
      go_wp2_with (at_builtin; refine app_E encPeer Try.underlying29 infoPeer rfl (by decide) rfl _ _ rfl w.heap.size _ zs rfl (HO.out.alloc _) (some ⟨w5.heap.size, 0, none⟩) 1 1 [(a0, a1, a2)] rfl rfl (fun h => by cases h) (SlE.ofBlk encPeer (Blk.new w5 _ _)) (by omega) (Nat.le_trans s5 (by simp)) ?_)
      intro v' w6 hown6 hgrow
      have h6 : IsRd w6 b q2 := OwnE.blk (HO.out.alloc _) (Blk.alloc HR.out _) hbl hgrow
      have k6 : Kept b w w6 := OwnE.grownK (HO.out.alloc _) (HK.out.alloc _) (Nat.le_refl _) hgrow
      have hsz6 : q2.left.size ≤ 1000000 := by omega
      clear hgrow y0 y1 y2 Kd HR HO HK HD
      go_wp2_with fail
      go_roundw
      case rel => exact ⟨k + 1, q2, zs ++ [(a0, a1, a2)], _, rfl, by omega, by go_num, by simp [hz], h6, hown6, k6, hsz6, HN⟩
      case measure => simp [intOf]; omega
    · obtain rfl : k = n := by omega
      have HALL := Lib.hid (hI.out.red HQ.out (by decide))
      clear hI HQ
      obtain ⟨ao, cap, rfl, _, _, hsl, _, hab⟩ := hown.sl encPeer
      have bad : ∀ w' r', r'.torn = true → r'.left.size ≤ 1000000 → (ri.torn = true ∨ ¬ ViewP zs) → IsRd w' b r' → Kept b w w' → VwTells b r w (.returned (.slice none 0 0)) w' := by
        intro w' r' h1 h2 h3 h4 h5
        refine ⟨none, 0, 0, [], r', rfl, rfl, SlE.nil _ _ _ _, fun a h => (by cases h), h4, ?_, h2, h5⟩
        exact (Red.fail (C := ViewP) HALL.out ((tells_row tells_peerR).sub fun _ h => ⟨by have := h.1; omega, h.2⟩) h3 h1).iff viewR
      have BAD := Lib.hid bad
      have HSL := Lib.hid hsl
      have HZ := Lib.hid hz
      have HAB := Lib.hid hab
      clear bad hown hsl hab
      rw [hz]
      clear hz
      obtain ⟨t1, t2⟩ := ri.int_neg
      obtain ⟨T, hT⟩ := nm ri.torn
      obtain ⟨B, hB, hBf, hBt⟩ := boolOf (ViewP zs)
      obtain ⟨E, hE⟩ := nm (errno B)
      cases T
      rotate_left
      · go_wp2_with fail
        refine (fine_is' true b ri hT _ hrd).mono ?_; rintro e w5 ⟨rfl, rfl⟩
        go_wp2_with fail
        refine (rint_any b ri (-1) _ hrd (by omega) (by decide)).mono ?_; rintro e w6 ⟨rfl, h6, hk6⟩
        go_wp2_with fail
        go_ret
        exact BAD.out _ _ t1 (by omega) (.inl hT.out.symm) h6 (hk.trans hk6)
      go_wp2_with fail
      refine (fine_is' false b ri hT _ hrd).mono ?_; rintro e w5 ⟨rfl, rfl⟩
      go_wp2_with fail
      refine (viewcheck_any ao k cap zs HZ (by omega) B hB E hE _ HSL.out).mono ?_; rintro e w6 ⟨rfl, hB6⟩
      have h6 : IsRd w6 b ri := Blk.below hrd hB6 hrd.lt
      have k6 := hk.trans (Kept.ofBelow hB6)
      have HSL6 := Lib.hid (HSL.out.below hB6)
      clear hB6 HSL hrd hk
      have hE2 := hE.out
      cases B
      · obtain rfl : E = 1 := hE2
        go_wp2_with fail
        refine (rint_any b ri (-1) _ h6 (by omega) (by decide)).mono ?_; rintro e w7 ⟨rfl, h7, hk7⟩
        go_wp2_with fail
        go_ret
        exact BAD.out _ _ t1 (by omega) (.inr (hBf.out (by first | exact rfl | exact trivial))) h7 (k6.trans hk7)
      · obtain rfl : E = 0 := hE2
        go_wp2_with fail
        go_ret
        exact ⟨ao, k, cap, zs, ri, rfl, HZ.out, HSL6.out, HAB.out, h6, (Red.pass (C := ViewP) HALL.out fun _ => hBt.out (by first | exact rfl | exact trivial)).iff viewR, hsz, k6⟩
end Go.Proofs.Ytfpjdmplepepjaa

/-! WReadBag: Bags are read: the program's. -/
namespace Go.Proofs.Ytfpjdmplepepjaa
open Go.RowKit

theorem Tri.setNew {x y z : Nat} {a b : World} (h : Tri x y z a b) {p : Addr} (hp : a.heap.size ≤ p.block) (v : Value) : Tri x y z a (b.setCell p v) :=
  ⟨Nat.le_trans h.size (by simp), fun k hk h1 h2 h3 => (Below.heap_setCell _ _ _ _ (by omega)).trans (h.block k hk h1 h2 h3)⟩
theorem OwnE.tri {α : Type} {enc : α → List Value} {k x y z base : Nat} {a b c : World} {t : TypeId} {v : Value} {xs : List α} (hown : OwnE enc k b base t v xs) (h : Tri x y z a b) (hb : a.heap.size ≤ base) (hg : b.grownBy c v.ownBlock) : Tri x y z a c :=
  ⟨Nat.le_trans h.size hg.size, fun i hi h1 h2 h3 => (hg.block i (Nat.lt_of_lt_of_le hi h.size) (by intro e; have := (World.ownsRow.lt hown i e.symm).1; omega)).trans (h.block i hi h1 h2 h3)⟩
/-- A message whose parts were read. -/
def msgR (m : Msg5) : Prop := dotP (m.node, m.n) ∧ Tx 1000 m.queue ∧ Tx 1000 m.body ∧ In 1048576 m.count
theorem tells_msgR : Tells msgR msgL := tells_msg.sub fun m h => by
  obtain ⟨h1, h2, h3, h4, h5⟩ := h
  have hq : (m.queue.size : Int) ≤ 1000 := h2
  have hb : (m.body.size : Int) ≤ 1000 := h3
  exact ⟨h1.up.1, h1.up.2, by omega, by omega, h4, by omega⟩
theorem msg_red {r r0 r1 r2 r3 : Rd} {p q c : Int} {qu bo : ByteArray} (h0 : Red dotP dotL r r0 (p, q)) (h1 : Red (Tx 1000) textZ r0 r1 qu) (h2 : Red (Tx 1000) textZ r1 r2 bo) (h3 : Red (In 1048576) numZ r2 r3 c) : Red msgR msgL r r3 ⟨p, q, qu, bo, c⟩ :=
  (h0.seq (h1.seq (h2.seq h3 (tells_tx (by decide))) (tells_tx (by decide))) tells_dotP).map (fun x : Dot2 × ByteArray × ByteArray × Int => (⟨x.1.1, x.1.2, x.2.1, x.2.2.1, x.2.2.2⟩ : Msg5)) (fun m => ((m.node, m.n), m.queue, m.body, m.count)) (fun _ h => ⟨h, rfl⟩) (fun _ h => ⟨h, rfl⟩)
/-- A bag that is read. -/
abbrev Bag3 := (List Dot2 × List Dot2) × List Msg5
def BagR (p : Bag3) : Prop := (p.1.1.length ≤ 1000 ∧ p.1.2.length ≤ 1000 ∧ p.2.length ≤ 1000) ∧ BagP p.2 p.1.1 p.1.2
def bagZ (p : Bag3) : List UInt8 := bagL p.2 p.1.1 p.1.2
theorem mayM.red {m : Msg5} (h : mayM m) : msgR m := by
  obtain ⟨h1, h2, h3, h4, h5, h6⟩ := h
  exact ⟨h1, show (m.queue.size : Int) ≤ 1000 by omega, show (m.body.size : Int) ≤ 1000 by omega, h5, h6⟩
theorem bagR_iff (p : Bag3) : ((CtxR p.1 ∧ (p.2.length : Int) ≤ 1000 ∧ ∀ m ∈ p.2, msgR m) ∧ BagP p.2 p.1.1 p.1.2) ↔ BagR p := by
  refine ⟨fun h => ⟨⟨h.1.1.1.1, h.1.1.1.2, by have := h.1.2.1; omega⟩, h.2⟩, fun h => ⟨⟨⟨⟨h.1.1, h.1.2.1⟩, h.2.ctx⟩, by have := h.1.2.2; omega, fun m hm => (h.2.live.all (Nat.le_refl _) m hm).1.red⟩, h.2⟩⟩
theorem tells_ctxR : Tells CtxR ctxZ := by
  rintro ⟨x1, x2⟩ ⟨y1, y2⟩ r t hx hy h
  simp only [ctxZ, ctxL, List.append_assoc] at h
  obtain ⟨e1, h⟩ := tells_row tells_dotP _ _ _ _ (show _ from ⟨by have := hx.1.1; simp only at this ⊢; omega, hx.2.dots.1⟩) (show _ from ⟨by have := hy.1.1; simp only at this ⊢; omega, hy.2.dots.1⟩) h
  obtain ⟨e2, h⟩ := tells_row tells_dotP _ _ _ _ (show _ from ⟨by have := hx.1.2; simp only at this ⊢; omega, hx.2.dots.2⟩) (show _ from ⟨by have := hy.1.2; simp only at this ⊢; omega, hy.2.dots.2⟩) h
  exact ⟨by rw [show x1 = y1 from e1, show x2 = y2 from e2], h⟩
def MsgsR (xs : List Msg5) : Prop := (xs.length : Int) ≤ 1000 ∧ ∀ y ∈ xs, msgR y
theorem tells_msgsR : Tells MsgsR (rowL msgL) := (tells_row tells_msgR).sub fun _ h => ⟨by have := h.1; omega, h.2⟩
/-- What bag.Read tells. -/
def BagTells (b : Nat) (r : Rd) (w : World) (e : Ending) (w' : World) : Prop :=
  ∃ am ab ac nl kl nb kb nc kc live bs cl r', e = .returned (.agg #[.slice am nl kl, .slice ab nb kb, .slice ac nc kc]) ∧ (live.length = nl ∧ bs.length = nb ∧ cl.length = nc) ∧ SlE eMsg 5 w' am live ∧ SlP w' ab bs ∧ SlP w' ac cl ∧ (∀ a, am = some a → w.heap.size ≤ a.block) ∧ (∀ a, ab = some a → w.heap.size ≤ a.block) ∧ (∀ a, ac = some a → w.heap.size ≤ a.block) ∧ IsRd w' b r' ∧ Red BagR bagZ r r' ((bs, cl), live) ∧ r'.left.size ≤ 1000000 ∧ Kept b w w'

set_option maxRecDepth 100000 in
set_option maxHeartbeats 8000000 in
theorem rbag_any (b : Nat) (r : Rd) (w : World) (hr : IsRd w b r) (hs : r.left.size ≤ 1000000) :
    Calls Try.prog 39 #[.pointer (some ⟨b, 0, none⟩)] w (BagTells b r w) := by
  obtain ⟨x, hx⟩ := nm w.heap.size
  have hbx : b < x := by rw [hx.out]; exact hr.lt
  obtain ⟨w0, hw0⟩ := nm (w.alloc (.cells #[.slice none 0 0, .slice none 0 0, .slice none 0 0] 27))
  have Kx : Hid (Blk w0 x #[.slice none 0 0, .slice none 0 0, .slice none 0 0] 27) := by show Blk _ _ _ _; rw [hw0.out, hx.out]; exact Blk.new _ _ _
  have HR : Hid (IsRd w0 b r) := by show IsRd _ _ _; rw [hw0.out]; exact Blk.alloc hr _
  have HP : Hid (Kept b w w0) := by show Kept _ _ _; rw [hw0.out]; exact (Kept.refl _ _).alloc _
  have hwx : Hid (w.heap.size ≤ x) := Nat.le_of_eq hx.out.symm
  clear hr
  go_enter Try.func39, Try.ntmps39
  go_upto_region 1 with fail
  rw [← hw0.out, ← hx.out]
  go_wp2_with fail
  refine (rctx_any b r _ HR.out hs).mono ?_; rintro e w1 ⟨ab, ac, nb, kb, nc, kc, bs, cl, r1, rfl, hnb, hnc, hsb, hsc, hfb, hfc, h1, hd1, hs1, hk⟩
  have hx0 : x < w0.heap.size := Kx.out.lt
  have HFB : Hid (∀ a, ab = some a → x < a.block) := fun a ha => by have := hfb a ha; omega
  have HFC : Hid (∀ a, ac = some a → x < a.block) := fun a ha => by have := hfc a ha; omega
  replace Kx := Lib.hid (hk.blk Kx.out (by omega))
  replace HP := Lib.hid (HP.out.trans hk)
  obtain ⟨c, hc⟩ := nm w1.heap.size
  have hbc : b < c := by rw [hc.out]; exact h1.lt
  have hxc : x < c := by rw [hc.out]; exact Kx.out.lt
  have HSB : Hid (SlP w1 ab bs) := hsb
  have HSC : Hid (SlP w1 ac cl) := hsc
  have HLB : Hid (∀ a, ab = some a → 0 < bs.length → a.block < c) := by
    show ∀ a, _
    intro a ha h0
    obtain ⟨b', off', e, hl⟩ := HSB.out.base h0
    rw [ha] at e; cases e; rw [hc.out]; exact hl
  have HLC : Hid (∀ a, ac = some a → 0 < cl.length → a.block < c) := by
    show ∀ a, _
    intro a ha h0
    obtain ⟨b', off', e, hl⟩ := HSC.out.base h0
    rw [ha] at e; cases e; rw [hc.out]; exact hl
  obtain ⟨w2, hw2⟩ := nm (w1.alloc (.cells #[.slice none 0 0, .slice ab nb kb, .slice ac nc kc] 27))
  have Kc : Hid (Blk w2 c #[.slice none 0 0, .slice ab nb kb, .slice ac nc kc] 27) := by show Blk _ _ _ _; rw [hw2.out, hc.out]; exact Blk.new _ _ _
  replace Kx : Hid (Blk w2 x #[.slice none 0 0, .slice none 0 0, .slice none 0 0] 27) := by show Blk _ _ _ _; rw [hw2.out]; exact Kx.out.alloc _
  replace HR : Hid (IsRd w2 b r1) := by show IsRd _ _ _; rw [hw2.out]; exact Blk.alloc h1 _
  replace HP : Hid (Kept b w w2) := by show Kept _ _ _; rw [hw2.out]; exact HP.out.alloc _
  obtain ⟨B0, hB0⟩ := nm w2.heap.size
  have hcB : c < B0 := by rw [hB0.out, hw2.out, hc.out]; simp
  have hwc : w.heap.size ≤ c := by rw [← hx.out]; omega
  have stay : ∀ w', Tri b x c w2 w' → SlP w' ab bs ∧ SlP w' ac cl := by
    intro w' ht
    have ht1 : Tri b x c w1 w' := by
      have : Tri b x c w1 w2 := by rw [hw2.out]; exact (Tri.refl _ _ _ _).alloc _
      exact this.trans ht
    constructor
    · rcases Nat.eq_zero_or_pos bs.length with h0 | h0
      · rw [List.length_eq_zero_iff.1 h0]; exact SlP.nil _ _
      · exact HSB.out.tri (fun a ha => by have h2 := HFB.out a ha; have h3 := HLB.out a ha h0; exact ⟨by omega, by omega, by omega⟩) ht1
    · rcases Nat.eq_zero_or_pos cl.length with h0 | h0
      · rw [List.length_eq_zero_iff.1 h0]; exact SlP.nil _ _
      · exact HSC.out.tri (fun a ha => by have h2 := HFC.out a ha; have h3 := HLC.out a ha h0; exact ⟨by omega, by omega, by omega⟩) ht1
  have STAY := Lib.hid stay
  have D1 := Lib.hid hd1
  have HNB := Lib.hid hnb
  have HNC := Lib.hid hnc
  have HWB : Hid (∀ a, ab = some a → w.heap.size ≤ a.block) := fun a ha => by have := HFB.out a ha; have := hwx.out; omega
  have HWC : Hid (∀ a, ac = some a → w.heap.size ≤ a.block) := fun a ha => by have := HFC.out a ha; have := hwx.out; omega
  obtain ⟨i1, i2, i3⟩ := r1.int_lt 1000
  have hq0 := red_int r1 1000 (by decide)
  obtain ⟨q, hq⟩ := nm (r1.int 1000).1
  obtain ⟨n, hn⟩ := nm (r1.int 1000).2
  rw [← hq.out] at i2 hq0
  rw [← hn.out] at i1 i3 hq0
  have hnm : n ≤ 1000 := by omega
  have hqs : q.left.size ≤ 1000000 := by omega
  have HQ := Lib.hid hq0
  have bad : ∀ w' r' rr (zs : List Msg5), Red MsgsR (rowL msgL) r1 rr zs → r'.torn = true → r'.left.size ≤ 1000000 → (rr.torn = true ∨ ¬ BagP zs bs cl) → IsRd w' b r' → Kept b w w' → BagTells b r w (.returned (.agg #[.slice none 0 0, .slice none 0 0, .slice none 0 0])) w' := by
    intro w' r' rr zs hred h1 h2 h3 h4 h5
    refine ⟨none, none, none, 0, 0, 0, 0, 0, 0, [], [], [], r', rfl, ⟨rfl, rfl, rfl⟩, SlE.nil _ _ _ _, SlP.nil _ _, SlP.nil _ _, fun a h => (by cases h), fun a h => (by cases h), fun a h => (by cases h), h4, ?_, h2, h5⟩
    have hall := D1.out.seq hred tells_ctxR
    exact (Red.fail (C := fun p : Bag3 => BagP p.2 p.1.1 p.1.2) hall (tells_ctxR.seq tells_msgsR) h3 h1).iff bagR_iff
  have BAD := Lib.hid bad
  clear h1 hk hsb hsc hfb hfc hd1 hnb hnc stay bad i1 i2 i3 hq0 HLB HLC HFB HFC
  go_upto_region 2 with fail
  rw [← hw2.out, ← hc.out]
  go_wp2_with fail
  refine (rint_any b r1 1000 _ HR.out (by omega) (by decide)).mono ?_; rintro e w3 ⟨rfl, h3, hk⟩
  rw [← hq.out] at h3
  rw [← hn.out]
  replace HR := Lib.hid h3
  replace Kx := Lib.hid (hk.blk Kx.out (by omega))
  replace Kc := Lib.hid (hk.blk Kc.out (by omega))
  replace HP := Lib.hid (HP.out.trans hk)
  have HT : Hid (Tri b x c w2 w3) := Tri.ofKept hk
  clear h3 hk
  go_wp2_with fail
  go_loopw [10] (fun i wr => ∃ (k : Nat) (ri : Rd) (zs : List Msg5) (v : Value), k ≤ n ∧ i = .int .i64 (k : Int) ∧ zs.length = k ∧ Hid (IsRd wr b ri) ∧ Hid (Blk wr c #[v, .slice ab nb kb, .slice ac nc kc] 27) ∧ Hid (Blk wr x #[.slice none 0 0, .slice none 0 0, .slice none 0 0] 27) ∧ OwnE eMsg 5 wr B0 48 v zs ∧ Hid (Kept b w wr) ∧ Hid (Tri b x c w2 wr) ∧ ri.left.size ≤ 1000000 ∧ Hid (RedN msgR msgL n q k ri zs)) (fun i _ => n - (intOf i).toNat)
  case atStart => exact ⟨0, q, [], _, by omega, rfl, rfl, HR, Kc, Kx, OwnE.nil _ _ _, HP, HT, hqs, RedN.zero q⟩
  case round =>
    clear HR Kx Kc HP HT
    obtain ⟨k, ri, zs, v, hkn, rfl, hz, HR, Kc, Kx, hown, HP, HT, hsz, hI⟩ := hrel
    by_cases hlt : k < n
    · go_wp2_with fail
      refine (rdot_red b ri _ HR.out hsz).mono ?_; rintro e w4 ⟨p, pn, q0, rfl, h4, hred0, z0, hk4⟩
      have hbB : b < B0 := by omega
      have HO : Hid (OwnE eMsg 5 w4 B0 48 v zs) := hown.kept hk4 hbB
      replace HR := Lib.hid h4
      replace Kx := Lib.hid (hk4.blk Kx.out (by omega))
      replace Kc := Lib.hid (hk4.blk Kc.out (by omega))
      replace HP := Lib.hid (HP.out.trans hk4)
      replace HT := Lib.hid (HT.out.trans (Tri.ofKept hk4))
      have R0 := Lib.hid hred0
      clear hown h4 hk4 hred0
      obtain ⟨d, hd⟩ := nm w4.heap.size
      have hbd : b < d := by rw [hd.out]; exact HR.out.lt
      have hxd : x < d := by rw [hd.out]; exact Kx.out.lt
      have hcd : c < d := by rw [hd.out]; exact Kc.out.lt
      have hwd : w.heap.size ≤ d := by rw [hd.out]; exact HP.out.size
      have hBd : w2.heap.size ≤ d := by rw [hd.out]; exact HT.out.size
      have HD : Hid (∀ g, v.ownBlock = some g → g < d) := by show ∀ g, _; rw [hd.out]; exact fun g hg => (World.ownsRow.lt HO.out g hg).2
      obtain ⟨w5, hw5⟩ := nm (w4.alloc (.cells #[.int .i64 p, .int .i64 pn, .string ⟨#[]⟩, .string ⟨#[]⟩, .int .i64 0] 48))
      have Kd : Hid (Blk w5 d #[.int .i64 p, .int .i64 pn, .string ⟨#[]⟩, .string ⟨#[]⟩, .int .i64 0] 48) := by show Blk _ _ _ _; rw [hw5.out, hd.out]; exact Blk.new _ _ _
      replace HR : Hid (IsRd w5 b q0) := by show IsRd _ _ _; rw [hw5.out]; exact Blk.alloc HR.out _
      replace Kx : Hid (Blk w5 x #[.slice none 0 0, .slice none 0 0, .slice none 0 0] 27) := by show Blk _ _ _ _; rw [hw5.out]; exact Kx.out.alloc _
      replace Kc : Hid (Blk w5 c #[v, .slice ab nb kb, .slice ac nc kc] 27) := by show Blk _ _ _ _; rw [hw5.out]; exact Kc.out.alloc _
      replace HO : Hid (OwnE eMsg 5 w5 B0 48 v zs) := by show OwnE _ _ _ _ _ _ _; rw [hw5.out]; exact HO.out.alloc _
      replace HP : Hid (Kept b w w5) := by show Kept _ _ _; rw [hw5.out]; exact HP.out.alloc _
      replace HT : Hid (Tri b x c w2 w5) := by show Tri _ _ _ _ _; rw [hw5.out]; exact HT.out.alloc _
      go_upto_region 5 with fail
      rw [← hw5.out, ← hd.out]
      clear hw5
      have r2 := red_text q0 1000 (by decide)
      have z2 := q0.text_sz 1000
      obtain ⟨q1, hq1⟩ := nm (q0.text 1000).1
      obtain ⟨qu, hqu⟩ := nm (q0.text 1000).2
      rw [← hq1.out, ← hqu.out] at r2
      rw [← hq1.out] at z2
      have R2 := Lib.hid r2
      clear r2
      go_wp2_with fail
      refine (rtext_any b q0 1000 _ HR.out (by omega) (by decide)).mono ?_; rintro e w6 ⟨rfl, h6, hk6⟩
      rw [← hq1.out] at h6
      rw [← hqu.out]
      replace Kd := Lib.hid (hk6.blk Kd.out (by omega))
      replace Kx := Lib.hid (hk6.blk Kx.out (by omega))
      replace Kc := Lib.hid (hk6.blk Kc.out (by omega))
      replace HO := Lib.hid (HO.out.kept hk6 hbB)
      replace HP := Lib.hid (HP.out.trans hk6)
      replace HT := Lib.hid (HT.out.trans (Tri.ofKept hk6))
      have dc : w6.cell? ⟨d, 2, none⟩ = some (.string ⟨#[]⟩) := Kd.out.cell 2
      have df : w6.frozen? ⟨d, 2, none⟩ = false := Kd.out.free 2
      obtain ⟨w7, hw7⟩ := nm (w6.setCell ⟨d, 2, none⟩ (.string qu))
      replace Kd : Hid (Blk w7 d #[.int .i64 p, .int .i64 pn, .string qu, .string ⟨#[]⟩, .int .i64 0] 48) := by show Blk _ _ _ _; rw [hw7.out]; exact Kd.out.set 2 _
      replace Kx : Hid (Blk w7 x #[.slice none 0 0, .slice none 0 0, .slice none 0 0] 27) := by show Blk _ _ _ _; rw [hw7.out]; exact Kx.out.setOther (by simp only; omega) _
      replace Kc : Hid (Blk w7 c #[v, .slice ab nb kb, .slice ac nc kc] 27) := by show Blk _ _ _ _; rw [hw7.out]; exact Kc.out.setOther (by simp only; omega) _
      have HRn : Hid (IsRd w7 b q1) := by show IsRd _ _ _; rw [hw7.out]; exact Blk.setOther h6 (by simp only; omega) _
      replace HO : Hid (OwnE eMsg 5 w7 B0 48 v zs) := by show OwnE _ _ _ _ _ _ _; rw [hw7.out]; exact HO.out.setAt HD.out
      replace HP : Hid (Kept b w w7) := by show Kept _ _ _; rw [hw7.out]; exact HP.out.setNew hwd _
      replace HT : Hid (Tri b x c w2 w7) := by show Tri _ _ _ _ _; rw [hw7.out]; exact HT.out.setNew hBd _
      clear hk6 h6 HR
      have HR := HRn
      clear HRn
      go_upto_region 6 with fail
      rw [← hw7.out]
      clear dc df hw7
      have r3 := red_text q1 1000 (by decide)
      have z3 := q1.text_sz 1000
      obtain ⟨q2, hq2⟩ := nm (q1.text 1000).1
      obtain ⟨bo, hbo⟩ := nm (q1.text 1000).2
      rw [← hq2.out, ← hbo.out] at r3
      rw [← hq2.out] at z3
      have R3 := Lib.hid r3
      clear r3
      go_wp2_with fail
      refine (rtext_any b q1 1000 _ HR.out (by omega) (by decide)).mono ?_; rintro e w6 ⟨rfl, h6, hk6⟩
      rw [← hq2.out] at h6
      rw [← hbo.out]
      replace Kd := Lib.hid (hk6.blk Kd.out (by omega))
      replace Kx := Lib.hid (hk6.blk Kx.out (by omega))
      replace Kc := Lib.hid (hk6.blk Kc.out (by omega))
      replace HO := Lib.hid (HO.out.kept hk6 hbB)
      replace HP := Lib.hid (HP.out.trans hk6)
      replace HT := Lib.hid (HT.out.trans (Tri.ofKept hk6))
      have dc : w6.cell? ⟨d, 3, none⟩ = some (.string ⟨#[]⟩) := Kd.out.cell 3
      have df : w6.frozen? ⟨d, 3, none⟩ = false := Kd.out.free 3
      obtain ⟨w7, hw7⟩ := nm (w6.setCell ⟨d, 3, none⟩ (.string bo))
      replace Kd : Hid (Blk w7 d #[.int .i64 p, .int .i64 pn, .string qu, .string bo, .int .i64 0] 48) := by show Blk _ _ _ _; rw [hw7.out]; exact Kd.out.set 3 _
      replace Kx : Hid (Blk w7 x #[.slice none 0 0, .slice none 0 0, .slice none 0 0] 27) := by show Blk _ _ _ _; rw [hw7.out]; exact Kx.out.setOther (by simp only; omega) _
      replace Kc : Hid (Blk w7 c #[v, .slice ab nb kb, .slice ac nc kc] 27) := by show Blk _ _ _ _; rw [hw7.out]; exact Kc.out.setOther (by simp only; omega) _
      have HRn : Hid (IsRd w7 b q2) := by show IsRd _ _ _; rw [hw7.out]; exact Blk.setOther h6 (by simp only; omega) _
      replace HO : Hid (OwnE eMsg 5 w7 B0 48 v zs) := by show OwnE _ _ _ _ _ _ _; rw [hw7.out]; exact HO.out.setAt HD.out
      replace HP : Hid (Kept b w w7) := by show Kept _ _ _; rw [hw7.out]; exact HP.out.setNew hwd _
      replace HT : Hid (Tri b x c w2 w7) := by show Tri _ _ _ _ _; rw [hw7.out]; exact HT.out.setNew hBd _
      clear hk6 h6 HR
      have HR := HRn
      clear HRn
      go_upto_region 7 with fail
      rw [← hw7.out]
      clear dc df hw7
      have r4 := red_int q2 1048576 (by decide)
      have z4 := q2.int_sz 1048576
      obtain ⟨q3, hq3⟩ := nm (q2.int 1048576).1
      obtain ⟨ct, hct⟩ := nm (((q2.int 1048576).2 : Nat) : Int)
      rw [← hq3.out, ← hct.out] at r4
      rw [← hq3.out] at z4
      have R4 := Lib.hid r4
      clear r4
      go_wp2_with fail
      refine (rint_any b q2 1048576 _ HR.out (by omega) (by decide)).mono ?_; rintro e w6 ⟨rfl, h6, hk6⟩
      rw [← hq3.out] at h6
      rw [← hct.out]
      replace Kd := Lib.hid (hk6.blk Kd.out (by omega))
      replace Kx := Lib.hid (hk6.blk Kx.out (by omega))
      replace Kc := Lib.hid (hk6.blk Kc.out (by omega))
      replace HO := Lib.hid (HO.out.kept hk6 hbB)
      replace HP := Lib.hid (HP.out.trans hk6)
      replace HT := Lib.hid (HT.out.trans (Tri.ofKept hk6))
      have dc : w6.cell? ⟨d, 4, none⟩ = some (.int .i64 0) := Kd.out.cell 4
      have df : w6.frozen? ⟨d, 4, none⟩ = false := Kd.out.free 4
      obtain ⟨w7, hw7⟩ := nm (w6.setCell ⟨d, 4, none⟩ (.int .i64 ct))
      replace Kd : Hid (Blk w7 d #[.int .i64 p, .int .i64 pn, .string qu, .string bo, .int .i64 ct] 48) := by show Blk _ _ _ _; rw [hw7.out]; exact Kd.out.set 4 _
      replace Kx : Hid (Blk w7 x #[.slice none 0 0, .slice none 0 0, .slice none 0 0] 27) := by show Blk _ _ _ _; rw [hw7.out]; exact Kx.out.setOther (by simp only; omega) _
      replace Kc : Hid (Blk w7 c #[v, .slice ab nb kb, .slice ac nc kc] 27) := by show Blk _ _ _ _; rw [hw7.out]; exact Kc.out.setOther (by simp only; omega) _
      have HRn : Hid (IsRd w7 b q3) := by show IsRd _ _ _; rw [hw7.out]; exact Blk.setOther h6 (by simp only; omega) _
      replace HO : Hid (OwnE eMsg 5 w7 B0 48 v zs) := by show OwnE _ _ _ _ _ _ _; rw [hw7.out]; exact HO.out.setAt HD.out
      replace HP : Hid (Kept b w w7) := by show Kept _ _ _; rw [hw7.out]; exact HP.out.setNew hwd _
      replace HT : Hid (Tri b x c w2 w7) := by show Tri _ _ _ _ _; rw [hw7.out]; exact HT.out.setNew hBd _
      clear hk6 h6 HR
      have HR := HRn
      clear HRn
      go_upto_region 8 with fail
      rw [← hw7.out]
      clear dc df hw7
      have HN : Hid (RedN msgR msgL n q (k + 1) q3 (zs ++ [Msg5.mk p pn qu bo ct])) := hI.out.next tells_msgR hlt (msg_red R0.out R2.out R3.out R4.out)
      clear hI R0 R2 R3 R4
      have hsz3 : q3.left.size ≤ 1000000 := by omega
      have hB7 : B0 ≤ w7.heap.size := by rw [hB0.out]; exact HT.out.size
      have y0 : w7.cell? ⟨d, 0, none⟩ = some (.int .i64 p) := Kd.out.cell 0
      have y1 : w7.cell? ⟨d, 1, none⟩ = some (.int .i64 pn) := Kd.out.cell 1
      have y2 : w7.cell? ⟨d, 2, none⟩ = some (.string qu) := Kd.out.cell 2
      have y3 : w7.cell? ⟨d, 3, none⟩ = some (.string bo) := Kd.out.cell 3
      have y4 : w7.cell? ⟨d, 4, none⟩ = some (.int .i64 ct) := Kd.out.cell 4
      have e0 : w7.cell? ⟨c, 0, none⟩ = some v := Kc.out.cell 0
      go_wp2_with (at_builtin; refine app_E encMsg Try.underlying22 infoMsg rfl (by decide) rfl _ _ rfl B0 _ zs rfl (HO.out.alloc _) (some ⟨w7.heap.size, 0, none⟩) 1 1 [Msg5.mk p pn qu bo ct] rfl rfl (fun h => by cases h) (SlE.ofBlk encMsg (Blk.new w7 _ _)) (by omega) (Nat.le_trans hB7 (by simp)) ?_)
      intro v' w8 hown8 hgrow
      obtain ⟨ao2, len2, cap2, rfl⟩ : ∃ a l c, v' = .slice a l c := by
        obtain ⟨a, c, e, _⟩ := hown8.sl encMsg
        exact ⟨a, _, c, e⟩
      have HR8 : Hid (IsRd w8 b q3) := OwnE.blk (HO.out.alloc _) (Blk.alloc HR.out _) hbB hgrow
      have Kc8 : Hid (Blk w8 c #[v, .slice ab nb kb, .slice ac nc kc] 27) := OwnE.blk (HO.out.alloc _) (Blk.alloc Kc.out _) (by omega) hgrow
      have Kx8 : Hid (Blk w8 x #[.slice none 0 0, .slice none 0 0, .slice none 0 0] 27) := OwnE.blk (HO.out.alloc _) (Blk.alloc Kx.out _) (by omega) hgrow
      have HP8 : Hid (Kept b w w8) := OwnE.grownK (HO.out.alloc _) (HP.out.alloc _) (by omega) hgrow
      have HT8 : Hid (Tri b x c w2 w8) := OwnE.tri (HO.out.alloc _) (HT.out.alloc _) (Nat.le_of_eq hB0.out.symm) hgrow
      clear hgrow HR Kx Kc HO HP HT Kd HD y0 y1 y2 y3 y4 e0
      have e0 : w8.cell? ⟨c, 0, none⟩ = some v := Kc8.out.cell 0
      have ef : w8.frozen? ⟨c, 0, none⟩ = false := Kc8.out.free 0
      obtain ⟨w9, hw9⟩ := nm (w8.setCell ⟨c, 0, none⟩ (.slice ao2 len2 cap2))
      have Kc : Hid (Blk w9 c #[.slice ao2 len2 cap2, .slice ab nb kb, .slice ac nc kc] 27) := by show Blk _ _ _ _; rw [hw9.out]; exact Kc8.out.set 0 _
      have Kx : Hid (Blk w9 x #[.slice none 0 0, .slice none 0 0, .slice none 0 0] 27) := by show Blk _ _ _ _; rw [hw9.out]; exact Kx8.out.setOther (by simp only; omega) _
      have HR : Hid (IsRd w9 b q3) := by show IsRd _ _ _; rw [hw9.out]; exact Blk.setOther HR8.out (by simp only; omega) _
      have HO : Hid (OwnE eMsg 5 w9 B0 48 (.slice ao2 len2 cap2) (zs ++ [Msg5.mk p pn qu bo ct])) := by show OwnE _ _ _ _ _ _ _; rw [hw9.out]; exact OwnE.kept (b := c) (base := B0) hown8 ((Kept.refl c w8).set 0 _) (by omega)
      have HP : Hid (Kept b w w9) := by show Kept _ _ _; rw [hw9.out]; exact HP8.out.setNew hwc _
      have HT : Hid (Tri b x c w2 w9) := by show Tri _ _ _ _ _; rw [hw9.out]; exact HT8.out.set (p := ⟨c, 0, none⟩) (.inr (.inr rfl)) _
      clear HR8 Kc8 Kx8 HP8 HT8 hown8
      go_upto_region 9 with fail
      rw [← hw9.out]
      clear e0 ef hw9
      obtain ⟨T, hT⟩ := nm q3.torn
      go_wp2_with fail
      refine (fine_is' T b q3 hT _ HR.out).mono ?_; rintro e wa ⟨rfl, rfl⟩
      cases T
      · go_wp2_with fail
        go_roundw
        case rel => exact ⟨k + 1, q3, zs ++ [Msg5.mk p pn qu bo ct], _, by omega, by go_num, by simp [hz], HR, Kc, Kx, HO.out, HP, HT, hsz3, HN⟩
        case measure => simp [intOf]; omega
      · have htt : q3.torn = true := by first | exact hT.out.symm | simpa using hT.out
        have xb := Kx.out
        have xc0 := xb.cell 0
        have xc1 := xb.cell 1
        have xc2 := xb.cell 2
        have xf0 := xb.free 0
        have xf1 := xb.free 1
        have xf2 := xb.free 2
        go_wp2_with fail
        refine bodyPost_ret (results_cell_row rfl _ _ x 27 #[.slice none 0 0, .slice none 0 0, .slice none 0 0] (0, 0) _ rfl (((xb.set 0 _).set 1 _).set 2 _) Try.underlying27 rfl infoBg) rfl ?_
        exact BAD.out _ q3 q3 [] (HN.out.stop HQ.out (by decide) htt htt) htt hsz3 (.inl htt) (Blk.setOther (Blk.setOther (Blk.setOther HR.out (by simp only; omega) _) (by simp only; omega) _) (by simp only; omega) _) (((HP.out.setNew hwx.out _).setNew hwx.out _).setNew hwx.out _)
    · obtain rfl : k = n := by omega
      have hall : Red MsgsR (rowL msgL) r1 ri zs := hI.out.red HQ.out (by decide)
      have HALL := Lib.hid hall
      clear hI HQ hall
      obtain ⟨am, kl, rfl, _, _, hsl, _, hab⟩ := hown.sl encMsg
      have HSL := Lib.hid hsl
      have HZ : Hid (zs.length = k) := hz
      have HWA : Hid (∀ a, am = some a → w.heap.size ≤ a.block) := fun a ha => by have := hab a ha; omega
      have HAB := Lib.hid hab
      clear hown hsl hab
      rw [hz] at Kc
      clear hz
      obtain ⟨t1, t2⟩ := ri.int_neg
      obtain ⟨T, hT⟩ := nm ri.torn
      cases T
      rotate_left
      · have xc : wr.cell? ⟨x, 0, none⟩ = some (.slice none 0 0) := Kx.out.cell 0
        go_wp2_with fail
        refine (fine_is' true b ri hT _ HR.out).mono ?_; rintro e w5 ⟨rfl, rfl⟩
        go_wp2_with fail
        refine (rint_any b ri (-1) _ HR.out (by omega) (by decide)).mono ?_; rintro e w6 ⟨rfl, h6, hk6⟩
        have xb := hk6.blk Kx.out (by omega)
        clear xc
        have xc0 := xb.cell 0
        have xc1 := xb.cell 1
        have xc2 := xb.cell 2
        have xf0 := xb.free 0
        have xf1 := xb.free 1
        have xf2 := xb.free 2
        go_wp2_with fail
        refine bodyPost_ret (results_cell_row rfl _ _ x 27 #[.slice none 0 0, .slice none 0 0, .slice none 0 0] (0, 0) _ rfl (((xb.set 0 _).set 1 _).set 2 _) Try.underlying27 rfl infoBg) rfl ?_
        exact BAD.out _ _ ri zs HALL.out t1 (by omega) (.inl hT.out.symm) (Blk.setOther (Blk.setOther (Blk.setOther h6 (by simp only; omega) _) (by simp only; omega) _) (by simp only; omega) _) ((((HP.out.trans hk6).setNew hwx.out _).setNew hwx.out _).setNew hwx.out _)
      obtain ⟨j1, j2, j3⟩ := D1.out.is (HALL.out.is hT.out.symm).1
      have hln1 : bs.length ≤ 1000 := j2.1.1
      have hln2 : cl.length ≤ 1000 := j2.1.2
      clear j1 j2 j3
      have hnb6 : nb ≤ 1000000 := by rw [← HNB.out]; omega
      have hnc6 : nc ≤ 1000000 := by rw [← HNC.out]; omega
      clear hln1 hln2
      obtain ⟨B, hB, hBf, hBt⟩ := boolOf (BagP zs bs cl)
      obtain ⟨E, hE⟩ := nm (errno B)
      obtain ⟨s1, s2⟩ := STAY.out _ HT.out
      have cc0 : wr.cell? ⟨c, 0, none⟩ = some (.slice am k kl) := Kc.out.cell 0
      have cc1 : wr.cell? ⟨c, 1, none⟩ = some (.slice ab nb kb) := Kc.out.cell 1
      have cc2 : wr.cell? ⟨c, 2, none⟩ = some (.slice ac nc kc) := Kc.out.cell 2
      go_wp2_with fail
      refine (fine_is' false b ri hT _ HR.out).mono ?_; rintro e w5 ⟨rfl, rfl⟩
      go_wp2_with fail
      refine (bagcheck_any am ab ac k kl nb kb nc kc zs bs cl HZ (by omega) HNB hnb6 HNC hnc6 B hB E hE _ HSL.out s1 s2).mono ?_; rintro e w6 ⟨rfl, hB6⟩
      have hxr := Kx.out.lt
      have hcr := Kc.out.lt
      have hbr := HR.out.lt
      replace Kx := Lib.hid (Kx.out.below hB6 hxr)
      replace Kc := Lib.hid (Kc.out.below hB6 hcr)
      replace HR : Hid (IsRd w6 b ri) := Blk.below HR.out hB6 hbr
      replace HP := Lib.hid (HP.out.trans (Kept.ofBelow hB6))
      replace HT := Lib.hid (HT.out.trans (Tri.ofBelow hB6))
      replace HSL := Lib.hid (HSL.out.below hB6)
      clear cc0 cc1 cc2 s1 s2 hB6 hxr hcr hbr
      have hE2 := hE.out
      cases B
      · obtain rfl : E = 1 := hE2
        have xc : w6.cell? ⟨x, 0, none⟩ = some (.slice none 0 0) := Kx.out.cell 0
        go_wp2_with fail
        refine (rint_any b ri (-1) _ HR.out (by omega) (by decide)).mono ?_; rintro e w7 ⟨rfl, h7, hk7⟩
        have xb := hk7.blk Kx.out (by omega)
        clear xc
        have xc0 := xb.cell 0
        have xc1 := xb.cell 1
        have xc2 := xb.cell 2
        have xf0 := xb.free 0
        have xf1 := xb.free 1
        have xf2 := xb.free 2
        go_wp2_with fail
        refine bodyPost_ret (results_cell_row rfl _ _ x 27 #[.slice none 0 0, .slice none 0 0, .slice none 0 0] (0, 0) _ rfl (((xb.set 0 _).set 1 _).set 2 _) Try.underlying27 rfl infoBg) rfl ?_
        exact BAD.out _ _ ri zs HALL.out t1 (by omega) (.inr (hBf.out (by first | exact rfl | exact trivial))) (Blk.setOther (Blk.setOther (Blk.setOther h7 (by simp only; omega) _) (by simp only; omega) _) (by simp only; omega) _) ((((HP.out.trans hk7).setNew hwx.out _).setNew hwx.out _).setNew hwx.out _)
      · obtain rfl : E = 0 := hE2
        have xb := Kx.out
        have xc0 := xb.cell 0
        have xc1 := xb.cell 1
        have xc2 := xb.cell 2
        have xf0 := xb.free 0
        have xf1 := xb.free 1
        have xf2 := xb.free 2
        have cc0 : w6.cell? ⟨c, 0, none⟩ = some (.slice am k kl) := Kc.out.cell 0
        have cc1 : w6.cell? ⟨c, 1, none⟩ = some (.slice ab nb kb) := Kc.out.cell 1
        have cc2 : w6.cell? ⟨c, 2, none⟩ = some (.slice ac nc kc) := Kc.out.cell 2
        go_wp2_with fail
        refine bodyPost_ret (results_cell_row rfl _ _ x 27 #[.slice am k kl, .slice ab nb kb, .slice ac nc kc] (0, 0) _ rfl (((xb.set 0 _).set 1 _).set 2 _) Try.underlying27 rfl infoBg) rfl ?_
        have ht3 : Tri b x c w6 (((w6.setCell ⟨x, 0, none⟩ (.slice am k kl)).setCell ⟨x, 1, none⟩ (.slice ab nb kb)).setCell ⟨x, 2, none⟩ (.slice ac nc kc)) := (((Tri.refl _ _ _ _).set (p := ⟨x, 0, none⟩) (.inr (.inl rfl)) _).set (p := ⟨x, 1, none⟩) (.inr (.inl rfl)) _).set (p := ⟨x, 2, none⟩) (.inr (.inl rfl)) _
        have h7 := STAY.out _ (HT.out.trans ht3)
        refine ⟨am, ab, ac, k, kl, nb, kb, nc, kc, zs, bs, cl, ri, rfl, ⟨HZ.out, HNB.out, HNC.out⟩, HSL.out.tri (fun a ha => by have := HAB.out a ha; exact ⟨by omega, by omega, by omega⟩) ht3, h7.1, h7.2, HWA.out, HWB.out, HWC.out, (Blk.setOther (Blk.setOther (Blk.setOther HR.out (by simp only; omega) _) (by simp only; omega) _) (by simp only; omega) _), ?_, hsz, (((HP.out.setNew hwx.out _).setNew hwx.out _).setNew hwx.out _)⟩
        exact (Red.pass (C := fun p : Bag3 => BagP p.2 p.1.1 p.1.2) (D1.out.seq HALL.out tells_ctxR) fun _ => hBt.out (by first | exact rfl | exact trivial)).iff bagR_iff
end Go.Proofs.Ytfpjdmplepepjaa

/-! WReadL: What stands there whole: what is said. No program in sight. -/
namespace Go.Proofs.Ytfpjdmplepepjaa
open Go.RowKit

theorem Rd.items_red (most : Int) (hm : most ≤ 9223372036854775807) : ∀ (n : Nat) (r : Rd), (∀ q l, Rd.items most n r = (q, some l) → RedN (In most) numZ n r n q l) ∧ (∀ q, Rd.items most n r = (q, none) → q.torn = true ∧ ∀ (ys : List Int) (t : List UInt8), r.torn = false → ys.length = n → (∀ y ∈ ys, In most y) → bl r.left ≠ ys.flatMap numZ ++ t)
  | 0, r => by
    refine ⟨fun q l h => ?_, fun q h => by cases h⟩
    cases h
    exact RedN.zero r
  | n + 1, r => by
    have hd := red_int r most hm
    obtain ⟨i1, i2⟩ := Rd.items_red most hm n (r.int most).1
    have far : (∀ (ys : List Int) (t : List UInt8), (r.int most).1.torn = false → ys.length = n → (∀ y ∈ ys, In most y) → bl (r.int most).1.left ≠ ys.flatMap numZ ++ t) → ∀ (ys : List Int) (t : List UInt8), r.torn = false → ys.length = n + 1 → (∀ y ∈ ys, In most y) → bl r.left ≠ ys.flatMap numZ ++ t := by
      intro h ys t hr hl hy e
      obtain ⟨y, ys, rfl⟩ : ∃ y zs, ys = y :: zs := by cases ys with | nil => simp at hl | cons y zs => exact ⟨y, zs, rfl⟩
      rw [List.flatMap_cons, List.append_assoc] at e
      rcases hd with ⟨h1, h2, h3, h4⟩ | ⟨h1, h2⟩
      · rw [h4] at e
        obtain ⟨_, e2⟩ := tells_in hm _ _ _ _ h3 (hy y (by simp)) e
        exact h ys t h1 (by simpa using hl) (fun z hz => hy z (by simp [hz])) e2
      · exact h2 y _ hr (hy y (by simp)) e
    rw [Rd.items]
    cases ht : (r.int most).1.torn with
    | true =>
      rw [if_pos rfl]
      refine ⟨fun q l h => (by cases h), fun q h => ?_⟩
      cases h
      exact ⟨ht, far fun ys t h => by rw [ht] at h; cases h⟩
    | false =>
      rw [if_neg (by simp)]
      obtain ⟨⟨q', o⟩, ho⟩ := nm (Rd.items most n (r.int most).1)
      rw [← ho.out] at i1 i2 ⊢
      obtain ⟨h1, h2, h3⟩ := hd.is ht
      cases o with
      | none =>
        refine ⟨fun q l h => (by cases h), fun q h => ?_⟩
        cases h
        obtain ⟨g1, g2⟩ := i2 _ rfl
        exact ⟨g1, far g2⟩
      | some l' =>
        refine ⟨fun q l h => ?_, fun q h => (by cases h)⟩
        cases h
        obtain ⟨g1, g2⟩ := i1 _ _ rfl
        refine ⟨by simp [g1], ?_⟩
        rcases g2 with ⟨k1, k2, k3, k4⟩ | ⟨k1, k2⟩
        · refine .inl ⟨k1, h1, ?_, ?_⟩
          · intro z hz
            rcases List.mem_cons.1 hz with rfl | hz
            · exact h2
            · exact k3 z hz
          · rw [h3, k4, List.flatMap_cons, List.append_assoc]
        · exact .inr ⟨k1, far k2⟩
theorem Rd.items_sz (most : Int) : ∀ (n : Nat) (r : Rd), (Rd.items most n r).1.left.size ≤ r.left.size
  | 0, _ => Nat.le_refl _
  | n + 1, r => by
    have h1 := (r.int_lt most).2.1
    have h2 := Rd.items_sz most n (r.int most).1
    rw [Rd.items]
    split
    · exact h1
    · exact Nat.le_trans h2 h1
theorem Rd.nums_sz (r : Rd) (many most : Int) : (r.nums many most).1.left.size ≤ r.left.size := Nat.le_trans (Rd.items_sz _ _ _) (r.int_lt many).2.1
/-- Nine numbers. -/
def NineR (l : List Int) : Prop := l.length = 9 ∧ ∀ z ∈ l, In 1099511627776 z
theorem tells_nine : Tells NineR (rowL numZ) := (tells_row (tells_in (most := 1099511627776) (by decide))).sub fun _ h => ⟨by have := h.1; omega, h.2⟩
theorem nine_iff (y : List Int) : (((y.length : Int) ≤ 9 ∧ ∀ z ∈ y, In 1099511627776 z) ∧ y.length = 9) ↔ NineR y := ⟨fun h => ⟨h.2, h.1.2⟩, fun h => ⟨⟨by have := h.1; omega, h.2⟩, h.1⟩⟩
theorem nums_red (r : Rd) : ((r.nums 9 1099511627776).2.length = 9 → Red NineR (rowL numZ) r (r.nums 9 1099511627776).1 (r.nums 9 1099511627776).2) ∧ ((r.nums 9 1099511627776).2.length ≠ 9 → ∀ y t, r.torn = false → NineR y → bl r.left ≠ rowL numZ y ++ t) := by
  have h1 := red_int r 9 (by decide)
  obtain ⟨d1, d2⟩ := Rd.items_red 1099511627776 (by decide) (r.int 9).2 (r.int 9).1
  have ht : Tells (fun y : List Int => (y.length : Int) ≤ 9 ∧ ∀ z ∈ y, In 1099511627776 z) (rowL numZ) := (tells_row (tells_in (most := 1099511627776) (by decide))).sub fun _ h => ⟨by have := h.1; omega, h.2⟩
  unfold Rd.nums
  obtain ⟨⟨q, o⟩, ho⟩ := nm (Rd.items 1099511627776 (r.int 9).2 (r.int 9).1)
  rw [← ho.out] at d1 d2 ⊢
  cases o with
  | none =>
    obtain ⟨g1, g2⟩ := d2 _ rfl
    refine ⟨fun h => (by cases h), fun _ => ?_⟩
    have hn : RedN (In 1099511627776) numZ (r.int 9).2 (r.int 9).1 0 q [] := ⟨rfl, .inr ⟨g1, g2⟩⟩
    have hs := hn.stop (z := []) (r' := ⟨q.left, true⟩) h1 (by decide) g1 rfl
    intro y t hr hy
    exact hs.none rfl y t hr ((nine_iff y).2 hy).1
  | some l =>
    have hl := (d1 _ _ rfl).red h1 (by decide)
    simp only [Option.getD_some]
    refine ⟨fun h => (Red.pass (C := fun y : List Int => y.length = 9) hl fun _ => h).iff nine_iff, fun h => ?_⟩
    have hs := (Red.fail (C := fun y : List Int => y.length = 9) (z := []) (r'' := ⟨q.left, true⟩) hl ht (.inr h) rfl).iff nine_iff
    exact hs.none rfl

/-- It says m. -/
def SaidBy (S : ByteArray) (m : WL) : Prop := m.May ∧ S.size ≤ 8000 ∧ bl S = m.bytes ∧ m.bs.length ≤ 1000 ∧ m.cl.length ≤ 1000 ∧ m.live.length ≤ 1000
abbrev WT := List Int × ByteArray × Bag3 × List Tag2 × List Peer3
def PW (x : WT) : Prop := NineR x.1 ∧ Tx 8000 x.2.1 ∧ BagR x.2.2.1 ∧ TagsP x.2.2.2.1 ∧ ViewP x.2.2.2.2
def fW (x : WT) : List UInt8 := rowL numZ x.1 ++ (textZ x.2.1 ++ (bagZ x.2.2.1 ++ (rowL tagL x.2.2.2.1 ++ rowL peerL x.2.2.2.2)))
def WL.t (m : WL) : WT := (m.nums, m.mark, ((m.bs, m.cl), m.live), m.tags, m.view)
theorem WL.t_inj {a b : WL} (h : a.t = b.t) : a = b := by
  cases a; cases b
  simp only [WL.t, WL.nums, Prod.mk.injEq, List.cons.injEq, and_true] at h
  obtain ⟨⟨g1, g2, g3, g4, g5, g6, g7, g8, g9⟩, e2, ⟨⟨e3, e4⟩, e5⟩, e6, e7⟩ := h
  subst e2 e3 e4 e5 e6 e7 g1 g2 g3 g4 g5 g6 g7 g8 g9
  rfl
theorem WL.t_bytes (m : WL) : fW m.t = m.bytes := rfl
theorem tells_bagR : Tells BagR bagZ := by
  rintro ⟨⟨x1, x2⟩, x3⟩ ⟨⟨y1, y2⟩, y3⟩ r t hx hy h
  have hx' := ((bagR_iff _).2 hx).1
  have hy' := ((bagR_iff _).2 hy).1
  exact (tells_ctxR.seq tells_msgsR) _ _ _ _ hx' hy' h
theorem tells_tagsP : Tells TagsP (rowL tagL) := (tells_row tells_tagR).sub fun y h => ⟨by have := h.many; omega, ((tagsR y).2 h).1.2⟩
theorem tells_viewP : Tells ViewP (rowL peerL) := (tells_row tells_peerR).sub fun y h => ⟨by have := h.many; omega, ((viewR y).2 h).1.2⟩
theorem tells_W : Tells PW fW := tells_nine.seq ((tells_tx (by decide)).seq (tells_bagR.seq (tells_tagsP.seq tells_viewP)))
theorem SaidBy.p {S : ByteArray} {m : WL} (h : SaidBy S m) : PW m.t := by
  obtain ⟨hm, _, _, h1, h2, h3⟩ := h
  refine ⟨⟨rfl, fun z hz => ?_⟩, show (m.mark.size : Int) ≤ 8000 by have := hm.mark; omega, ⟨⟨h1, h2, h3⟩, hm.bag⟩, hm.tags, hm.view⟩
  obtain ⟨g1, g2⟩ := hm.kind
  obtain ⟨g3, g4⟩ := hm.frm
  obtain ⟨g5, g6⟩ := hm.seq
  obtain ⟨g7, g8⟩ := hm.part
  obtain ⟨g9, g10⟩ := hm.flag
  obtain ⟨g11, g12⟩ := hm.receipt
  obtain ⟨g13, g14⟩ := hm.long
  have hd : In 1099511627776 m.d0 ∧ In 1099511627776 m.d1 := by
    rcases hm.dot with e | e
    · simp only [Prod.mk.injEq] at e
      rw [e.1, e.2]
      exact ⟨⟨by decide, by decide⟩, by decide, by decide⟩
    · have := e.le
      exact ⟨⟨by simp only at this; omega, by simp only at this; omega⟩, by simp only at this; omega, by simp only at this; omega⟩
  simp only [WL.t, WL.nums, List.mem_cons, List.not_mem_nil, or_false] at hz
  rcases hz with rfl | rfl | rfl | rfl | rfl | rfl | rfl | rfl | rfl
  · exact ⟨by omega, by omega⟩
  · exact ⟨by omega, by omega⟩
  · exact ⟨by omega, by omega⟩
  · exact ⟨by omega, by omega⟩
  · exact ⟨by omega, by omega⟩
  · exact hd.1
  · exact hd.2
  · exact ⟨by omega, by omega⟩
  · exact ⟨by omega, by omega⟩
/-- No two are said by the same bytes; what is said cut short says nothing. -/
theorem SaidBy.one {S : ByteArray} {a b : WL} (h : SaidBy S a) (g : SaidBy S b) : a = b := by
  have e : fW a.t ++ [] = fW b.t ++ [] := by rw [WL.t_bytes, WL.t_bytes, ← h.2.2.1, ← g.2.2.1]
  exact WL.t_inj (tells_W _ _ _ _ h.p g.p e).1
theorem SaidBy.cut {S T : ByteArray} {a b : WL} {r : List UInt8} (h : SaidBy S a) (g : SaidBy T b) (e : bl S = bl T ++ r) : r = [] := by
  have e2 : fW b.t ++ r = fW a.t ++ [] := by rw [WL.t_bytes, WL.t_bytes, ← h.2.2.1, ← g.2.2.1, List.append_nil]; exact e.symm
  exact (tells_W _ _ _ _ g.p h.p e2).2
/-- All was read, and what was read may be said. -/
theorem read_said {S : ByteArray} {r : Rd} {m : WL} (h : Red PW fW ⟨S, false⟩ r m.t) (hs : S.size ≤ 8000) (hf : r.fin = 0) (hm : m.May) : SaidBy S m := by
  have hf' : r.torn = false ∧ r.left.size = 0 := by
    unfold Rd.fin at hf
    split at hf
    · cases hf
    · rename_i hc
      refine ⟨?_, ?_⟩
      · cases ht : r.torn with
        | false => rfl
        | true => exact absurd (.inl ht) hc
      · rcases Nat.eq_zero_or_pos r.left.size with h0 | h0
        · exact h0
        · exact absurd (.inr (by omega)) hc
  obtain ⟨_, h2, h3⟩ := h.is hf'.1
  have h4 : bl r.left = [] := by rw [← List.length_eq_zero_iff, bl_length]; exact hf'.2
  rw [h4, List.append_nil] at h3
  exact ⟨hm, hs, h3, h2.2.2.1.1.1, h2.2.2.1.1.2.1, h2.2.2.1.1.2.2⟩
/-- Not all was read, or what was read may not be said. -/
theorem read_not {S : ByteArray} {r : Rd} {m : WL} (h : Red PW fW ⟨S, false⟩ r m.t) (hc : r.fin = 10 ∨ ¬ m.May) : ∀ m', ¬ SaidBy S m' := by
  intro m' hm'
  have e0 : bl S = fW m'.t ++ [] := by rw [WL.t_bytes, hm'.2.2.1, List.append_nil]
  rcases h with ⟨h1, h2, h3, h4⟩ | ⟨h1, h2⟩
  · change bl S = _ at h4
    rw [h4] at e0
    obtain ⟨e1, e2⟩ := tells_W _ _ _ _ h3 hm'.p e0
    rcases hc with hc | hc
    · have h5 : r.left.size = 0 := by rw [← bl_length, e2]; rfl
      unfold Rd.fin at hc
      rw [if_neg (by rw [h1, h5]; simp)] at hc
      cases hc
    · rw [WL.t_inj e1] at hc
      exact hc hm'.1
  · exact h2 m'.t [] rfl hm'.p e0
/-- Fewer numbers, or too long. -/
theorem nine_not {S : ByteArray} (h : ∀ y t, (Rd.mk S false).torn = false → NineR y → bl (Rd.mk S false).left ≠ rowL numZ y ++ t) : ∀ m', ¬ SaidBy S m' := by
  intro m' hm'
  refine h m'.t.1 (textZ m'.mark ++ (bagZ ((m'.bs, m'.cl), m'.live) ++ (rowL tagL m'.tags ++ rowL peerL m'.view))) rfl hm'.p.1 ?_
  show bl S = _
  rw [hm'.2.2.1, ← WL.t_bytes]
  rfl
theorem long_not {S : ByteArray} (h : 8000 < S.size) : ∀ m', ¬ SaidBy S m' := fun m' hm' => by have := hm'.2.1; omega
end Go.Proofs.Ytfpjdmplepepjaa

/-! WReadW: Wire's Read, of any bytes: what they say, or nothing. -/
namespace Go.Proofs.Ytfpjdmplepepjaa
open Go.RowKit

/-- The rows lie at B or above. -/
structure FreshW (B : Nat) (am ab ac ag av : Option Addr) : Prop where
  f0 : ∀ a, am = some a → B ≤ a.block
  f1 : ∀ a, ab = some a → B ≤ a.block
  f2 : ∀ a, ac = some a → B ≤ a.block
  f3 : ∀ a, ag = some a → B ≤ a.block
  f4 : ∀ a, av = some a → B ≤ a.block
def WL.zero : WL := ⟨0, 0, 0, 0, 0, 0, 0, 0, 0, ⟨#[]⟩, [], [], [], [], []⟩
/-- What reading tells: m, or nothing. -/
def Heard (S : ByteArray) (m : WL) (E : Int) : Prop := E = 0 ∧ SaidBy S m ∨ E = 10 ∧ m = WL.zero ∧ ∀ m', ¬ SaidBy S m'
def ReadTells (S : ByteArray) (w : World) (e : Ending) (w' : World) : Prop :=
  ∃ (k f s p fl d0 d1 rc lg : Int) (mark : ByteArray) (am ab ac ag av : Option Addr) (nl kl nb kb nc kc ng kg nv kv : Nat) (live : List Msg5) (bs cl : List Dot2) (tags : List Tag2) (view : List Peer3) (E : Int), e = .returned (.tuple #[.agg #[.int .i64 k, .int .i64 f, .int .i64 s, .int .i64 p, .int .i64 fl, .string mark, .slice am nl kl, .slice ab nb kb, .slice ac nc kc, .slice ag ng kg, .slice av nv kv, .int .i64 d0, .int .i64 d1, .int .i64 rc, .int .i64 lg], .int .i64 E]) ∧ Lies w' am ab ac ag av nl nb nc ng nv live bs cl tags view ∧ FreshW w.heap.size am ab ac ag av ∧ Heard S (WL.mk k f s p fl d0 d1 rc lg mark live bs cl tags view) E ∧ Below w.heap.size w w'
theorem Lies.none (w : World) : Lies w none none none none none 0 0 0 0 0 [] [] [] [] [] :=
  ⟨rfl, rfl, rfl, rfl, rfl, by decide, by decide, by decide, by decide, by decide, SlE.nil _ _ _ _, SlP.nil _ _, SlP.nil _ _, SlE.nil _ _ _ _, SlE.nil _ _ _ _⟩
theorem FreshW.none (B : Nat) : FreshW B none none none none none :=
  ⟨fun _ h => (by cases h), fun _ h => (by cases h), fun _ h => (by cases h), fun _ h => (by cases h), fun _ h => (by cases h)⟩
theorem ReadTells.bad {S : ByteArray} {w w' : World} (h : ∀ m', ¬ SaidBy S m') (hb : Below w.heap.size w w') : ReadTells S w (.returned (.tuple #[.agg #[.int .i64 0, .int .i64 0, .int .i64 0, .int .i64 0, .int .i64 0, .string ⟨#[]⟩, .slice none 0 0, .slice none 0 0, .slice none 0 0, .slice none 0 0, .slice none 0 0, .int .i64 0, .int .i64 0, .int .i64 0, .int .i64 0], .int .i64 10])) w' :=
  ⟨0, 0, 0, 0, 0, 0, 0, 0, 0, ⟨#[]⟩, none, none, none, none, none, 0, 0, 0, 0, 0, 0, 0, 0, 0, 0, [], [], [], [], [], 10, rfl, Lies.none _, FreshW.none _, .inr ⟨rfl, rfl, h⟩, hb⟩
theorem list9 (l : List Int) (h : l.length = 9) : ∃ a b c d e f g i j, l = [a, b, c, d, e, f, g, i, j] := by
  match l, h with
  | [a, b, c, d, e, f, g, i, j], _ => exact ⟨a, b, c, d, e, f, g, i, j, rfl⟩
theorem Tri.stored {x y z : Nat} {a b : World} {p : Addr} {v : Value} (e : b = a.setCell p v) (hp : p.block = x ∨ p.block = y ∨ p.block = z) : Tri x y z a b := by
  subst e; exact (Tri.refl _ _ _ _).set hp v

set_option maxRecDepth 100000 in
set_option maxHeartbeats 16000000 in
theorem wread_any (S : ByteArray) (w : World) (hS : S.size ≤ 1000000) : Calls Try.prog 14 #[.string S] w (ReadTells S w) := by
  obtain ⟨w0, hw0⟩ := nm (w.alloc (.cells #[.int .i64 0, .int .i64 0, .int .i64 0, .int .i64 0, .int .i64 0, .string ⟨#[]⟩, .slice none 0 0, .slice none 0 0, .slice none 0 0, .slice none 0 0, .slice none 0 0, .int .i64 0, .int .i64 0, .int .i64 0, .int .i64 0] 33))
  obtain ⟨x, hx⟩ := nm w.heap.size
  have Kx : Hid (Blk w0 x #[.int .i64 0, .int .i64 0, .int .i64 0, .int .i64 0, .int .i64 0, .string ⟨#[]⟩, .slice none 0 0, .slice none 0 0, .slice none 0 0, .slice none 0 0, .slice none 0 0, .int .i64 0, .int .i64 0, .int .i64 0, .int .i64 0] 33) := by show Blk _ _ _ _; rw [hw0.out, hx.out]; exact Blk.new _ _ _
  have HB : Hid (Below w.heap.size w w0) := by show Below _ _ _; rw [hw0.out]; exact bOld _
  have hxw : Hid (w.heap.size ≤ x) := by show _ ≤ _; rw [hx.out]; exact Nat.le_refl _
  have HW1 : Hid (∀ (m : WL) (r : Rd), Red PW fW ⟨S, false⟩ r m.t → S.size ≤ 8000 → r.fin = 0 → m.May → SaidBy S m) := fun m r => read_said
  have HW2 : Hid (∀ (m : WL) (r : Rd), Red PW fW ⟨S, false⟩ r m.t → (r.fin = 10 ∨ ¬ m.May) → ∀ m', ¬ SaidBy S m') := fun m r => read_not
  have HW3 : Hid ((∀ y t, (Rd.mk S false).torn = false → NineR y → bl (Rd.mk S false).left ≠ rowL numZ y ++ t) → ∀ m', ¬ SaidBy S m') := nine_not
  have HW4 : Hid (8000 < S.size → ∀ m', ¬ SaidBy S m') := long_not
  have HRB : Hid (∀ w', (∀ m', ¬ SaidBy S m') → Below w.heap.size w w' → ReadTells S w (.returned (.tuple #[.agg #[.int .i64 0, .int .i64 0, .int .i64 0, .int .i64 0, .int .i64 0, .string ⟨#[]⟩, .slice none 0 0, .slice none 0 0, .slice none 0 0, .slice none 0 0, .slice none 0 0, .int .i64 0, .int .i64 0, .int .i64 0, .int .i64 0], .int .i64 10])) w') := fun w' h hb => ReadTells.bad h hb
  obtain ⟨b, hb⟩ := nm w0.heap.size
  have hxb : x < b := by rw [hb.out]; exact Kx.out.lt
  have hrd := read_any S w0
  rw [← hb.out] at hrd
  have HRD := Lib.hid hrd
  clear hrd
  by_cases hlen : 8000 < S.size
  · have HNOT := Lib.hid (HW4.out hlen)
    have hdl : decide ((8000 : Int) < (S.size : Int)) = true := decide_eq_true (by omega)
    go_enter Try.func14, Try.ntmps14
    go_upto_region 1 with fail
    rw [← hw0.out, ← hx.out]
    have hone : (#[.int .i64 0, .int .i64 0, .int .i64 0, .int .i64 0, .int .i64 0, .string ⟨#[]⟩, .slice none 0 0, .slice none 0 0, .slice none 0 0, .slice none 0 0, .slice none 0 0, .int .i64 0, .int .i64 0, .int .i64 0, .int .i64 0] : Array Value).all (·.oneCell') = true := by simp [Value.oneCell']
    go_wp2_with (refine wpList_store_row rfl 33 _ _ rfl x #[.int .i64 0, .int .i64 0, .int .i64 0, .int .i64 0, .int .i64 0, .string ⟨#[]⟩, .slice none 0 0, .slice none 0 0, .slice none 0 0, .slice none 0 0, .slice none 0 0, .int .i64 0, .int .i64 0, .int .i64 0, .int .i64 0] rfl rfl 33 #[.int .i64 0, .int .i64 0, .int .i64 0, .int .i64 0, .int .i64 0, .string ⟨#[]⟩, .slice none 0 0, .slice none 0 0, .slice none 0 0, .slice none 0 0, .slice none 0 0, .int .i64 0, .int .i64 0, .int .i64 0, .int .i64 0] Kx.out infoWire rfl hone ?_)
    obtain ⟨wz, hwz⟩ := nm (w0.setRow x #[.int .i64 0, .int .i64 0, .int .i64 0, .int .i64 0, .int .i64 0, .string ⟨#[]⟩, .slice none 0 0, .slice none 0 0, .slice none 0 0, .slice none 0 0, .slice none 0 0, .int .i64 0, .int .i64 0, .int .i64 0, .int .i64 0])
    rw [← hwz.out]
    have Kz : Blk wz x #[.int .i64 0, .int .i64 0, .int .i64 0, .int .i64 0, .int .i64 0, .string ⟨#[]⟩, .slice none 0 0, .slice none 0 0, .slice none 0 0, .slice none 0 0, .slice none 0 0, .int .i64 0, .int .i64 0, .int .i64 0, .int .i64 0] 33 := by rw [hwz.out]; exact setRow_heap w0 x _ _ _ _ Kx.out
    have HBz : Below w.heap.size w wz := by rw [hwz.out]; exact below_setRow HB.out hxw.out _
    have r0 : wz.cell? ⟨x, 0, none⟩ = some (.int .i64 0) := Kz.cell 0
    have r1 : wz.cell? ⟨x, 1, none⟩ = some (.int .i64 0) := Kz.cell 1
    have r2 : wz.cell? ⟨x, 2, none⟩ = some (.int .i64 0) := Kz.cell 2
    have r3 : wz.cell? ⟨x, 3, none⟩ = some (.int .i64 0) := Kz.cell 3
    have r4 : wz.cell? ⟨x, 4, none⟩ = some (.int .i64 0) := Kz.cell 4
    have r5 : wz.cell? ⟨x, 5, none⟩ = some (.string ⟨#[]⟩) := Kz.cell 5
    have r6 : wz.cell? ⟨x, 6, none⟩ = some (.slice none 0 0) := Kz.cell 6
    have r7 : wz.cell? ⟨x, 7, none⟩ = some (.slice none 0 0) := Kz.cell 7
    have r8 : wz.cell? ⟨x, 8, none⟩ = some (.slice none 0 0) := Kz.cell 8
    have r9 : wz.cell? ⟨x, 9, none⟩ = some (.slice none 0 0) := Kz.cell 9
    have r10 : wz.cell? ⟨x, 10, none⟩ = some (.slice none 0 0) := Kz.cell 10
    have r11 : wz.cell? ⟨x, 11, none⟩ = some (.int .i64 0) := Kz.cell 11
    have r12 : wz.cell? ⟨x, 12, none⟩ = some (.int .i64 0) := Kz.cell 12
    have r13 : wz.cell? ⟨x, 13, none⟩ = some (.int .i64 0) := Kz.cell 13
    have r14 : wz.cell? ⟨x, 14, none⟩ = some (.int .i64 0) := Kz.cell 14
    refine bodyPost_ret (v := .tuple #[.agg #[.int .i64 0, .int .i64 0, .int .i64 0, .int .i64 0, .int .i64 0, .string ⟨#[]⟩, .slice none 0 0, .slice none 0 0, .slice none 0 0, .slice none 0 0, .slice none 0 0, .int .i64 0, .int .i64 0, .int .i64 0, .int .i64 0], .int .i64 10]) (by simp [results, Try.results14, go_sem, r0, r1, r2, r3, r4, r5, r6, r7, r8, r9, r10, r11, r12, r13, r14]) rfl ?_
    exact HRB.out _ HNOT.out HBz
  have hdl : decide ((8000 : Int) < (S.size : Int)) = false := decide_eq_false (by omega)
  have HS8 : Hid (S.size ≤ 8000) := by show _ ≤ _; omega
  go_enter Try.func14, Try.ntmps14
  go_upto_region 1 with fail
  rw [← hw0.out, ← hx.out]
  go_wp2_with fail
  refine HRD.out.mono ?_; rintro e w1 ⟨rfl, hw1⟩
  have HR : Hid (IsRd w1 b ⟨S, false⟩) := by show IsRd _ _ _; rw [hw1, hb.out]; exact Blk.new _ _ _
  replace Kx : Hid (Blk w1 x #[.int .i64 0, .int .i64 0, .int .i64 0, .int .i64 0, .int .i64 0, .string ⟨#[]⟩, .slice none 0 0, .slice none 0 0, .slice none 0 0, .slice none 0 0, .slice none 0 0, .int .i64 0, .int .i64 0, .int .i64 0, .int .i64 0] 33) := by show Blk _ _ _ _; rw [hw1]; exact Kx.out.alloc _
  replace HB : Hid (Below w.heap.size w w1) := by show Below _ _ _; rw [hw1]; exact bNew HB.out _
  have hwb : Hid (w.heap.size ≤ b) := by show _ ≤ _; rw [← hx.out]; omega
  obtain ⟨n1, n2⟩ := nums_red ⟨S, false⟩
  have hz1 := (Rd.mk S false).nums_sz 9 1099511627776
  have hnm := rnums_any b ⟨S, false⟩ 9 1099511627776 w1 HR.out (by simp only; omega) (by decide) (by decide)
  obtain ⟨r1, hr1⟩ := nm ((Rd.mk S false).nums 9 1099511627776).1
  obtain ⟨zs, hzs⟩ := nm ((Rd.mk S false).nums 9 1099511627776).2
  rw [← hr1.out, ← hzs.out] at hnm
  rw [← hzs.out] at n1 n2
  rw [← hr1.out] at n1 hz1
  have HN1 := Lib.hid n1
  have HN2 := Lib.hid n2
  have hs1 : r1.left.size ≤ 1000000 := by simp only at hz1; omega
  have HNM := Lib.hid hnm
  clear hw1 hnm n1 n2 hz1
  go_wp2_with fail
  refine HNM.out.mono ?_; rintro e w2 ⟨ao, cap, rfl, hcap, hsl, h2, hk⟩
  replace HR := Lib.hid h2
  replace Kx := Lib.hid (hk.blk Kx.out (by omega))
  replace HB := Lib.hid (HB.out.trans (hk.below hwb.out HB.out.size))
  by_cases hz9 : zs.length = 9
  rotate_left
  · have HNOT := Lib.hid (HW3.out (HN2.out hz9))
    obtain ⟨L9, hL9⟩ := nm zs.length
    rw [← hL9.out]
    have hne : ((L9 : Int) == 9) = false := by
      have : L9 ≠ 9 := by rw [hL9.out]; exact hz9
      simp; omega
    clear hsl hcap hz9 hk h2
    have hone : (#[.int .i64 0, .int .i64 0, .int .i64 0, .int .i64 0, .int .i64 0, .string ⟨#[]⟩, .slice none 0 0, .slice none 0 0, .slice none 0 0, .slice none 0 0, .slice none 0 0, .int .i64 0, .int .i64 0, .int .i64 0, .int .i64 0] : Array Value).all (·.oneCell') = true := by simp [Value.oneCell']
    go_wp2_with (refine wpList_store_row rfl 33 _ _ rfl x #[.int .i64 0, .int .i64 0, .int .i64 0, .int .i64 0, .int .i64 0, .string ⟨#[]⟩, .slice none 0 0, .slice none 0 0, .slice none 0 0, .slice none 0 0, .slice none 0 0, .int .i64 0, .int .i64 0, .int .i64 0, .int .i64 0] rfl rfl 33 #[.int .i64 0, .int .i64 0, .int .i64 0, .int .i64 0, .int .i64 0, .string ⟨#[]⟩, .slice none 0 0, .slice none 0 0, .slice none 0 0, .slice none 0 0, .slice none 0 0, .int .i64 0, .int .i64 0, .int .i64 0, .int .i64 0] Kx.out infoWire rfl hone ?_)
    obtain ⟨wz, hwz⟩ := nm (w2.setRow x #[.int .i64 0, .int .i64 0, .int .i64 0, .int .i64 0, .int .i64 0, .string ⟨#[]⟩, .slice none 0 0, .slice none 0 0, .slice none 0 0, .slice none 0 0, .slice none 0 0, .int .i64 0, .int .i64 0, .int .i64 0, .int .i64 0])
    rw [← hwz.out]
    have Kz : Blk wz x #[.int .i64 0, .int .i64 0, .int .i64 0, .int .i64 0, .int .i64 0, .string ⟨#[]⟩, .slice none 0 0, .slice none 0 0, .slice none 0 0, .slice none 0 0, .slice none 0 0, .int .i64 0, .int .i64 0, .int .i64 0, .int .i64 0] 33 := by rw [hwz.out]; exact setRow_heap w2 x _ _ _ _ Kx.out
    have HBz : Below w.heap.size w wz := by rw [hwz.out]; exact below_setRow HB.out hxw.out _
    have r0 : wz.cell? ⟨x, 0, none⟩ = some (.int .i64 0) := Kz.cell 0
    have r1 : wz.cell? ⟨x, 1, none⟩ = some (.int .i64 0) := Kz.cell 1
    have r2 : wz.cell? ⟨x, 2, none⟩ = some (.int .i64 0) := Kz.cell 2
    have r3 : wz.cell? ⟨x, 3, none⟩ = some (.int .i64 0) := Kz.cell 3
    have r4 : wz.cell? ⟨x, 4, none⟩ = some (.int .i64 0) := Kz.cell 4
    have r5 : wz.cell? ⟨x, 5, none⟩ = some (.string ⟨#[]⟩) := Kz.cell 5
    have r6 : wz.cell? ⟨x, 6, none⟩ = some (.slice none 0 0) := Kz.cell 6
    have r7 : wz.cell? ⟨x, 7, none⟩ = some (.slice none 0 0) := Kz.cell 7
    have r8 : wz.cell? ⟨x, 8, none⟩ = some (.slice none 0 0) := Kz.cell 8
    have r9 : wz.cell? ⟨x, 9, none⟩ = some (.slice none 0 0) := Kz.cell 9
    have r10 : wz.cell? ⟨x, 10, none⟩ = some (.slice none 0 0) := Kz.cell 10
    have r11 : wz.cell? ⟨x, 11, none⟩ = some (.int .i64 0) := Kz.cell 11
    have r12 : wz.cell? ⟨x, 12, none⟩ = some (.int .i64 0) := Kz.cell 12
    have r13 : wz.cell? ⟨x, 13, none⟩ = some (.int .i64 0) := Kz.cell 13
    have r14 : wz.cell? ⟨x, 14, none⟩ = some (.int .i64 0) := Kz.cell 14
    refine bodyPost_ret (v := .tuple #[.agg #[.int .i64 0, .int .i64 0, .int .i64 0, .int .i64 0, .int .i64 0, .string ⟨#[]⟩, .slice none 0 0, .slice none 0 0, .slice none 0 0, .slice none 0 0, .slice none 0 0, .int .i64 0, .int .i64 0, .int .i64 0, .int .i64 0], .int .i64 10]) (by simp [results, Try.results14, go_sem, r0, r1, r2, r3, r4, r5, r6, r7, r8, r9, r10, r11, r12, r13, r14]) rfl ?_
    exact HRB.out _ HNOT.out HBz
  have D1 := Lib.hid (HN1.out hz9)
  obtain ⟨k, f, s, p, fl, d0, d1, rc, lg, hz⟩ := list9 zs hz9
  have HZ := Lib.hid hz
  rw [hz9] at hcap ⊢
  have hs2 : ∃ g off, ao = some ⟨g, off, none⟩ ∧ g < w2.heap.size ∧ ∀ j, j < 9 → w2.cell? ⟨g, off + j, none⟩ = (zs.map (Value.int .i64))[j]? := by
    obtain ⟨g, off, h1, h2, h3⟩ := hsl 0 (by rw [List.length_map, hz9]; decide)
    exact ⟨g, off, h1, h2, fun j hj => h3 j (by rw [List.length_map, hz9]; exact hj)⟩
  obtain ⟨g, off, rfl, hg, hat⟩ := hs2
  rw [hz] at hat
  clear hsl hz hz9
  have c0 : w2.cell? ⟨g, off, none⟩ = some (.int .i64 k) := hat 0 (by decide)
  have c1 : w2.cell? ⟨g, off + 1, none⟩ = some (.int .i64 f) := hat 1 (by decide)
  have c2 : w2.cell? ⟨g, off + 2, none⟩ = some (.int .i64 s) := hat 2 (by decide)
  have c3 : w2.cell? ⟨g, off + 3, none⟩ = some (.int .i64 p) := hat 3 (by decide)
  have c4 : w2.cell? ⟨g, off + 4, none⟩ = some (.int .i64 fl) := hat 4 (by decide)
  have c5 : w2.cell? ⟨g, off + 5, none⟩ = some (.int .i64 d0) := hat 5 (by decide)
  have c6 : w2.cell? ⟨g, off + 6, none⟩ = some (.int .i64 d1) := hat 6 (by decide)
  have c7 : w2.cell? ⟨g, off + 7, none⟩ = some (.int .i64 rc) := hat 7 (by decide)
  have c8 : w2.cell? ⟨g, off + 8, none⟩ = some (.int .i64 lg) := hat 8 (by decide)
  obtain ⟨v, hv⟩ := nm (w2.heap.size + 1)
  obtain ⟨w3, hw3⟩ := nm ((w2.alloc (.cells #[.int .i64 k, .int .i64 f, .int .i64 s, .int .i64 p, .int .i64 fl, .int .i64 d0, .int .i64 d1, .int .i64 rc, .int .i64 lg] 54)).alloc (.cells #[.int .i64 k, .int .i64 f, .int .i64 s, .int .i64 p, .int .i64 fl, .string ⟨#[]⟩, .slice none 0 0, .slice none 0 0, .slice none 0 0, .slice none 0 0, .slice none 0 0, .int .i64 d0, .int .i64 d1, .int .i64 rc, .int .i64 lg] 33))
  have hbv : b < v := by rw [hv.out]; have := h2.lt; omega
  have hxv : x < v := by rw [hv.out]; have := Kx.out.lt; omega
  have Kv : Hid (Blk w3 v #[.int .i64 k, .int .i64 f, .int .i64 s, .int .i64 p, .int .i64 fl, .string ⟨#[]⟩, .slice none 0 0, .slice none 0 0, .slice none 0 0, .slice none 0 0, .slice none 0 0, .int .i64 d0, .int .i64 d1, .int .i64 rc, .int .i64 lg] 33) := by show Blk _ _ _ _; rw [hw3.out]; exact blk_at (by rw [hv.out]; simp)
  replace HR : Hid (IsRd w3 b r1) := by show IsRd _ _ _; rw [hw3.out]; exact Blk.alloc (Blk.alloc h2 _) _
  replace Kx : Hid (Blk w3 x #[.int .i64 0, .int .i64 0, .int .i64 0, .int .i64 0, .int .i64 0, .string ⟨#[]⟩, .slice none 0 0, .slice none 0 0, .slice none 0 0, .slice none 0 0, .slice none 0 0, .int .i64 0, .int .i64 0, .int .i64 0, .int .i64 0] 33) := by show Blk _ _ _ _; rw [hw3.out]; exact (Kx.out.alloc _).alloc _
  replace HB : Hid (Below w.heap.size w w3) := by show Below _ _ _; rw [hw3.out]; exact bNew (bNew HB.out _) _
  have hwv : Hid (w.heap.size ≤ v) := by show _ ≤ _; have := hxw.out; omega
  clear h2 hk hat
  have harr := fun w : World => run_arrayAt (P := Try.prog) w 54 3 9 (some ⟨g, off, none⟩) 9 cap Try.underlying54 (Nat.le_refl _)
  go_upto_region 9 with fail
  rw [← hw3.out, ← hv.out]
  have q5 := red_text r1 8000 (by decide)
  have z5 := r1.text_sz 8000
  have htx := rtext_any b r1 8000 w3 HR.out (by omega) (by decide)
  obtain ⟨r2, hr2⟩ := nm (r1.text 8000).1
  obtain ⟨mark, hmark⟩ := nm (r1.text 8000).2
  rw [← hr2.out, ← hmark.out] at q5 htx
  rw [← hr2.out] at z5
  have hs2 : r2.left.size ≤ 1000000 := by omega
  have D2 := Lib.hid q5
  have HTX := Lib.hid htx
  clear htx q5 z5 harr c0 c1 c2 c3 c4 c5 c6 c7 c8
  go_wp2_with fail
  refine (HTX.out).mono ?_; rintro e w4 ⟨rfl, hr, hk⟩
  replace HR := Lib.hid hr
  replace Kx := Lib.hid (hk.blk Kx.out (by omega))
  replace Kv := Lib.hid (hk.blk Kv.out (by omega))
  replace HB := Lib.hid (HB.out.trans (hk.below hwb.out HB.out.size))
  clear hr hk
  have c5 : w4.cell? ⟨v, 5, none⟩ = some (.string ⟨#[]⟩) := Kv.out.cell 5
  have f5 : w4.frozen? ⟨v, 5, none⟩ = false := Kv.out.free 5
  obtain ⟨w5, hw5⟩ := nm (w4.setCell ⟨v, 5, none⟩ (.string mark))
  replace Kx : Hid (Blk w5 x #[.int .i64 0, .int .i64 0, .int .i64 0, .int .i64 0, .int .i64 0, .string ⟨#[]⟩, .slice none 0 0, .slice none 0 0, .slice none 0 0, .slice none 0 0, .slice none 0 0, .int .i64 0, .int .i64 0, .int .i64 0, .int .i64 0] 33) := by show Blk _ _ _ _; rw [hw5.out]; exact (Blk.setOther Kx.out (by simp only; omega) _)
  replace HR : Hid (IsRd w5 b r2) := by show IsRd _ _ _; rw [hw5.out]; exact (Blk.setOther HR.out (by simp only; omega) _)
  replace Kv : Hid (Blk w5 v #[.int .i64 k, .int .i64 f, .int .i64 s, .int .i64 p, .int .i64 fl, .string mark, .slice none 0 0, .slice none 0 0, .slice none 0 0, .slice none 0 0, .slice none 0 0, .int .i64 d0, .int .i64 d1, .int .i64 rc, .int .i64 lg] 33) := by show Blk _ _ _ _; rw [hw5.out]; exact (Blk.set Kv.out 5 _)
  replace HB : Hid (Below w.heap.size w w5) := by show Below _ _ _; rw [hw5.out]; exact (Below.setCell HB.out (p := ⟨v, 5, none⟩) hwv.out _)
  go_upto_region 10 with fail
  rw [← hw5.out]
  clear c5 f5 hw5
  go_wp2_with fail
  refine (rbag_any b r2 _ HR.out hs2).mono ?_; rintro e w6 ⟨am, ab, ac, nl, kl, nb, kb, nc, kc, live, bs, cl, r3, rfl, hln, g0, g1, g2, fr0, fr1, fr2, hr, hd3, hs3, hk⟩
  have hv5 : v < w5.heap.size := Kv.out.lt
  have G0 := Lib.hid g0
  have G1 := Lib.hid g1
  have G2 := Lib.hid g2
  have D3 := Lib.hid hd3
  have HLN := Lib.hid hln
  have FR : Hid ((∀ a, am = some a → v < a.block) ∧ (∀ a, ab = some a → v < a.block) ∧ ∀ a, ac = some a → v < a.block) := ⟨fun a ha => by have := fr0 a ha; omega, fun a ha => by have := fr1 a ha; omega, fun a ha => by have := fr2 a ha; omega⟩
  have HT6 : Hid (Tri b v x w6 w6) := Tri.refl _ _ _ _
  clear g0 g1 g2 fr0 fr1 fr2 hd3 hln
  replace HR := Lib.hid hr
  replace Kx := Lib.hid (hk.blk Kx.out (by omega))
  replace Kv := Lib.hid (hk.blk Kv.out (by omega))
  replace HB := Lib.hid (HB.out.trans (hk.below hwb.out HB.out.size))
  clear hr hk
  have c6 : w6.cell? ⟨v, 6, none⟩ = some (.slice none 0 0) := Kv.out.cell 6
  have f6 : w6.frozen? ⟨v, 6, none⟩ = false := Kv.out.free 6
  have c7 : w6.cell? ⟨v, 7, none⟩ = some (.slice none 0 0) := Kv.out.cell 7
  have f7 : w6.frozen? ⟨v, 7, none⟩ = false := Kv.out.free 7
  have c8 : w6.cell? ⟨v, 8, none⟩ = some (.slice none 0 0) := Kv.out.cell 8
  have f8 : w6.frozen? ⟨v, 8, none⟩ = false := Kv.out.free 8
  obtain ⟨w7, hw7⟩ := nm (((w6.setCell ⟨v, 6, none⟩ (.slice am nl kl)).setCell ⟨v, 7, none⟩ (.slice ab nb kb)).setCell ⟨v, 8, none⟩ (.slice ac nc kc))
  replace Kx : Hid (Blk w7 x #[.int .i64 0, .int .i64 0, .int .i64 0, .int .i64 0, .int .i64 0, .string ⟨#[]⟩, .slice none 0 0, .slice none 0 0, .slice none 0 0, .slice none 0 0, .slice none 0 0, .int .i64 0, .int .i64 0, .int .i64 0, .int .i64 0] 33) := by show Blk _ _ _ _; rw [hw7.out]; exact (Blk.setOther (Blk.setOther (Blk.setOther Kx.out (by simp only; omega) _) (by simp only; omega) _) (by simp only; omega) _)
  replace HR : Hid (IsRd w7 b r3) := by show IsRd _ _ _; rw [hw7.out]; exact (Blk.setOther (Blk.setOther (Blk.setOther HR.out (by simp only; omega) _) (by simp only; omega) _) (by simp only; omega) _)
  replace Kv : Hid (Blk w7 v #[.int .i64 k, .int .i64 f, .int .i64 s, .int .i64 p, .int .i64 fl, .string mark, .slice am nl kl, .slice ab nb kb, .slice ac nc kc, .slice none 0 0, .slice none 0 0, .int .i64 d0, .int .i64 d1, .int .i64 rc, .int .i64 lg] 33) := by show Blk _ _ _ _; rw [hw7.out]; exact (Blk.set (Blk.set (Blk.set Kv.out 6 _) 7 _) 8 _)
  replace HB : Hid (Below w.heap.size w w7) := by show Below _ _ _; rw [hw7.out]; exact (Below.setCell (Below.setCell (Below.setCell HB.out (p := ⟨v, 6, none⟩) hwv.out _) (p := ⟨v, 7, none⟩) hwv.out _) (p := ⟨v, 8, none⟩) hwv.out _)
  replace HT6 : Hid (Tri b v x w6 w7) := by show Tri _ _ _ _ _; rw [hw7.out]; exact (Tri.set (Tri.set (Tri.set HT6.out (p := ⟨v, 6, none⟩) (.inr (.inl rfl)) _) (p := ⟨v, 7, none⟩) (.inr (.inl rfl)) _) (p := ⟨v, 8, none⟩) (.inr (.inl rfl)) _)
  go_upto_region 11 with fail
  rw [← hw7.out]
  clear c6 f6 c7 f7 c8 f8 hw7
  go_wp2_with fail
  refine (rtag_any b r3 _ HR.out hs3).mono ?_; rintro e w8 ⟨ag, ng, kg, tags, r4, rfl, hln3, g3, fr3, hr, hd4, hs4, hk⟩
  have hv7 : v < w7.heap.size := Kv.out.lt
  have G3 := Lib.hid g3
  have D4 := Lib.hid hd4
  have HLN3 := Lib.hid hln3
  have FR3 : Hid (∀ a, ag = some a → v < a.block) := fun a ha => by have := fr3 a ha; omega
  have HT8 : Hid (Tri b v x w8 w8) := Tri.refl _ _ _ _
  clear g3 fr3 hd4 hln3
  replace HR := Lib.hid hr
  replace Kx := Lib.hid (hk.blk Kx.out (by omega))
  replace Kv := Lib.hid (hk.blk Kv.out (by omega))
  replace HB := Lib.hid (HB.out.trans (hk.below hwb.out HB.out.size))
  replace HT6 := Lib.hid (HT6.out.trans (Tri.ofKept hk))
  clear hr hk
  have c9 : w8.cell? ⟨v, 9, none⟩ = some (.slice none 0 0) := Kv.out.cell 9
  have f9 : w8.frozen? ⟨v, 9, none⟩ = false := Kv.out.free 9
  obtain ⟨w9, hw9⟩ := nm (w8.setCell ⟨v, 9, none⟩ (.slice ag ng kg))
  replace Kx : Hid (Blk w9 x #[.int .i64 0, .int .i64 0, .int .i64 0, .int .i64 0, .int .i64 0, .string ⟨#[]⟩, .slice none 0 0, .slice none 0 0, .slice none 0 0, .slice none 0 0, .slice none 0 0, .int .i64 0, .int .i64 0, .int .i64 0, .int .i64 0] 33) := by show Blk _ _ _ _; rw [hw9.out]; exact (Blk.setOther Kx.out (by simp only; omega) _)
  replace HR : Hid (IsRd w9 b r4) := by show IsRd _ _ _; rw [hw9.out]; exact (Blk.setOther HR.out (by simp only; omega) _)
  replace Kv : Hid (Blk w9 v #[.int .i64 k, .int .i64 f, .int .i64 s, .int .i64 p, .int .i64 fl, .string mark, .slice am nl kl, .slice ab nb kb, .slice ac nc kc, .slice ag ng kg, .slice none 0 0, .int .i64 d0, .int .i64 d1, .int .i64 rc, .int .i64 lg] 33) := by show Blk _ _ _ _; rw [hw9.out]; exact (Blk.set Kv.out 9 _)
  replace HB : Hid (Below w.heap.size w w9) := by show Below _ _ _; rw [hw9.out]; exact (Below.setCell HB.out (p := ⟨v, 9, none⟩) hwv.out _)
  replace HT6 : Hid (Tri b v x w6 w9) := by show Tri _ _ _ _ _; rw [hw9.out]; exact (Tri.set HT6.out (p := ⟨v, 9, none⟩) (.inr (.inl rfl)) _)
  replace HT8 : Hid (Tri b v x w8 w9) := by show Tri _ _ _ _ _; rw [hw9.out]; exact (Tri.set HT8.out (p := ⟨v, 9, none⟩) (.inr (.inl rfl)) _)
  go_upto_region 12 with fail
  rw [← hw9.out]
  clear c9 f9 hw9
  go_wp2_with fail
  refine (rvw_any b r4 _ HR.out hs4).mono ?_; rintro e wa ⟨av, nv, kv, view, r5, rfl, hln4, g4, fr4, hr, hd5, hs5, hk⟩
  have hv9 : v < w9.heap.size := Kv.out.lt
  have G4 := Lib.hid g4
  have D5 := Lib.hid hd5
  have HLN4 := Lib.hid hln4
  have FR4 : Hid (∀ a, av = some a → v < a.block) := fun a ha => by have := fr4 a ha; omega
  have HTA : Hid (Tri b v x wa wa) := Tri.refl _ _ _ _
  clear g4 fr4 hd5 hln4
  replace HR := Lib.hid hr
  replace Kx := Lib.hid (hk.blk Kx.out (by omega))
  replace Kv := Lib.hid (hk.blk Kv.out (by omega))
  replace HB := Lib.hid (HB.out.trans (hk.below hwb.out HB.out.size))
  replace HT6 := Lib.hid (HT6.out.trans (Tri.ofKept hk))
  replace HT8 := Lib.hid (HT8.out.trans (Tri.ofKept hk))
  clear hr hk
  have c10 : wa.cell? ⟨v, 10, none⟩ = some (.slice none 0 0) := Kv.out.cell 10
  have f10 : wa.frozen? ⟨v, 10, none⟩ = false := Kv.out.free 10
  obtain ⟨wb, hwb⟩ := nm (wa.setCell ⟨v, 10, none⟩ (.slice av nv kv))
  replace Kx : Hid (Blk wb x #[.int .i64 0, .int .i64 0, .int .i64 0, .int .i64 0, .int .i64 0, .string ⟨#[]⟩, .slice none 0 0, .slice none 0 0, .slice none 0 0, .slice none 0 0, .slice none 0 0, .int .i64 0, .int .i64 0, .int .i64 0, .int .i64 0] 33) := by show Blk _ _ _ _; rw [hwb.out]; exact (Blk.setOther Kx.out (by simp only; omega) _)
  replace HR : Hid (IsRd wb b r5) := by show IsRd _ _ _; rw [hwb.out]; exact (Blk.setOther HR.out (by simp only; omega) _)
  replace Kv : Hid (Blk wb v #[.int .i64 k, .int .i64 f, .int .i64 s, .int .i64 p, .int .i64 fl, .string mark, .slice am nl kl, .slice ab nb kb, .slice ac nc kc, .slice ag ng kg, .slice av nv kv, .int .i64 d0, .int .i64 d1, .int .i64 rc, .int .i64 lg] 33) := by show Blk _ _ _ _; rw [hwb.out]; exact (Blk.set Kv.out 10 _)
  replace HB : Hid (Below w.heap.size w wb) := by show Below _ _ _; rw [hwb.out]; exact (Below.setCell HB.out (p := ⟨v, 10, none⟩) hwv.out _)
  replace HT6 : Hid (Tri b v x w6 wb) := by show Tri _ _ _ _ _; rw [hwb.out]; exact (Tri.set HT6.out (p := ⟨v, 10, none⟩) (.inr (.inl rfl)) _)
  replace HT8 : Hid (Tri b v x w8 wb) := by show Tri _ _ _ _ _; rw [hwb.out]; exact (Tri.set HT8.out (p := ⟨v, 10, none⟩) (.inr (.inl rfl)) _)
  replace HTA : Hid (Tri b v x wa wb) := by show Tri _ _ _ _ _; rw [hwb.out]; exact (Tri.set HTA.out (p := ⟨v, 10, none⟩) (.inr (.inl rfl)) _)
  go_upto_region 13 with fail
  rw [← hwb.out]
  clear c10 f10 hwb
  have hred : Red PW fW ⟨S, false⟩ r5 (WL.mk k f s p fl d0 d1 rc lg mark live bs cl tags view).t := by
    have e1 : Red NineR (rowL numZ) ⟨S, false⟩ r1 [k, f, s, p, fl, d0, d1, rc, lg] := by rw [← HZ.out]; exact D1.out
    exact e1.seq (D2.out.seq (D3.out.seq (D4.out.seq D5.out tells_tagsP) tells_bagR) (tells_tx (by decide))) tells_nine
  have RED := Lib.hid hred
  have LIES : Hid (r5.torn = false → ∀ w', Tri b v x wb w' → Lies w' am ab ac ag av nl nb nc ng nv live bs cl tags view) := by
    show _ → ∀ w', _
    intro ht w' h
    obtain ⟨_, hp, _⟩ := RED.out.is ht
    obtain ⟨f0, f1, f2⟩ := FR.out
    have f3 := FR3.out
    have f4 := FR4.out
    obtain ⟨l0, l1, l2⟩ := HLN.out
    have l3 := HLN3.out
    have l4 := HLN4.out
    obtain ⟨⟨b1, b2, b3⟩, _⟩ := hp.2.2.1
    have b4 := hp.2.2.2.1.many
    have b5 := hp.2.2.2.2.many
    simp only [WL.t] at b1 b2 b3 b4 b5
    have t6 := HT6.out.trans h
    have t8 := HT8.out.trans h
    have ta := HTA.out.trans h
    exact ⟨l0, l1, l2, l3, l4, by omega, by omega, by omega, by omega, by omega, G0.out.tri (fun a ha => by have := f0 a ha; exact ⟨by omega, by omega, by omega⟩) t6, G1.out.tri (fun a ha => by have := f1 a ha; exact ⟨by omega, by omega, by omega⟩) t6, G2.out.tri (fun a ha => by have := f2 a ha; exact ⟨by omega, by omega, by omega⟩) t6, G3.out.tri (fun a ha => by have := f3 a ha; exact ⟨by omega, by omega, by omega⟩) t8, G4.out.tri (fun a ha => by have := f4 a ha; exact ⟨by omega, by omega, by omega⟩) ta⟩
  have FRS : Hid (FreshW w.heap.size am ab ac ag av) := by
    show FreshW _ _ _ _ _ _
    obtain ⟨f0, f1, f2⟩ := FR.out
    have hh := hwv.out
    exact ⟨fun a ha => by have := f0 a ha; omega, fun a ha => by have := f1 a ha; omega, fun a ha => by have := f2 a ha; omega, fun a ha => by have := FR3.out a ha; omega, fun a ha => by have := FR4.out a ha; omega⟩
  clear hred D1 D2 D3 D4 D5 G0 G1 G2 G3 G4 HT6 HT8 HTA HLN HLN3 HLN4 FR FR3 FR4
  obtain ⟨F, hF⟩ := nm r5.fin
  have hfc : F = 10 ∨ (F = 0 ∧ r5.torn = false) := by
    rw [hF.out]
    unfold Rd.fin
    split
    · exact .inl rfl
    · rename_i hc
      refine .inr ⟨rfl, ?_⟩
      cases ht : r5.torn with
      | false => rfl
      | true => exact absurd (.inl ht) hc
  have hend := rend_any b r5 wb HR.out
  rw [← hF.out] at hend
  have HEND := Lib.hid hend
  clear hend
  rcases hfc with rfl | ⟨rfl, htt⟩
  · have HNOT := Lib.hid (HW2.out (WL.mk k f s p fl d0 d1 rc lg mark live bs cl tags view) r5 RED.out (.inl hF.out.symm))
    go_wp2_with fail
    refine HEND.out.mono ?_; rintro e wc ⟨rfl, rfl⟩
    have hone : (#[.int .i64 0, .int .i64 0, .int .i64 0, .int .i64 0, .int .i64 0, .string ⟨#[]⟩, .slice none 0 0, .slice none 0 0, .slice none 0 0, .slice none 0 0, .slice none 0 0, .int .i64 0, .int .i64 0, .int .i64 0, .int .i64 0] : Array Value).all (·.oneCell') = true := by simp [Value.oneCell']
    go_wp2_with (refine wpList_store_row rfl 33 _ _ rfl x #[.int .i64 0, .int .i64 0, .int .i64 0, .int .i64 0, .int .i64 0, .string ⟨#[]⟩, .slice none 0 0, .slice none 0 0, .slice none 0 0, .slice none 0 0, .slice none 0 0, .int .i64 0, .int .i64 0, .int .i64 0, .int .i64 0] rfl rfl 33 #[.int .i64 0, .int .i64 0, .int .i64 0, .int .i64 0, .int .i64 0, .string ⟨#[]⟩, .slice none 0 0, .slice none 0 0, .slice none 0 0, .slice none 0 0, .slice none 0 0, .int .i64 0, .int .i64 0, .int .i64 0, .int .i64 0] Kx.out infoWire rfl hone ?_)
    obtain ⟨wz, hwz⟩ := nm (wb.setRow x #[.int .i64 0, .int .i64 0, .int .i64 0, .int .i64 0, .int .i64 0, .string ⟨#[]⟩, .slice none 0 0, .slice none 0 0, .slice none 0 0, .slice none 0 0, .slice none 0 0, .int .i64 0, .int .i64 0, .int .i64 0, .int .i64 0])
    rw [← hwz.out]
    have Kz : Blk wz x #[.int .i64 0, .int .i64 0, .int .i64 0, .int .i64 0, .int .i64 0, .string ⟨#[]⟩, .slice none 0 0, .slice none 0 0, .slice none 0 0, .slice none 0 0, .slice none 0 0, .int .i64 0, .int .i64 0, .int .i64 0, .int .i64 0] 33 := by rw [hwz.out]; exact setRow_heap wb x _ _ _ _ Kx.out
    have HBz : Below w.heap.size w wz := by rw [hwz.out]; exact below_setRow HB.out hxw.out _
    have r0 : wz.cell? ⟨x, 0, none⟩ = some (.int .i64 0) := Kz.cell 0
    have r1 : wz.cell? ⟨x, 1, none⟩ = some (.int .i64 0) := Kz.cell 1
    have r2 : wz.cell? ⟨x, 2, none⟩ = some (.int .i64 0) := Kz.cell 2
    have r3 : wz.cell? ⟨x, 3, none⟩ = some (.int .i64 0) := Kz.cell 3
    have r4 : wz.cell? ⟨x, 4, none⟩ = some (.int .i64 0) := Kz.cell 4
    have r5 : wz.cell? ⟨x, 5, none⟩ = some (.string ⟨#[]⟩) := Kz.cell 5
    have r6 : wz.cell? ⟨x, 6, none⟩ = some (.slice none 0 0) := Kz.cell 6
    have r7 : wz.cell? ⟨x, 7, none⟩ = some (.slice none 0 0) := Kz.cell 7
    have r8 : wz.cell? ⟨x, 8, none⟩ = some (.slice none 0 0) := Kz.cell 8
    have r9 : wz.cell? ⟨x, 9, none⟩ = some (.slice none 0 0) := Kz.cell 9
    have r10 : wz.cell? ⟨x, 10, none⟩ = some (.slice none 0 0) := Kz.cell 10
    have r11 : wz.cell? ⟨x, 11, none⟩ = some (.int .i64 0) := Kz.cell 11
    have r12 : wz.cell? ⟨x, 12, none⟩ = some (.int .i64 0) := Kz.cell 12
    have r13 : wz.cell? ⟨x, 13, none⟩ = some (.int .i64 0) := Kz.cell 13
    have r14 : wz.cell? ⟨x, 14, none⟩ = some (.int .i64 0) := Kz.cell 14
    refine bodyPost_ret (v := .tuple #[.agg #[.int .i64 0, .int .i64 0, .int .i64 0, .int .i64 0, .int .i64 0, .string ⟨#[]⟩, .slice none 0 0, .slice none 0 0, .slice none 0 0, .slice none 0 0, .slice none 0 0, .int .i64 0, .int .i64 0, .int .i64 0, .int .i64 0], .int .i64 10]) (by simp [results, Try.results14, go_sem, r0, r1, r2, r3, r4, r5, r6, r7, r8, r9, r10, r11, r12, r13, r14]) rfl ?_
    exact HRB.out _ HNOT.out HBz
  have LIE := Lib.hid (LIES.out htt)
  obtain ⟨B, hB, hBf, hBt⟩ := boolOf (WL.mk k f s p fl d0 d1 rc lg mark live bs cl tags view).May
  obtain ⟨E, hE⟩ := nm (errno B)
  have hck := wcheck_any k f s p fl d0 d1 rc lg mark am ab ac ag av nl kl nb kb nc kc ng kg nv kv live bs cl tags view B hB E hE wb (LIE.out wb (Tri.refl _ _ _ _))
  have HCK := Lib.hid hck
  clear hck LIES
  have c0 : wb.cell? ⟨v, 0, none⟩ = some (.int .i64 k) := Kv.out.cell 0
  have c1 : wb.cell? ⟨v, 1, none⟩ = some (.int .i64 f) := Kv.out.cell 1
  have c2 : wb.cell? ⟨v, 2, none⟩ = some (.int .i64 s) := Kv.out.cell 2
  have c3 : wb.cell? ⟨v, 3, none⟩ = some (.int .i64 p) := Kv.out.cell 3
  have c4 : wb.cell? ⟨v, 4, none⟩ = some (.int .i64 fl) := Kv.out.cell 4
  have c5 : wb.cell? ⟨v, 5, none⟩ = some (.string mark) := Kv.out.cell 5
  have c6 : wb.cell? ⟨v, 6, none⟩ = some (.slice am nl kl) := Kv.out.cell 6
  have c7 : wb.cell? ⟨v, 7, none⟩ = some (.slice ab nb kb) := Kv.out.cell 7
  have c8 : wb.cell? ⟨v, 8, none⟩ = some (.slice ac nc kc) := Kv.out.cell 8
  have c9 : wb.cell? ⟨v, 9, none⟩ = some (.slice ag ng kg) := Kv.out.cell 9
  have c10 : wb.cell? ⟨v, 10, none⟩ = some (.slice av nv kv) := Kv.out.cell 10
  have c11 : wb.cell? ⟨v, 11, none⟩ = some (.int .i64 d0) := Kv.out.cell 11
  have c12 : wb.cell? ⟨v, 12, none⟩ = some (.int .i64 d1) := Kv.out.cell 12
  have c13 : wb.cell? ⟨v, 13, none⟩ = some (.int .i64 rc) := Kv.out.cell 13
  have c14 : wb.cell? ⟨v, 14, none⟩ = some (.int .i64 lg) := Kv.out.cell 14
  go_wp2_with fail
  refine HEND.out.mono ?_; rintro e wc ⟨rfl, rfl⟩
  go_wp2_with fail
  refine HCK.out.mono ?_; rintro e wd ⟨rfl, hBd⟩
  have hxr := Kx.out.lt
  have hvr := Kv.out.lt
  replace Kx := Lib.hid (Kx.out.below hBd hxr)
  replace Kv := Lib.hid (Kv.out.below hBd hvr)
  replace HB := Lib.hid (bNext HB.out hBd)
  have HTD : Hid (Tri b v x wb wd) := Tri.ofBelow hBd
  clear hBd c0 c1 c2 c3 c4 c5 c6 c7 c8 c9 c10 c11 c12 c13 c14 hxr hvr HEND HCK
  have hE2 := hE.out
  cases B
  · obtain rfl : E = 1 := hE2
    have HNOT := Lib.hid (HW2.out (WL.mk k f s p fl d0 d1 rc lg mark live bs cl tags view) r5 RED.out (.inr (hBf.out (by first | exact rfl | exact trivial))))
    have hone : (#[.int .i64 0, .int .i64 0, .int .i64 0, .int .i64 0, .int .i64 0, .string ⟨#[]⟩, .slice none 0 0, .slice none 0 0, .slice none 0 0, .slice none 0 0, .slice none 0 0, .int .i64 0, .int .i64 0, .int .i64 0, .int .i64 0] : Array Value).all (·.oneCell') = true := by simp [Value.oneCell']
    go_wp2_with (refine wpList_store_row rfl 33 _ _ rfl x #[.int .i64 0, .int .i64 0, .int .i64 0, .int .i64 0, .int .i64 0, .string ⟨#[]⟩, .slice none 0 0, .slice none 0 0, .slice none 0 0, .slice none 0 0, .slice none 0 0, .int .i64 0, .int .i64 0, .int .i64 0, .int .i64 0] rfl rfl 33 #[.int .i64 0, .int .i64 0, .int .i64 0, .int .i64 0, .int .i64 0, .string ⟨#[]⟩, .slice none 0 0, .slice none 0 0, .slice none 0 0, .slice none 0 0, .slice none 0 0, .int .i64 0, .int .i64 0, .int .i64 0, .int .i64 0] Kx.out infoWire rfl hone ?_)
    obtain ⟨wz, hwz⟩ := nm (wd.setRow x #[.int .i64 0, .int .i64 0, .int .i64 0, .int .i64 0, .int .i64 0, .string ⟨#[]⟩, .slice none 0 0, .slice none 0 0, .slice none 0 0, .slice none 0 0, .slice none 0 0, .int .i64 0, .int .i64 0, .int .i64 0, .int .i64 0])
    rw [← hwz.out]
    have Kz : Blk wz x #[.int .i64 0, .int .i64 0, .int .i64 0, .int .i64 0, .int .i64 0, .string ⟨#[]⟩, .slice none 0 0, .slice none 0 0, .slice none 0 0, .slice none 0 0, .slice none 0 0, .int .i64 0, .int .i64 0, .int .i64 0, .int .i64 0] 33 := by rw [hwz.out]; exact setRow_heap wd x _ _ _ _ Kx.out
    have HBz : Below w.heap.size w wz := by rw [hwz.out]; exact below_setRow HB.out hxw.out _
    have r0 : wz.cell? ⟨x, 0, none⟩ = some (.int .i64 0) := Kz.cell 0
    have r1 : wz.cell? ⟨x, 1, none⟩ = some (.int .i64 0) := Kz.cell 1
    have r2 : wz.cell? ⟨x, 2, none⟩ = some (.int .i64 0) := Kz.cell 2
    have r3 : wz.cell? ⟨x, 3, none⟩ = some (.int .i64 0) := Kz.cell 3
    have r4 : wz.cell? ⟨x, 4, none⟩ = some (.int .i64 0) := Kz.cell 4
    have r5 : wz.cell? ⟨x, 5, none⟩ = some (.string ⟨#[]⟩) := Kz.cell 5
    have r6 : wz.cell? ⟨x, 6, none⟩ = some (.slice none 0 0) := Kz.cell 6
    have r7 : wz.cell? ⟨x, 7, none⟩ = some (.slice none 0 0) := Kz.cell 7
    have r8 : wz.cell? ⟨x, 8, none⟩ = some (.slice none 0 0) := Kz.cell 8
    have r9 : wz.cell? ⟨x, 9, none⟩ = some (.slice none 0 0) := Kz.cell 9
    have r10 : wz.cell? ⟨x, 10, none⟩ = some (.slice none 0 0) := Kz.cell 10
    have r11 : wz.cell? ⟨x, 11, none⟩ = some (.int .i64 0) := Kz.cell 11
    have r12 : wz.cell? ⟨x, 12, none⟩ = some (.int .i64 0) := Kz.cell 12
    have r13 : wz.cell? ⟨x, 13, none⟩ = some (.int .i64 0) := Kz.cell 13
    have r14 : wz.cell? ⟨x, 14, none⟩ = some (.int .i64 0) := Kz.cell 14
    refine bodyPost_ret (v := .tuple #[.agg #[.int .i64 0, .int .i64 0, .int .i64 0, .int .i64 0, .int .i64 0, .string ⟨#[]⟩, .slice none 0 0, .slice none 0 0, .slice none 0 0, .slice none 0 0, .slice none 0 0, .int .i64 0, .int .i64 0, .int .i64 0, .int .i64 0], .int .i64 10]) (by simp [results, Try.results14, go_sem, r0, r1, r2, r3, r4, r5, r6, r7, r8, r9, r10, r11, r12, r13, r14]) rfl ?_
    exact HRB.out _ HNOT.out HBz
  · obtain rfl : E = 0 := hE2
    have HSAID := Lib.hid (HW1.out (WL.mk k f s p fl d0 d1 rc lg mark live bs cl tags view) r5 RED.out HS8.out hF.out.symm (hBt.out (by first | exact rfl | exact trivial)))
    have c0 : wd.cell? ⟨v, 0, none⟩ = some (.int .i64 k) := Kv.out.cell 0
    have c1 : wd.cell? ⟨v, 1, none⟩ = some (.int .i64 f) := Kv.out.cell 1
    have c2 : wd.cell? ⟨v, 2, none⟩ = some (.int .i64 s) := Kv.out.cell 2
    have c3 : wd.cell? ⟨v, 3, none⟩ = some (.int .i64 p) := Kv.out.cell 3
    have c4 : wd.cell? ⟨v, 4, none⟩ = some (.int .i64 fl) := Kv.out.cell 4
    have c5 : wd.cell? ⟨v, 5, none⟩ = some (.string mark) := Kv.out.cell 5
    have c6 : wd.cell? ⟨v, 6, none⟩ = some (.slice am nl kl) := Kv.out.cell 6
    have c7 : wd.cell? ⟨v, 7, none⟩ = some (.slice ab nb kb) := Kv.out.cell 7
    have c8 : wd.cell? ⟨v, 8, none⟩ = some (.slice ac nc kc) := Kv.out.cell 8
    have c9 : wd.cell? ⟨v, 9, none⟩ = some (.slice ag ng kg) := Kv.out.cell 9
    have c10 : wd.cell? ⟨v, 10, none⟩ = some (.slice av nv kv) := Kv.out.cell 10
    have c11 : wd.cell? ⟨v, 11, none⟩ = some (.int .i64 d0) := Kv.out.cell 11
    have c12 : wd.cell? ⟨v, 12, none⟩ = some (.int .i64 d1) := Kv.out.cell 12
    have c13 : wd.cell? ⟨v, 13, none⟩ = some (.int .i64 rc) := Kv.out.cell 13
    have c14 : wd.cell? ⟨v, 14, none⟩ = some (.int .i64 lg) := Kv.out.cell 14
    have hone : (#[.int .i64 k, .int .i64 f, .int .i64 s, .int .i64 p, .int .i64 fl, .string mark, .slice am nl kl, .slice ab nb kb, .slice ac nc kc, .slice ag ng kg, .slice av nv kv, .int .i64 d0, .int .i64 d1, .int .i64 rc, .int .i64 lg] : Array Value).all (·.oneCell') = true := by simp [Value.oneCell']
    go_wp2_with (refine wpList_store_row rfl 33 _ _ rfl x #[.int .i64 k, .int .i64 f, .int .i64 s, .int .i64 p, .int .i64 fl, .string mark, .slice am nl kl, .slice ab nb kb, .slice ac nc kc, .slice ag ng kg, .slice av nv kv, .int .i64 d0, .int .i64 d1, .int .i64 rc, .int .i64 lg] rfl rfl 33 #[.int .i64 0, .int .i64 0, .int .i64 0, .int .i64 0, .int .i64 0, .string ⟨#[]⟩, .slice none 0 0, .slice none 0 0, .slice none 0 0, .slice none 0 0, .slice none 0 0, .int .i64 0, .int .i64 0, .int .i64 0, .int .i64 0] Kx.out infoWire rfl hone ?_)
    obtain ⟨wz, hwz⟩ := nm (wd.setRow x #[.int .i64 k, .int .i64 f, .int .i64 s, .int .i64 p, .int .i64 fl, .string mark, .slice am nl kl, .slice ab nb kb, .slice ac nc kc, .slice ag ng kg, .slice av nv kv, .int .i64 d0, .int .i64 d1, .int .i64 rc, .int .i64 lg])
    rw [← hwz.out]
    have Kz : Blk wz x #[.int .i64 k, .int .i64 f, .int .i64 s, .int .i64 p, .int .i64 fl, .string mark, .slice am nl kl, .slice ab nb kb, .slice ac nc kc, .slice ag ng kg, .slice av nv kv, .int .i64 d0, .int .i64 d1, .int .i64 rc, .int .i64 lg] 33 := by rw [hwz.out]; exact setRow_heap wd x _ _ _ _ Kx.out
    have HBz : Below w.heap.size w wz := by rw [hwz.out]; exact below_setRow HB.out hxw.out _
    have r0 : wz.cell? ⟨x, 0, none⟩ = some (.int .i64 k) := Kz.cell 0
    have r1 : wz.cell? ⟨x, 1, none⟩ = some (.int .i64 f) := Kz.cell 1
    have r2 : wz.cell? ⟨x, 2, none⟩ = some (.int .i64 s) := Kz.cell 2
    have r3 : wz.cell? ⟨x, 3, none⟩ = some (.int .i64 p) := Kz.cell 3
    have r4 : wz.cell? ⟨x, 4, none⟩ = some (.int .i64 fl) := Kz.cell 4
    have r5 : wz.cell? ⟨x, 5, none⟩ = some (.string mark) := Kz.cell 5
    have r6 : wz.cell? ⟨x, 6, none⟩ = some (.slice am nl kl) := Kz.cell 6
    have r7 : wz.cell? ⟨x, 7, none⟩ = some (.slice ab nb kb) := Kz.cell 7
    have r8 : wz.cell? ⟨x, 8, none⟩ = some (.slice ac nc kc) := Kz.cell 8
    have r9 : wz.cell? ⟨x, 9, none⟩ = some (.slice ag ng kg) := Kz.cell 9
    have r10 : wz.cell? ⟨x, 10, none⟩ = some (.slice av nv kv) := Kz.cell 10
    have r11 : wz.cell? ⟨x, 11, none⟩ = some (.int .i64 d0) := Kz.cell 11
    have r12 : wz.cell? ⟨x, 12, none⟩ = some (.int .i64 d1) := Kz.cell 12
    have r13 : wz.cell? ⟨x, 13, none⟩ = some (.int .i64 rc) := Kz.cell 13
    have r14 : wz.cell? ⟨x, 14, none⟩ = some (.int .i64 lg) := Kz.cell 14
    refine bodyPost_ret (v := .tuple #[.agg #[.int .i64 k, .int .i64 f, .int .i64 s, .int .i64 p, .int .i64 fl, .string mark, .slice am nl kl, .slice ab nb kb, .slice ac nc kc, .slice ag ng kg, .slice av nv kv, .int .i64 d0, .int .i64 d1, .int .i64 rc, .int .i64 lg], .int .i64 0]) (by simp [results, Try.results14, go_sem, r0, r1, r2, r3, r4, r5, r6, r7, r8, r9, r10, r11, r12, r13, r14]) rfl ?_
    have htz : Tri b v x wd wz := by rw [hwz.out]; exact ⟨by simp [World.setRow], fun i _ _ _ h3 => setRow_other _ _ _ _ h3⟩
    exact ⟨k, f, s, p, fl, d0, d1, rc, lg, mark, am, ab, ac, ag, av, nl, kl, nb, kb, nc, kc, ng, kg, nv, kv, live, bs, cl, tags, view, 0, rfl, LIE.out _ (HTD.out.trans htz), FRS.out, .inl ⟨rfl, HSAID.out⟩, HBz⟩
end Go.Proofs.Ytfpjdmplepepjaa

/-! WBackL: What is small is said in few bytes. No program in sight. -/
namespace Go.Proofs.Ytfpjdmplepepjaa
open Go.RowKit

theorem small_bytes {m : WL} (h : Smallish m.mark m.live m.bs m.cl m.tags m.view) (hm : m.May) : m.bytes.length ≤ 8000 := by
  obtain ⟨h0, ⟨h1, h2⟩, h3, h4, ⟨h5, h6⟩, h7⟩ := h
  have hu := hm.ups (by omega) (by omega) (by omega)
  have n1 := rowL_le (f := numZ) (m := 10) m.nums (by simp [WL.nums]) fun z hz => num_le (hu.nums z hz)
  have n2 := textL_le (s := m.mark) h0 (by decide)
  have n3 := rowL_le (f := dotL) (m := 20) m.bs (by omega) fun z hz => dotL_le (hu.bs z hz)
  have n4 := rowL_le (f := dotL) (m := 20) m.cl (by omega) fun z hz => dotL_le (hu.cl z hz)
  have n5 := rowL_le (f := msgL) (m := 170) m.live (by omega) fun z hz => by
    obtain ⟨u1, u2, u3, u4, u5⟩ := hu.live z hz
    obtain ⟨s1, s2⟩ := h2 z hz
    have g1 := dotL_le (x := (z.node, z.n)) ⟨u1, u2⟩
    have g2 := textL_le s1 (by decide)
    have g3 := textL_le s2 (by decide)
    have g4 := num_le u5
    simp only [msgL, List.length_append]; omega
  have n6 := rowL_le (f := tagL) (m := 80) m.tags (by omega) fun z hz => by
    obtain ⟨u1, u2⟩ := hu.tags z hz
    have g2 := textL_le (h6 z hz) (by decide)
    have g4 := num_le u2
    simp only [tagL, List.length_append]; omega
  have n7 := rowL_le (f := peerL) (m := 30) m.view (by omega) fun z hz => peerL_le (hu.view z hz)
  have e : m.nums.length = 9 := rfl
  rw [e] at n1
  have e2 : m.bytes.length = (rowL numZ m.nums).length + ((textL (bl m.mark)).length + ((((rowL dotL m.bs).length + (rowL dotL m.cl).length) + (rowL msgL m.live).length) + ((rowL tagL m.tags).length + (rowL peerL m.view).length))) := by
    simp only [WL.bytes, bagL, ctxL, List.length_append]; rfl
  omega
theorem Said.small {m : WL} {T : ByteArray} {E : Int} (h : Said m T E) (hs : Smallish m.mark m.live m.bs m.cl m.tags m.view) : (E = 1 ∧ T = ⟨#[]⟩) ∨ (E = 0 ∧ SaidBy T m) := by
  rcases h with ⟨_, h2, h3⟩ | ⟨h1, h2, _, _⟩ | ⟨h1, h2, h3, h4⟩
  · exact .inl ⟨h3, h2⟩
  · exact absurd (small_bytes hs h1) (by omega)
  · obtain ⟨n0, n1, n2, n3, n4⟩ := hs.lens
    exact .inr ⟨h4, h1, by rw [h3, ofL_size]; exact h2, by rw [h3, bl_ofL], by omega, by omega, by omega⟩
theorem SaidBy.pos {T : ByteArray} {m : WL} (h : SaidBy T m) : 1 ≤ T.size := by
  have h1 := h.2.2.1
  rw [← bl_length, h1, WL.bytes, List.length_append]
  have : 1 ≤ (numsL m.nums).length := by
    rw [intsL_row, rowL, List.length_append, Pl.num_length]
    have := Pl.nd_pos m.nums.length
    omega
  omega
end Go.Proofs.Ytfpjdmplepepjaa

