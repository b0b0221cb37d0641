/- DotBytes: for every name, every row of names, any bytes and any number the law returns true. -/
import Derived.Test.YthhcooabfgegaaaDotAwake
import Derived.Test.YthhcooabfgegaaaDotRefRead
import Derived.Test.YthhcooabfgegaaaLaw
import Derived.Outline
namespace Go.Proofs.Ythhcooabfgegaaa
open Go.RowKit Go.Shelf Go.Lib Go.Sort

theorem bytes_is (x y : Int) (hx : x ≤ 9223372036854775807) (hy : y ≤ 9223372036854775807) (s : ByteArray) (hs : Hid (s = ofL (bytesD (x, y)))) (w : World) :
    Calls Try.prog 25 #[.agg #[.int .i64 x, .int .i64 y]] w fun e w' => e = .returned (.string s) ∧ Below w.heap.size w w' := bytes_any x y w hx hy s hs
theorem refbytes_is (x y : Int) (hx : x ≤ 9223372036854775807) (hy : y ≤ 9223372036854775807) (s : ByteArray) (hs : Hid (s = ofL (bytesD (x, y)))) (w : World) :
    Calls Try.prog 26 #[.agg #[.int .i64 x, .int .i64 y]] w fun e w' => e = .returned (.string s) ∧ Below w.heap.size w w' := refbytes_any x y w hx hy s hs

set_option maxRecDepth 100000 in
set_option maxHeartbeats 400000 in
theorem refrleft_any (b : Nat) (r : Rd) (w : World) (hr : IsRr w b r) :
    Calls Try.prog 34 #[.pointer (some ⟨b, 0, none⟩)] w fun e w' => e = .returned (.string r.rest) ∧ w = w' := by
  obtain ⟨s, torn⟩ := r
  have c0 : w.cell? ⟨b, 0, none⟩ = some (.string s) := hr.cell 0
  have c1 : w.cell? ⟨b, 1, none⟩ = some (.bool torn) := hr.cell 1
  cases torn
  · rw [show (Rd.mk s false).rest = s from rfl]
    go_enter Try.func34, Try.ntmps34
    go_wp2_with fail
    go_ret
    exact ⟨rfl, rfl⟩
  · rw [show (Rd.mk s true).rest = ⟨#[]⟩ from rfl]
    go_enter Try.func34, Try.ntmps34
    go_wp2_with fail
    go_ret
    exact ⟨rfl, rfl⟩
/-- What is left of a reader, one torn or not. -/
theorem rest_of {r r' : Rd} (h1 : r'.torn = r.torn) (h2 : r.torn = false → r' = r) : r'.rest = r.rest := by
  cases h : r.torn with
  | false => rw [h2 h]
  | true => unfold Rd.rest; rw [h1, h, if_pos rfl, if_pos rfl]

theorem read2_any (s : ByteArray) (w : World) :
    Calls Try.prog 29 #[.string s] w fun e w' => ∃ b, e = .returned (.pointer (some ⟨b, 0, none⟩)) ∧ w.heap.size ≤ b ∧ IsRd w' b ⟨s, false⟩ ∧ Below w.heap.size w w' :=
  (read_any s w).mono fun _ _ ⟨he, hw⟩ => ⟨w.heap.size, he, Nat.le_refl _, by rw [hw]; exact Blk.new _ _ _, by rw [hw]; exact bOld _⟩
/-- A reader of the program's in block b: is it torn, and what is left. -/
def RdAt (w : World) (b : Nat) (T : Bool) (X : ByteArray) : Prop := ∃ r : Rd, IsRd w b r ∧ r.torn = T ∧ r.rest = X
def RrAt (w : World) (b : Nat) (T : Bool) (X : ByteArray) : Prop := ∃ r : Rd, IsRr w b r ∧ r.torn = T ∧ r.rest = X
theorem fine_q {w : World} {b : Nat} {T : Bool} {X : ByteArray} (h : RdAt w b T X) (n : Nat) :
    Calls Try.prog 32 #[.pointer (some ⟨b, 0, none⟩)] (w.drewN n) fun e w' => e = .returned (.bool (!T)) ∧ w' = w.drewN n := by
  obtain ⟨r, h1, h2, _⟩ := h
  rw [← h2]
  exact (fine_any b r (w.drewN n) h1).mono fun _ _ ⟨a, b⟩ => ⟨a, b.symm⟩
theorem left_q {w : World} {b : Nat} {T : Bool} {X : ByteArray} (h : RdAt w b T X) (n : Nat) :
    Calls Try.prog 33 #[.pointer (some ⟨b, 0, none⟩)] (w.drewN n) fun e w' => e = .returned (.string X) ∧ w' = w.drewN n := by
  obtain ⟨r, h1, _, h2⟩ := h
  rw [← h2]
  exact (rleft_any b r (w.drewN n) h1).mono fun _ _ ⟨a, b⟩ => ⟨a, b.symm⟩
theorem refleft_q {w : World} {b : Nat} {T : Bool} {X : ByteArray} (h : RrAt w b T X) (n : Nat) :
    Calls Try.prog 34 #[.pointer (some ⟨b, 0, none⟩)] (w.drewN n) fun e w' => e = .returned (.string X) ∧ w' = w.drewN n := by
  obtain ⟨r, h1, _, h2⟩ := h
  rw [← h2]
  exact (refrleft_any b r (w.drewN n) h1).mono fun _ _ ⟨a, b⟩ => ⟨a, b.symm⟩
theorem RdAt.keptBy {w w' : World} {b c : Nat} {T : Bool} {X : ByteArray} (h : RdAt w b T X) (hk : Kept c w w') (hne : b ≠ c) : RdAt w' b T X := by
  obtain ⟨r, h1, h2⟩ := h; exact ⟨r, hk.blk h1 hne, h2⟩
theorem RdAt.alloc {w : World} {b : Nat} {T : Bool} {X : ByteArray} (h : RdAt w b T X) (o : Obj) : RdAt (w.alloc o) b T X := by
  obtain ⟨r, h1, h2⟩ := h; exact ⟨r, Blk.alloc h1 o, h2⟩
theorem RrAt.alloc {w : World} {b : Nat} {T : Bool} {X : ByteArray} (h : RrAt w b T X) (o : Obj) : RrAt (w.alloc o) b T X := by
  obtain ⟨r, h1, h2⟩ := h; exact ⟨r, Blk.alloc h1 o, h2⟩
theorem RdAt.below {w w' : World} {b : Nat} {T : Bool} {X : ByteArray} (h : RdAt w b T X) (hb : Below w.heap.size w w') : RdAt w' b T X := by
  obtain ⟨r, h1, h2⟩ := h; exact ⟨r, Blk.below h1 hb h1.lt, h2⟩
theorem RrAt.below {w w' : World} {b : Nat} {T : Bool} {X : ByteArray} (h : RrAt w b T X) (hb : Below w.heap.size w w') : RrAt w' b T X := by
  obtain ⟨r, h1, h2⟩ := h; exact ⟨r, Blk.below h1 hb h1.lt, h2⟩
theorem RrAt.cell {w : World} {b : Nat} {T : Bool} {X : ByteArray} (h : RrAt w b T X) : w.cell? ⟨b, 1, none⟩ = some (.bool T) := by
  obtain ⟨r, h1, h2, _⟩ := h; rw [← h2]; exact h1.cell 1

theorem rdot_is (b : Nat) (S : ByteArray) (x y : Int) (T : Bool) (X : ByteArray) (h2 : Hid ((x, y) = (Rd.mk S false).dot.2)) (hT : Hid (T = (Rd.mk S false).dot.1.torn)) (hX : Hid (X = (Rd.mk S false).dot.1.rest)) (hs : S.size ≤ 150) (w : World) (hr : IsRd w b ⟨S, false⟩) :
    Calls Try.prog 30 #[.pointer (some ⟨b, 0, none⟩)] w fun e w' => e = .returned (.agg #[.int .i64 x, .int .i64 y]) ∧ RdAt w' b T X ∧ Kept b w w' := by
  refine (rdot_any b ⟨S, false⟩ w hr (by simp only; omega)).mono ?_
  rintro e w' ⟨rfl, ⟨r', h1, h3, h4, _⟩, hk⟩
  exact ⟨by rw [← h2.out], ⟨r', h1, by rw [h3, hT.out], by rw [rest_of h3 h4, hX.out]⟩, hk⟩
theorem refrdot_is (b : Nat) (S : ByteArray) (x y : Int) (T : Bool) (X : ByteArray) (h2 : Hid ((x, y) = (Rd.mk S false).dot.2)) (hT : Hid (T = (Rd.mk S false).dot.1.torn)) (hX : Hid (X = (Rd.mk S false).dot.1.rest)) (hs : S.size ≤ 150) (w : World) (hr : IsRr w b ⟨S, false⟩) :
    Calls Try.prog 31 #[.pointer (some ⟨b, 0, none⟩)] w fun e w' => e = .returned (.agg #[.int .i64 x, .int .i64 y]) ∧ RrAt w' b T X ∧ Kept b w w' := by
  refine (refrdot_any b ⟨S, false⟩ w hr (by simp only; omega)).mono ?_
  rintro e w' ⟨rfl, h1, hk⟩
  exact ⟨by rw [← h2.out], ⟨_, h1, by rw [hT.out], by rw [hX.out]⟩, hk⟩
theorem readrow_is (b : Nat) (S : ByteArray) (m : Int) (hm : m ≤ 9223372036854775807) (L : List (Int × Int)) (nL : Nat) (T : Bool) (X : ByteArray) (hL : Hid (L = ((Rd.mk S false).row m).2)) (hn : Hid (nL = L.length)) (hT : Hid (T = ((Rd.mk S false).row m).1.torn)) (hX : Hid (X = ((Rd.mk S false).row m).1.rest)) (hs : S.size ≤ 150) (w : World) (hr : IsRd w b ⟨S, false⟩) :
    Calls Try.prog 35 #[.pointer (some ⟨b, 0, none⟩), .int .i64 m] w fun e w' => ∃ ao cap, e = .returned (.slice ao nL cap) ∧ (SlP w' ao L ∧ ∀ a, ao = some a → w.heap.size ≤ a.block) ∧ RdAt w' b T X ∧ Kept b w w' := by
  refine (readrow_any b ⟨S, false⟩ m w hr (by simp only; omega) hm).mono ?_
  rintro e w' ⟨ao, cap, rfl, hsl, ⟨r', h1, h3, h4⟩, hk⟩
  rw [← hL.out] at hsl ⊢
  exact ⟨ao, cap, by rw [hn.out], hsl, ⟨r', h1, by rw [h3, hT.out], by rw [rest_of h3 h4, hX.out]⟩, hk⟩
theorem refreadrow_is (b : Nat) (S : ByteArray) (m : Int) (hm : m ≤ 9223372036854775807) (L : List (Int × Int)) (nL : Nat) (T : Bool) (X : ByteArray) (hL : Hid (L = ((Rd.mk S false).row m).2)) (hn : Hid (nL = L.length)) (hT : Hid (T = ((Rd.mk S false).row m).1.torn)) (hX : Hid (X = ((Rd.mk S false).row m).1.rest)) (hs : S.size ≤ 150) (w : World) (hr : IsRr w b ⟨S, false⟩) :
    Calls Try.prog 36 #[.pointer (some ⟨b, 0, none⟩), .int .i64 m] w fun e w' => ∃ ao cap, e = .returned (.slice ao nL cap) ∧ SlP w' ao L ∧ RrAt w' b T X ∧ Kept b w w' := by
  refine (refreadrow_any b ⟨S, false⟩ m w hr (by simp only; omega) hm).mono ?_
  rintro e w' ⟨ao, cap, rfl, hsl, ⟨r', h1, h3, h4⟩, hk⟩
  rw [← hL.out] at hsl ⊢
  exact ⟨ao, cap, by rw [hn.out], hsl, ⟨r', h1, by rw [h3, hT.out], by rw [rest_of h3 h4, hX.out]⟩, hk⟩
/-- How many names are read of so few bytes. -/
theorem Rd.dots_len : ∀ (n : Nat) (r : Rd) (l : List (Int × Int)), (Rd.dots n r).2 = some l → l.length ≤ r.left.size
  | 0, r, l, h => by simp [Rd.dots] at h; subst h; simp
  | n + 1, r, l, h => by
    rw [Rd.dots] at h
    split at h
    · cases h
    · rename_i ht
      obtain ⟨l', h1, h2⟩ := Option.map_eq_some_iff.1 h
      have h3 := Rd.dots_len n _ l' h1
      have h4 := (r.dot_uses (by simpa using ht)).2
      subst h2
      simp only [List.length_cons]; omega
theorem Rd.row_len (r : Rd) (m : Int) : (r.row m).2.length ≤ r.left.size := by
  have h0 := (r.int_lt m).2.1
  unfold Rd.row
  split
  · rename_i q l h
    have := Rd.dots_len _ _ l (by rw [h])
    split
    · simp
    · simp only; omega
  · simp
theorem SlP.keptBy {w w' : World} {ao : Option Addr} {ps : List (Int × Int)} {c : Nat} (h : SlP w ao ps) (hk : Kept c w w') (hne : ∀ a, ao = some a → a.block ≠ c) : SlP w' ao ps := by
  intro k hk'
  obtain ⟨b, off, h1, h2, h3⟩ := h k hk'
  refine ⟨b, off, h1, Nat.lt_of_lt_of_le h2 hk.size, fun j p hj => ?_⟩
  have e : ∀ o, w'.cell? ⟨b, o, none⟩ = w.cell? ⟨b, o, none⟩ := fun o => by simp only [World.cell?, hk.block b h2 (hne _ h1)]
  rw [e, e]
  exact h3 j p hj

set_option maxRecDepth 100000 in
set_option maxHeartbeats 8000000 in
theorem dotBytes_walk (x1 x2 : Int) (hx1 : x1 ≤ 9223372036854775807) (hx2 : x2 ≤ 9223372036854775807) (ao : Option Addr) (l : List (Int × Int)) (n cap : Nat) (hn : l.length = n) (hc : n ≤ cap) (hin : ∀ p ∈ l, InD p) (s0 : ByteArray) (m : Int) (hm : m ≤ 9223372036854775807) (w : World) (hs : SlP w ao l) :
    Calls Try.prog 7 #[.agg #[.int .i64 x1, .int .i64 x2], .slice ao n cap, .agg #[.string s0, .int .i64 m]] w fun e w' => e = .returned (.bool true) ∧ Below w.heap.size w w' := by
  have hA : Blk ((w.alloc (.cells #[.int .i64 x1, .int .i64 x2] 23)).alloc (.cells #[.string s0, .int .i64 m] 38)) w.heap.size #[.int .i64 x1, .int .i64 x2] 23 := (Blk.new _ _ _).alloc _
  have hBl : Blk ((w.alloc (.cells #[.int .i64 x1, .int .i64 x2] 23)).alloc (.cells #[.string s0, .int .i64 m] 38)) (w.heap.size + 1) #[.string s0, .int .i64 m] 38 := by
    have := Blk.new (w.alloc (.cells #[.int .i64 x1, .int .i64 x2] 23)) #[.string s0, .int .i64 m] 38
    simpa using this
  have hB0 : Below w.heap.size w ((w.alloc (.cells #[.int .i64 x1, .int .i64 x2] 23)).alloc (.cells #[.string s0, .int .i64 m] 38)) := bNew (bOld _) _
  obtain ⟨w0, hw0⟩ := nm ((w.alloc (.cells #[.int .i64 x1, .int .i64 x2] 23)).alloc (.cells #[.string s0, .int .i64 m] 38))
  rw [← hw0.out] at hA hBl hB0
  obtain ⟨p, hp⟩ := nm w.heap.size
  rw [← hp.out] at hA hBl
  have hF : ∀ w' : World, Below w0.heap.size w0 w' → (w'.cell? ⟨p, 0, none⟩ = some (.int .i64 x1) ∧ w'.cell? ⟨p, 1, none⟩ = some (.int .i64 x2)) ∧ (w'.cell? ⟨p + 1, 0, none⟩ = some (.string s0) ∧ w'.cell? ⟨p + 1, 1, none⟩ = some (.int .i64 m)) :=
    fun w' h => ⟨⟨(hA.below h hA.lt).cell 0, (hA.below h hA.lt).cell 1⟩, ⟨(hBl.below h hBl.lt).cell 0, (hBl.below h hBl.lt).cell 1⟩⟩
  have HF := Lib.hid hF
  have HB0 := Lib.hid hB0
  obtain ⟨P, hP⟩ := nm (l.take 30)
  have hsP : SlP w0 ao P := by rw [hP.out]; exact (hs.take 30).below hB0
  obtain ⟨N, hN⟩ := nm (min n 30)
  have hPN : P.length = N := by rw [hP.out, hN.out, List.length_take, hn]; omega
  have hN30 : N ≤ 30 := by rw [hN.out]; omega
  have hfew := fun w => few_any ao l n cap hn hc w
  rw [← hN.out] at hfew
  have HFEW := Lib.hid hfew
  have hinP : Hid (∀ p ∈ P, InD p) := by intro p hp; rw [hP.out] at hp; exact hin p (List.mem_of_mem_take hp)
  have HPN := Lib.hid hPN
  have HSP := Lib.hid hsP
  obtain ⟨S1, hS1⟩ := nm (ofL (bytesD (x1, x2)))
  obtain ⟨S2, hS2⟩ := nm (ofL (rowD P))
  have hcut := cutB_cases s0 150
  obtain ⟨S, hS⟩ := nm (cutB s0 150)
  have hS150 : S.size ≤ 150 := by rw [hS.out]; exact cutB_le _ _
  rw [← hS.out] at hcut
  have e1 : (S1.toList != S1.toList) = false := by simp
  have e2 : (S2.toList != S2.toList) = false := by simp
  clear hfew hPN hsP hs hn hA hBl hF hB0 hin
  go_enter Try.func7, Try.ntmps7
  go_wp2_with fail
  rw [← hp.out, ← hw0.out]
  refine (awake_any _).mono ?_; rintro e w1 ⟨rfl, hB⟩
  go_wp2_with fail
  refine (HFEW.out _).mono ?_; rintro e w2 ⟨rfl, rfl⟩
  obtain ⟨⟨g1, g2⟩, g3, g4⟩ := HF.out _ hB
  have hBc : Below w0.heap.size w0 w1.drew := below_drewN hB 1
  clear hB
  go_wp2_with fail
  go_region_held3 (fun w' => w'.cell? ⟨p, 0, none⟩ = some (.int .i64 x1) ∧ w'.cell? ⟨p, 1, none⟩ = some (.int .i64 x2)) (first | assumption | go_keep)
    (first
      | (go_at_call 25; (refine (bytes_is x1 x2 hx1 hx2 S1 hS1 _).mono ?_); rintro e wa ⟨rfl, hBa⟩; have hBa2 := bNext hBc hBa; have ga := (HF.out _ hBa2).1)
      | (go_at_call 26; (refine (refbytes_is x1 x2 hx1 hx2 S1 hS1 _).mono ?_); rintro e wb ⟨rfl, hBb⟩; have hBb2 := bNext hBa2 hBb; have gb := (HF.out _ hBb2).1)
      | (go_at_call 27; (refine (row_any ao P N cap HPN (by omega) hinP _ (HSP.out.below hBb2) S2 hS2).mono ?_); rintro e wd ⟨rfl, hBd⟩; have hBd2 := bNext hBb2 hBd; have gd := (HF.out _ hBd2).1)
      | (go_at_call 28; (refine (refrow_any ao P N cap HPN (by omega) hinP _ (HSP.out.below hBd2) S2 hS2).mono ?_); rintro e we ⟨rfl, hBe⟩; have hBe2 := bNext hBd2 hBe; have ge := (HF.out _ hBe2).1))
  clear hBa hBb hBd hBe hBa2 hBb2 hBd2 ga gb gd g1 g2 g3 g4 hBc
  obtain ⟨⟨g1, g2⟩, g3, g4⟩ := HF.out _ hBe2
  obtain ⟨⟨dx, dy⟩, hd2⟩ := nm (Rd.mk S false).dot.2
  obtain ⟨T, hT⟩ := nm (Rd.mk S false).dot.1.torn
  obtain ⟨X, hX⟩ := nm (Rd.mk S false).dot.1.rest
  obtain ⟨Lr, hLr⟩ := nm ((Rd.mk S false).row m).2
  obtain ⟨nL, hnL⟩ := nm Lr.length
  obtain ⟨U, hU⟩ := nm ((Rd.mk S false).row m).1.torn
  obtain ⟨Y, hY⟩ := nm ((Rd.mk S false).row m).1.rest
  have hnLb : nL ≤ 150 := by rw [hnL.out, hLr.out]; exact Nat.le_trans (Rd.row_len _ _) hS150
  have hTT : ((!T) == T) = false := by cases T <;> rfl
  have hXX : (X.toList != X.toList) = false := by simp
  have hUU : ((!U) != U) = true := by cases U <;> rfl
  have hYY : (Y.toList == Y.toList) = true := by simp
  have heq := fun w => neqD dx dy dx dy true (by simp) w
  have hgd := fun (a b : Operand) (w : World) => guardD .neq a b #[.int .i64 dx, .int .i64 dy] #[.int .i64 dx, .int .i64 dy] w
  have HEQ := Lib.hid heq
  have HGD := Lib.hid hgd
  clear heq hgd e1 e2
  go_upto_if 36 with fail
  go_cut [9] (fun s9 wx => s9 = .string S ∧ we = wx)
  case first =>
    rcases hcut with ⟨hlt, hce⟩ | ⟨hlt, hce⟩
    · go_wp2_with fail
      go_meet
      exact ⟨rfl, rfl⟩
    · have HCE := Lib.hid hce
      clear hce
      go_wp2_with fail
      go_meet
      exact ⟨by rw [HCE.out], rfl⟩
  obtain ⟨rfl, rfl⟩ := hcut
  have HBe2 := Lib.hid hBe2
  have HSP2 := HSP
  clear g1 g2 g3 g4 ge HSP2 hcut hBe2
  go_wp2_with fail
  refine (read2_any S we).mono ?_; rintro e w2 ⟨b, rfl, hb, hr, hB⟩
  have hc0 : IsRr (w2.alloc (.cells #[.string S, .bool false] 45)) w2.heap.size ⟨S, false⟩ := Blk.new _ _ _
  have hr0 : IsRd (w2.alloc (.cells #[.string S, .bool false] 45)) b ⟨S, false⟩ := hr.alloc _
  have hB2 := bNew (bNext HBe2.out hB) (.cells #[.string S, .bool false] 45)
  have hwb : w0.heap.size ≤ b := Nat.le_trans HBe2.out.size hb
  have hbc : b ≠ w2.heap.size := by have := hr.lt; omega
  have hwc : w0.heap.size ≤ w2.heap.size := (bNext HBe2.out hB).size
  have HB := Lib.hid hB2
  clear hB hB2 hb hr
  go_wp2_with fail
  obtain ⟨c, hcn⟩ := nm w2.heap.size
  obtain ⟨w3, hw3⟩ := nm (w2.alloc (.cells #[.string S, .bool false] 45))
  rw [← hcn.out] at hc0 hbc hwc ⊢
  rw [← hw3.out] at hc0 hr0 HB ⊢
  refine (rdot_is b S dx dy T X hd2 hT hX hS150 _ hr0).mono ?_; rintro e w4 ⟨rfl, ha4, k4⟩
  have hc4 : IsRr w4 c ⟨S, false⟩ := k4.blk hc0 (Ne.symm hbc)
  have hB4 := HB.out.trans (k4.below hwb HB.out.size)
  have hX4 : Blk (w4.alloc (.cells #[.int .i64 dx, .int .i64 dy] 23)) w4.heap.size #[.int .i64 dx, .int .i64 dy] 23 := Blk.new _ _ _
  have ha5 := ha4.alloc (.cells #[.int .i64 dx, .int .i64 dy] 23)
  have hc5 : IsRr (w4.alloc (.cells #[.int .i64 dx, .int .i64 dy] 23)) c ⟨S, false⟩ := Blk.alloc hc4 _
  have hB5 := bNew hB4 (.cells #[.int .i64 dx, .int .i64 dy] 23)
  have hxc : w4.heap.size ≠ c := by have := hc4.lt; omega
  clear ha4 k4 hc4 hB4 HB hc0 hr0 hw3
  go_wp2_with fail
  obtain ⟨xb, hxb⟩ := nm w4.heap.size
  obtain ⟨w5, hw5⟩ := nm (w4.alloc (.cells #[.int .i64 dx, .int .i64 dy] 23))
  rw [← hxb.out] at hX4 hxc ⊢
  rw [← hw5.out] at hX4 ha5 hc5 hB5 ⊢
  refine (refrdot_is c S dx dy T X hd2 hT hX hS150 _ hc5).mono ?_; rintro e w6 ⟨rfl, hc6, k6⟩
  have ha6 := (ha5.keptBy k6 hbc).alloc (.cells #[.int .i64 dx, .int .i64 dy] 23)
  have hX6 := (k6.blk hX4 hxc).alloc (.cells #[.int .i64 dx, .int .i64 dy] 23)
  have hY6 : Blk (w6.alloc (.cells #[.int .i64 dx, .int .i64 dy] 23)) w6.heap.size #[.int .i64 dx, .int .i64 dy] 23 := Blk.new _ _ _
  have hc7 := hc6.alloc (.cells #[.int .i64 dx, .int .i64 dy] 23)
  have hB7 := bNew (hB5.trans (k6.below hwc hB5.size)) (.cells #[.int .i64 dx, .int .i64 dy] 23)
  clear k6 hc6 ha5 hc5 hB5 hX4 hw5
  obtain ⟨yb, hyb⟩ := nm w6.heap.size
  obtain ⟨w7, hw7⟩ := nm (w6.alloc (.cells #[.int .i64 dx, .int .i64 dy] 23))
  rw [← hyb.out] at hY6
  rw [← hw7.out] at ha6 hX6 hY6 hc7 hB7
  have x0 : w7.cell? ⟨xb, 0, none⟩ = some (.int .i64 dx) := hX6.cell 0
  have x1 : w7.cell? ⟨xb, 1, none⟩ = some (.int .i64 dy) := hX6.cell 1
  have y0 : w7.cell? ⟨yb, 0, none⟩ = some (.int .i64 dx) := hY6.cell 0
  have y1 : w7.cell? ⟨yb, 1, none⟩ = some (.int .i64 dy) := hY6.cell 1
  have tc : w7.cell? ⟨c, 1, none⟩ = some (.bool T) := hc7.cell
  have heq := HEQ.out
  have hgd := HGD.out
  go_upto_region 14 with fail
  rw [← hyb.out, ← hw7.out]
  go_quiet ((first
    | (go_at_call 32; exact Calls.quiet_of_same (fine_q ha6 _))
    | (go_at_call 33; exact Calls.quiet_of_same (left_q ha6 _))
    | (go_at_call 34; exact Calls.quiet_of_same (refleft_q hc7 _))))
  have hB8 := below_drewN hB7 nq
  obtain ⟨w8, hw8⟩ := nm (w7.drewN nq)
  rw [← hw8.out] at hB8 ⊢
  clear heq hgd x0 x1 y0 y1 tc ha6 hX6 hY6 hc7 hB7 hw7 hw8
  go_wp2_with fail
  refine (read2_any S w8).mono ?_; rintro e w9 ⟨b2, rfl, hb2, hr2, hB9⟩
  have hc20 : IsRr (w9.alloc (.cells #[.string S, .bool false] 45)) w9.heap.size ⟨S, false⟩ := Blk.new _ _ _
  have hr20 : IsRd (w9.alloc (.cells #[.string S, .bool false] 45)) b2 ⟨S, false⟩ := hr2.alloc _
  have hB10 := bNew (bNext hB8 hB9) (.cells #[.string S, .bool false] 45)
  have hwb2 : w0.heap.size ≤ b2 := Nat.le_trans hB8.size hb2
  have hbc2 : b2 ≠ w9.heap.size := by have := hr2.lt; omega
  have hwc2 : w0.heap.size ≤ w9.heap.size := (bNext hB8 hB9).size
  clear hB8 hB9 hb2 hr2
  go_wp2_with fail
  obtain ⟨c2, hcn2⟩ := nm w9.heap.size
  obtain ⟨w10, hw10⟩ := nm (w9.alloc (.cells #[.string S, .bool false] 45))
  rw [← hcn2.out] at hc20 hbc2 hwc2 ⊢
  rw [← hw10.out] at hc20 hr20 hB10 ⊢
  obtain ⟨_, _, g4⟩ := HF.out _ hB10
  have hBc : Below w0.heap.size w0 w10.drew := below_drewN hB10 1
  have hr21 : IsRd w10.drew b2 ⟨S, false⟩ := hr20
  have hc21 : IsRr w10.drew c2 ⟨S, false⟩ := hc20
  have hcl : c2 < w10.drew.heap.size := hc21.lt
  clear hc20 hr20 hB10 hw10
  go_region_held3 (fun w' => w'.cell? ⟨p + 1, 1, none⟩ = some (.int .i64 m)) (first | assumption | go_keep)
    (first
      | (go_at_call 35; (refine (readrow_is b2 S m hm Lr nL U Y hLr hnL hU hY hS150 _ hr21).mono ?_); rintro e wa ⟨aA, cA, rfl, ⟨hslA, habA⟩, hra, ka⟩; have hBa := hBc.trans (ka.below hwb2 hBc.size); have ga := (HF.out _ hBa).2.2; have hca := ka.blk hc21 (Ne.symm hbc2))
      | (go_at_call 36; (refine (refreadrow_is c2 S m hm Lr nL U Y hLr hnL hU hY hS150 _ hca).mono ?_); rintro e wb ⟨aB, cB, rfl, hslB, hrb, kb⟩; have hBb := hBa.trans (kb.below hwc2 hBa.size); have gb := (HF.out _ hBb).2.2)
      | (go_at_call 17; (refine (same_any aA aB cA cB nL nL Lr Lr (hidSymm hnL) (hidSymm hnL) _ (by omega) (hslA.keptBy kb (fun a ha => by have := habA a ha; omega)) hslB true (by show _ = _; exact (decide_eq_true rfl).symm)).mono ?_); rintro e wd ⟨rfl, qd, rfl⟩))
  have hra2 : RdAt (wb.drewN qd) b2 U Y := (show RdAt wb b2 U Y from hra.keptBy kb hbc2)
  have hrb2 : RrAt (wb.drewN qd) c2 U Y := hrb
  have hBd := below_drewN hBb qd
  obtain ⟨w11, hw11⟩ := nm (wb.drewN qd)
  rw [← hw11.out] at hra2 hrb2 hBd ⊢
  have tc : w11.cell? ⟨c2, 1, none⟩ = some (.bool U) := hrb2.cell
  clear hra hrb hslA habA hslB ka kb hBa hBb ga gb g4 hBc hr21 hc21 hca hw11
  go_wp2_with fail
  go_quiet ((first
    | (go_at_call 32; exact Calls.quiet_of_same (fine_q hra2 _))
    | (go_at_call 33; exact Calls.quiet_of_same (left_q hra2 _))
    | (go_at_call 34; exact Calls.quiet_of_same (refleft_q hrb2 _))))
  go_wp2_with fail
  go_ret
  exact ⟨rfl, bNext HB0.out (below_drewN hBd _)⟩
namespace LDotBytes
open Go.ChangeShapes Go.WideShapes Go.ChangeAt
open Go.ChangeMaps (open_string shut_string)

set_option maxRecDepth 100000 in
theorem contract (H : Type) (enc : TypeId × Value → H) (W : World) (base : Nat) (args : Array Value) (ds gs : List (DataW H)) (before : List MemPlace)
    (hval : ∀ (j : Nat) t v, Try.f7.params[j]? = some t → args[j]? = some v → Value.okWide Try.prog W .any base t v)
    (hW : DataW.Whole enc Try.prog Try.f7.params.toList Rows.dotBytesSpec.vars false W args.toList ds gs before)
    (_hsz : (DataW.weightsEach Try.prog (Try.f7.params.toList ++ (OpenSpec.ofChange Rows.dotBytesSpec).bare.plain.varTypes Try.prog) (ds ++ gs)).all (fun x => decide (x ≤ reachBytes)) = true) :
    Calls Try.prog 7 args W fun e W' => ∃ v, e = .returned v ∧ Rows.dotBytesSpec.post enc Try.prog Try.f7 false true false false W args v W' := by
  have hW' := hW
  obtain ⟨p, q, hA0, hV, rfl, hfz, hnd⟩ := hW
  have hA : DataW.TrodAll enc Try.prog W 0 (fun _ => true) true Try.f7.params.toList args.toList ds p := hA0
  rw [Try.params7] at hA hval
  obtain ⟨v0, vs0, d0, ds0, p0, q0, hargs, rfl, rfl, h0, r0⟩ := trodAll_cons hA
  obtain ⟨v1, vs1, d1, ds1, p1, q1, rfl, rfl, rfl, h1, r1⟩ := trodAll_cons r0
  obtain ⟨v2, vs2, d2, ds2, p2, q2, rfl, rfl, rfl, h2, r2⟩ := trodAll_cons r1
  obtain ⟨rfl, rfl, rfl⟩ := trodAll_nil r2
  obtain rfl : args = #[v0, v1, v2] := by cases args; simp_all
  obtain ⟨rfl, rfl⟩ := trodVars_none hV
  obtain ⟨c0, c1, y0, y1, m0, rfl, rfl, rfl, hy0, hy1⟩ := Joins.open_agg2 Try.underlying23 (by kernel_rfl) (show Try.prog.cellsOf 23 = 2 by kernel_rfl) (hval 0 23 v0 rfl rfl) h0
  obtain ⟨z0_0, e0, _, wf0_0⟩ := DataW.trod_int Try.underlying3 hy0
  obtain ⟨z0_1, e1, _, wf0_1⟩ := DataW.trod_int Try.underlying3 hy1
  simp at e0 e1
  subst e0 e1
  obtain ⟨ao1, len1, cap1, l1, rfl, hl1, hlc1, hcm1, hat1, hbd1⟩ := open_pairs Try.underlying27 Try.underlying23 (show Try.prog.cellsOf 23 = 2 by kernel_rfl) ⟨rfl, rfl⟩ ⟨rfl, rfl⟩ Try.underlying3 (show Try.prog.cellsOf 3 = 1 by kernel_rfl) h1 (okWide_slice Try.underlying27 (hval 1 27 v1 rfl rfl))
  obtain ⟨c0, c1, y0, y1, m2, rfl, rfl, rfl, hy0, hy1⟩ := Joins.open_agg2 Try.underlying38 (by kernel_rfl) (show Try.prog.cellsOf 38 = 2 by kernel_rfl) (hval 2 38 v2 rfl rfl) h2
  obtain ⟨z2_0, e0, _, wf2_0⟩ := DataW.trod_string Try.underlying9 hy0
  obtain ⟨z2_1, e1, _, wf2_1⟩ := DataW.trod_int Try.underlying3 hy1
  simp at e0 e1
  subst e0 e1
  clear hA0
  refine (dotBytes_walk z0_0 z0_1 (Go.bounds_i64 wf0_0).2 (Go.bounds_i64 wf0_1).2 ao1 l1 len1 cap1 hl1 hlc1 (fun p hp => ⟨(hbd1 p hp).2.1, (hbd1 p hp).2.2.2⟩) z2_0 z2_1 (Go.bounds_i64 wf2_1).2 W hat1).mono fun e W' ⟨he, hb⟩ => ?_
  subst he
  exact ⟨_, rfl, law_post laidOut Try.underlying4 rfl (by kernel_rfl) rfl rfl rfl rfl hW' hb⟩

theorem reads (os : Os) {H : Type} (enc : TypeId × Value → H) : ∃ places, DataW.whole enc Try.prog ((World.holding Try.prog os ⟨#[], #[], []⟩).forCall (fun _ _ => 0) ⟨#[], #[.agg #[.int .i64 0, .int .i64 0], .slice none 0 0, .agg #[.string .empty, .int .i64 0]], []⟩).memory Try.f7.params.toList Rows.dotBytesSpec.vars false (#[.agg #[.int .i64 0, .int .i64 0], .slice none 0 0, .agg #[.string .empty, .int .i64 0]] : Array Value).toList 8 = some ([.agg [.lit (.int .i64 0), .lit (.int .i64 0)], .nil, .agg [.lit (.string []), .lit (.int .i64 0)]], [], places) :=
  ⟨[], by kernel_rfl⟩
theorem laid_met (os : Os) : laidMet Try.prog Rows.dotBytesRow.laid ((World.holding Try.prog os ⟨#[], #[], []⟩).forCall (fun _ _ => 0) ⟨#[], #[.agg #[.int .i64 0, .int .i64 0], .slice none 0 0, .agg #[.string .empty, .int .i64 0]], []⟩).memory :=
  laidMet_of_run' 8 (by kernel_rfl) (by kernel_rfl)

set_option maxRecDepth 100000 in
theorem lifted (os : Os) (started : os.Started) (H : Type) (enc : TypeId × Value → H) (F : Stop.Interp) :
    ReturnsInHanded {} Try.checked os 7 .any ((OpenSpec.ofChange Rows.dotBytesSpec).preRow enc Try.prog Try.f7 Rows.dotBytesRow.domain false Rows.dotBytesRow.laid) (((OpenSpec.ofChange Rows.dotBytesSpec).at F).post enc Try.prog Try.f7 false true false false) := by
  obtain ⟨places, hx⟩ := reads os enc
  refine returnsInHanded_of_row (C := Try.checked) (s := OpenSpec.ofChange Rows.dotBytesSpec) own started (by kernel_rfl) Try.func7
    (witness_row_at (enc := enc) (C := Try.checked) false (World.holding Try.prog os ⟨#[], #[], []⟩) #[.agg #[.int .i64 0, .int .i64 0], .slice none 0 0, .agg #[.string .empty, .int .i64 0]] rfl (by kernel_rfl) (by kernel_rfl) (by kernel_rfl)
      (OpenSpec.preRow_of_cond 8 hx (by kernel_rfl) (fun k hk => by cases hk) (by kernel_rfl) (laid_met os))) ?_
  intro W base args ds gs before hval hW _ _ hsz hL _ _
  exact contract H enc W base args ds gs before hval hW hsz

theorem said : Rows.DotBytesSaid :=
  OpenClaim.holds_of_cond 7 Try.f7 rfl rfl rfl rfl rfl rfl rfl ⟨rfl, rfl, rfl, rfl, rfl⟩ rfl rfl rfl rfl rfl (by kernel_rfl) Try.func7 (by kernel_rfl)
    (of_decide_eq_true (by kernel_rfl)) (by unfold Func.isWrapper; first | (rw [if_pos (by decide +kernel)]; kernel_rfl) | (rw [if_neg (by decide +kernel)]; exact ⟨rfl, rfl⟩))
    (fun os started H enc _ F => by rw [OpenClaim.pre_eq_preRow]; exact lifted os started H enc F)
end LDotBytes
end Go.Proofs.Ythhcooabfgegaaa
