/- The document's wheel. -/
import Derived.Test.YtipnfalmnoieiaaWheelMany
import Derived.Outline
import Derived.BigQuiet
import Derived.Deep.QuietTactic
namespace Go.Proofs.Ytipnfalmnoieiaa
open Go.RowKit Go.Shelf Go.Lib Go.Sort Go.Maps

theorem filter_low {l : List (Int × Int)} (ha : Asc l) {x : Int × Int} : l.filter (fun y => decide (ltP y x)) = l.take (lowD l x) := by
  induction l with
  | nil => rfl
  | cons a l ih =>
    have ha' := List.pairwise_cons.1 ha
    by_cases h : ltP a x
    · simp only [lowD, List.filter_cons, h, decide_true, if_true, List.length_cons, List.take_succ_cons]
      show a :: _ = a :: List.take (lowD l x) l
      rw [ih ha'.2]
    · have e : l.filter (fun y => decide (ltP y x)) = [] := List.filter_eq_nil_iff.2 fun y hy => by
        simpa using fun hl => h (ltP_trans (ha'.1 y hy) hl)
      simp only [lowD, List.filter_cons, h, decide_false, Bool.false_eq_true, if_false, e, List.length_nil, List.take_zero]
theorem filter_high {l : List (Int × Int)} (ha : Asc l) {x : Int × Int} : l.filter (fun y => !decide (ltP y x)) = l.drop (lowD l x) := by
  induction l with
  | nil => rfl
  | cons a l ih =>
    have ha' := List.pairwise_cons.1 ha
    by_cases h : ltP a x
    · simp only [lowD, List.filter_cons, h, decide_true, Bool.not_true, Bool.false_eq_true, if_false, if_true, List.length_cons, List.drop_succ_cons]
      show _ = List.drop (lowD l x) l
      rw [ih ha'.2]
    · have e : l.filter (fun y => decide (ltP y x)) = [] := List.filter_eq_nil_iff.2 fun y hy => by
        simpa using fun hl => h (ltP_trans (ha'.1 y hy) hl)
      have e2 : l.filter (fun y => !decide (ltP y x)) = l := List.filter_eq_self.2 fun y hy => by
        simpa using fun hl => h (ltP_trans (ha'.1 y hy) hl)
      simp only [lowD, List.filter_cons, h, decide_false, Bool.false_eq_true, if_false, e, e2, List.length_nil, List.drop_zero, Bool.not_false, if_true]
theorem asc_mono {ps : List (Int × Int)} (ha : Asc ps) {i j : Nat} (hij : i < j) (hj : j < ps.length) : ltP ps[i]! ps[j]! := by
  have := List.pairwise_iff_getElem.1 ha i j (by omega) hj hij
  rwa [getElem!_pos ps i (by omega), getElem!_pos ps j hj]

set_option maxRecDepth 100000 in
set_option maxHeartbeats 1000000 in
theorem refwithout_any (ao : Option Addr) (ps : List (Int × Int)) (n cap : Nat) (hn : Hid (ps.length = n)) (hm : n ≤ 1000000) (z : Int) (w : World) (hs : SlP w ao ps) :
    Calls Try.prog 25 #[.slice ao n cap, .int .i64 z] w fun e w' => ∃ v, e = .returned v ∧ OwnP w' w.heap.size 28 v (outL ps z) ∧ Below w.heap.size w w' := by
  have HS := Lib.hid hs
  clear hs
  go_enter Try.func25, Try.ntmps25
  go_wp2_with fail
  go_loopw [5, 6] (fun v i wr => ∃ k : Nat, k ≤ n ∧ i = .int .i64 (k : Int) ∧ OwnP wr w.heap.size 28 v (outL (ps.take k) z) ∧ Below w.heap.size w wr) (fun _ i _ => n - (intOf i).toNat)
  case atStart => exact ⟨0, by omega, rfl, OwnP.nil _ _ _, Below.refl _ _⟩
  case round =>
    obtain ⟨k, hk, rfl, hown, hB⟩ := hrel
    by_cases hlt : k < n
    · obtain ⟨b, off, u, v, rfl, hbl, c0, c1, hpk⟩ := HS.out.get k (by rw [hn.out]; exact hlt)
      have d0 : wr.cell? ⟨b, off + k * 2, none⟩ = some (.int .i64 u) := (hB.cell (p := ⟨b, off + k * 2, none⟩) hbl).trans c0
      have d1 : wr.cell? ⟨b, off + k * 2 + 1, none⟩ = some (.int .i64 v) := (hB.cell (p := ⟨b, off + k * 2 + 1, none⟩) hbl).trans c1
      clear c0 c1
      have htk := take_snocP hpk.out
      obtain ⟨L, hL⟩ := nm (outL (ps.take k) z)
      have hLl : L.length ≤ k := by rw [hL.out]; exact Nat.le_trans (out_le _ _) (by rw [List.length_take]; omega)
      rw [← hL.out] at hown
      by_cases huz : v = z
      · have hN : Hid (outL (ps.take (k + 1)) z = L) := by
          show _ = _
          rw [htk, hL.out]
          unfold outL
          rw [List.filter_append, List.filter_cons_of_neg (by simpa using huz)]; simp
        have hub : (v != z) = false := by simpa using huz
        rw [← hN.out] at hown
        clear htk huz
        go_wp2_with fail
        go_roundw
        case rel => exact ⟨k + 1, by omega, by go_num, hown, hB⟩
        case measure => simp [intOf]; omega
      · have hN : Hid (outL (ps.take (k + 1)) z = L ++ [(u, v)]) := by
          show _ = _
          rw [htk, hL.out]
          unfold outL
          rw [List.filter_append, List.filter_cons_of_pos (by simpa using huz)]; rfl
        have hub : (v != z) = true := by simpa using huz
        clear htk huz
        go_wp2_with (at_builtin; refine app_pairs rfl _ _ rfl w.heap.size _ L rfl (hown.alloc _) (some ⟨wr.heap.size, 0, none⟩) 1 1 [(u, v)] rfl rfl (fun h => by cases h) (SlP.ofBlk (Blk.new wr _ _)) (by omega) (Nat.le_trans hB.size (by simp)) ?_)
        intro v' w2 hown2 hgrow
        have hB2 := own_grown (hown.alloc _) (bNew hB _) (Nat.le_refl _) hgrow
        rw [← hN.out] at hown2
        clear hown hgrow hB
        go_wp2_with fail
        go_roundw
        case rel => exact ⟨k + 1, by omega, by go_num, hown2, hB2⟩
        case measure => simp [intOf]; omega
    · obtain rfl : k = n := by omega
      rw [List.take_of_length_le (by rw [hn.out]; exact Nat.le_refl _)] at hown
      go_wp2_with fail
      go_ret
      exact ⟨_, rfl, hown, hB⟩

/-- The document's wheel: its row, its time. -/
structure RW (w : World) (p : Nat) (ao : Option Addr) (n cap : Nat) (L : List (Int × Int)) (clk : Int) : Prop where
  blk : Blk w p #[.slice ao n cap, .int .i64 clk] 44
  len : L.length = n
  capn : n ≤ cap
  capm : cap ≤ maxLen
  none_ : ao = none → cap = 0
  sl : SlP w ao L
  apart : ∀ a, ao = some a → a.block ≠ p ∧ a.block < w.heap.size
  form : ∀ a, ao = some a → a.spot = none
theorem RW.kept {S : Nat → Prop} {w w' : World} {p n cap : Nat} {ao : Option Addr} {L : List (Int × Int)} {clk : Int} (h : RW w p ao n cap L clk) (hk : KeptS S w w') (hp : ¬ S p) (ha : ∀ a, ao = some a → ¬ S a.block) : RW w' p ao n cap L clk :=
  ⟨hk.blk h.blk hp, h.len, h.capn, h.capm, h.none_, h.sl.keptS hk ha, fun a e => ⟨(h.apart a e).1, Nat.lt_of_lt_of_le (h.apart a e).2 hk.size⟩, h.form⟩
theorem RW.below {w w' : World} {p n cap : Nat} {ao : Option Addr} {L : List (Int × Int)} {clk : Int} (h : RW w p ao n cap L clk) (hb : Below w.heap.size w w') : RW w' p ao n cap L clk :=
  h.kept (S := fun _ => False) (KeptS.ofBelow hb) (fun h => h) (fun _ _ h => h)
/-- The document's wheel behind a call: only its own block has turned; its row is new, or where it was. -/
def RWEnd (w w' : World) (p : Nat) (ao : Option Addr) (L : List (Int × Int)) (clk : Int) : Prop :=
  ∃ ao' n cap, RW w' p ao' n cap L clk ∧ KeptS (fun k => k = p) w w' ∧ ∀ a', ao' = some a' → (∃ a, ao = some a ∧ a'.block = a.block) ∨ w.heap.size ≤ a'.block
/-- A row that a call has made, laid into the wheel. -/
theorem rw_laid {w w3 : World} {p : Nat} {ao : Option Addr} {base n' cap' : Nat} {ao' : Option Addr} {L : List (Int × Int)} {c : Value} {clk : Int} (hb : Blk w3 p #[c, .int .i64 clk] 44) (ho : OwnP w3 base 28 (.slice ao' n' cap') L) (hp : p < base) (hw : w.heap.size ≤ base) (hk : KeptS (fun k => k = p) w w3) :
    RWEnd w (w3.setCell ⟨p, 0, none⟩ (.slice ao' n' cap')) p ao L clk := by
  have hlt := ho.lt
  have hc0 := ho.cap0
  have hform : ∀ a, ao' = some a → a.spot = none := by
    rintro a rfl
    rcases ho.2 with ⟨e, _⟩ | ⟨g, c9, cur, e, _⟩
    · cases e
    · cases e; rfl
  obtain ⟨ao2, cap2, e, h1, h2, h3, h4⟩ := ho.sl
  injection e with e1 e2 e3
  subst e1 e2 e3
  have hne : ∀ a, ao' = some a → a.block ≠ p ∧ a.block < w3.heap.size := fun a ha => by
    subst ha
    have h5 := hlt a.block rfl
    have := h4 a rfl
    exact ⟨by omega, h5.2⟩
  have K : KeptS (fun k => k = p) w3 (w3.setCell ⟨p, 0, none⟩ (.slice ao' L.length cap')) := (KeptS.refl (fun k => k = p) w3).set ⟨p, 0, none⟩ rfl _
  exact ⟨ao', L.length, cap', ⟨hb.set 0 _, rfl, h1, h2, hc0, h3.keptS K fun a ha => (hne a ha).1, fun a ha => ⟨(hne a ha).1, Nat.lt_of_lt_of_le (hne a ha).2 K.size⟩, hform⟩, hk.trans K, fun a ha => .inr (Nat.le_trans hw (h4 a ha))⟩

set_option maxRecDepth 100000 in
set_option maxHeartbeats 4000000 in
theorem refstop_any (p n cap : Nat) (ao : Option Addr) (L : List (Int × Int)) (clk id : Int) (b : Bool) (hb : Hid (decide (id ∈ idsL L) = b)) (hnd : (idsL L).Nodup) (hl : n ≤ 4096) (w : World) (h : RW w p ao n cap L clk) :
    Calls Try.prog 16 #[.pointer (some ⟨p, 0, none⟩), .int .i64 id] w fun e w' => e = .returned (.bool b) ∧ RWEnd w w' p ao (outL L id) clk := by
  have c0 : w.cell? ⟨p, 0, none⟩ = some (.slice ao n cap) := h.blk.cell 0
  have hO := refwithout_any ao L n cap h.len (by omega) id w h.sl
  have HO := Lib.hid hO
  have HRW := Lib.hid h
  have HND := Lib.hid hnd
  clear h hO hnd
  go_enter Try.func16, Try.ntmps16
  go_wp2_with fail
  refine HO.out.mono ?_; rintro e w2 ⟨v, rfl, hown, hB⟩
  have hb2 := HRW.out.blk.below hB HRW.out.blk.lt
  obtain ⟨a3, cap3, rfl, hc3, hcm3, hsl3, hab3⟩ := hown.sl
  have hd : decide ((outL L id).length < n) = b := by
    rw [← hb.out]
    have h1 := HRW.out.len
    by_cases hin : id ∈ idsL L
    · have := out_length HND.out hin
      rw [decide_eq_true hin]; exact decide_eq_true (by omega)
    · rw [out_none hin, decide_eq_false hin]; exact decide_eq_false (by omega)
  have HE : Hid (RWEnd w (w2.setCell ⟨p, 0, none⟩ (.slice a3 (outL L id).length cap3)) p ao (outL L id) clk) :=
    rw_laid hb2 hown HRW.out.blk.lt (Nat.le_refl _) (KeptS.ofBelow hB)
  have c2 : w2.cell? ⟨p, 0, none⟩ = some (.slice ao n cap) := hb2.cell 0
  have f2 : w2.frozen? ⟨p, 0, none⟩ = false := hb2.free 0
  obtain ⟨O, hO⟩ := nm (outL L id)
  rw [← hO.out] at hd HE ⊢
  obtain ⟨m, hm⟩ := nm O.length
  rw [← hm.out] at hd HE ⊢
  clear c0 hown hsl3 hab3 hB hb2
  go_wp2_with fail
  go_ret
  have h9 := HE.out
  rw [hO.out] at h9
  exact ⟨rfl, h9⟩

/-- What is left of a row that is cut at D. -/
theorem rw_cut {w w1 : World} {p n cap D : Nat} {ao ao' : Option Addr} {cap' : Nat} {L : List (Int × Int)} {clk : Int} (h : RW w1 p ao n cap L clk) (hk : KeptS (fun k => k = p) w w1) (hD : D ≤ n)
    (he : (ao = none ∧ ao' = none ∧ cap' = 0 ∧ D = 0) ∨ (∃ b off, ao = some ⟨b, off, none⟩ ∧ D < cap ∧ ao' = some ⟨b, off + D * 2, none⟩ ∧ cap' = cap - D) ∨ (∃ b off, ao = some ⟨b, off, none⟩ ∧ D = cap ∧ ao' = some ⟨b, off, none⟩ ∧ cap' = 0)) :
    RWEnd w (w1.setCell ⟨p, 0, none⟩ (.slice ao' (n - D) cap')) p ao (L.drop D) clk := by
  have K : KeptS (fun k => k = p) w1 (w1.setCell ⟨p, 0, none⟩ (.slice ao' (n - D) cap')) := (KeptS.refl (fun k => k = p) w1).set ⟨p, 0, none⟩ rfl _
  have hln : (L.drop D).length = n - D := by rw [List.length_drop, h.len]
  have hc := h.capn
  have hcm := h.capm
  rcases he with ⟨rfl, rfl, rfl, rfl⟩ | ⟨b, off, rfl, h1, rfl, rfl⟩ | ⟨b, off, rfl, rfl, rfl, rfl⟩
  · have h0 := h.none_ rfl
    refine ⟨none, n - 0, 0, ⟨h.blk.set 0 _, hln, by omega, by omega, fun _ => rfl, h.sl.keptS K (fun a e => by cases e), (fun a e => by cases e), fun a e => by cases e⟩, hk.trans K, fun a e => by cases e⟩
  · have ha := h.apart _ rfl
    refine ⟨_, _, _, ⟨h.blk.set 0 _, hln, by omega, by omega, fun e => (by cases e), (h.sl.drop D).keptS K (fun a e => by cases e; exact ha.1), (fun a e => by cases e; exact ⟨ha.1, Nat.lt_of_lt_of_le ha.2 K.size⟩), fun a e => by cases e; rfl⟩, hk.trans K, fun a e => by cases e; exact .inl ⟨_, rfl, rfl⟩⟩
  · have ha := h.apart _ rfl
    have hd : L.drop D = [] := List.drop_eq_nil_of_le (by rw [h.len]; omega)
    refine ⟨_, _, _, ⟨h.blk.set 0 _, hln, by omega, by omega, fun e => (by cases e), by rw [hd]; exact SlP.nil _ _, (fun a e => by cases e; exact ⟨ha.1, Nat.lt_of_lt_of_le ha.2 K.size⟩), fun a e => by cases e; rfl⟩, hk.trans K, fun a e => by cases e; exact .inl ⟨_, rfl, rfl⟩⟩

/-- The document's Due. -/
def DueEnd (w : World) (p : Nat) (ao : Option Addr) (cap D : Nat) (L : List (Int × Int)) (C : Int) (e : Ending) (w' : World) : Prop :=
  e = .returned (.slice ao D cap) ∧ SlP w' ao (dueL L C) ∧ RWEnd w w' p ao (restL L C) C

set_option maxRecDepth 100000 in
set_option maxHeartbeats 4000000 in
theorem refdue_any (p n cap : Nat) (ao : Option Addr) (L : List (Int × Int)) (clk now C : Int) (D : Nat) (hC : Hid (dueC clk now = C)) (hD : Hid (D = (dueL L C).length)) (ha : Asc L) (hl : n ≤ 4096) (w : World) (h : RW w p ao n cap L clk) :
    Calls Try.prog 18 #[.pointer (some ⟨p, 0, none⟩), .int .i64 now] w (DueEnd w p ao cap D L C) := by
  have c0 : w.cell? ⟨p, 0, none⟩ = some (.slice ao n cap) := h.blk.cell 0
  have c1 : w.cell? ⟨p, 1, none⟩ = some (.int .i64 clk) := h.blk.cell 1
  have f1 : w.frozen? ⟨p, 1, none⟩ = false := h.blk.free 1
  obtain ⟨t1, t2, t3, t4⟩ := due_take C ha
  have hDn : D ≤ n := by rw [hD.out, ← h.len]; exact due_len L C
  have hcn := h.capn
  rw [← hD.out] at t1 t2 t3 t4
  have HT1 := Lib.hid t1
  have HT2 := Lib.hid t2
  have HT3 := Lib.hid t3
  have HT4 := Lib.hid t4
  have H := Lib.hid h
  clear t1 t2 t3 t4 h ha
  go_enter Try.func18, Try.ntmps18
  obtain ⟨B, hB⟩ := nm (decide (clk < now ∧ now ≤ 1125899906842624))
  go_upto_region 1 with fail
  go_cut [16] (fun c wx => c = .bool B ∧ wx = w)
  case first =>
    by_cases h1 : clk < now
    · have hd1 : decide (clk < now) = true := decide_eq_true h1
      have hd2 : decide (now ≤ 1125899906842624) = B := by rw [hB.out]; exact decide_eq_decide.2 ⟨fun h => ⟨h1, h⟩, fun h => h.2⟩
      go_wp2_with fail
      go_meet
      exact ⟨rfl, rfl⟩
    · have hd1 : decide (clk < now) = false := decide_eq_false h1
      have hb : Hid (B = false) := by show _ = _; rw [hB.out]; exact decide_eq_false fun h => h1 h.1
      go_wp2_with fail
      go_meet
      exact ⟨by rw [hb.out], rfl⟩
  obtain ⟨rfl, hwc⟩ := hcut
  obtain rfl := hwc.symm
  go_upto_if 16 with (fail)
  go_cut [] (fun wx => RW wx p ao n cap L C ∧ KeptS (fun k => k = p) w wx)
  case first =>
    cases B
    · have hcc : Hid (clk = C) := by
        have h1 : ¬ (clk < now ∧ now ≤ 1125899906842624) := by simpa using hB.out.symm
        have h2 := hC.out
        unfold dueC at h2
        show _ = _
        split at h2 <;> omega
      go_wp2_with fail
      go_meet
      exact ⟨hcc.out ▸ H.out, KeptS.refl _ _⟩
    · have hcc : Hid (now = C) := by
        have h1 : clk < now ∧ now ≤ 1125899906842624 := by simpa using hB.out.symm
        have h2 := hC.out
        unfold dueC at h2
        show _ = _
        split at h2 <;> omega
      go_wp2_with fail
      go_meet
      have K : KeptS (fun k => k = p) w (w.setCell ⟨p, 1, none⟩ (.int .i64 now)) := (KeptS.refl (fun k => k = p) w).set ⟨p, 1, none⟩ rfl _
      refine ⟨⟨?_, H.out.len, H.out.capn, H.out.capm, H.out.none_, H.out.sl.keptS K fun a e => (H.out.apart a e).1, fun a e => ⟨(H.out.apart a e).1, Nat.lt_of_lt_of_le (H.out.apart a e).2 K.size⟩, H.out.form⟩, K⟩
      rw [← hcc.out]
      exact H.out.blk.set 1 _
  obtain ⟨h1, k1⟩ := hcut
  have c0 : wc.cell? ⟨p, 0, none⟩ = some (.slice ao n cap) := h1.blk.cell 0
  have c1 : wc.cell? ⟨p, 1, none⟩ = some (.int .i64 C) := h1.blk.cell 1
  have f0 : wc.frozen? ⟨p, 0, none⟩ = false := h1.blk.free 0
  have H1 := Lib.hid h1
  have K1 := Lib.hid k1
  clear h1 k1 f1
  go_upto_block 0 with fail
  go_cut [5] (fun s5 wx => s5 = .int .i64 (D : Int) ∧ ∃ q, wx = wc.drewN q)
  case first =>
    go_wp2_with fail
    go_loopw [5] (fun s5 wx => ∃ k q : Nat, k ≤ D ∧ s5 = .int .i64 (k : Int) ∧ wx = wc.drewN q) (fun s5 _ => D - (intOf s5).toNat)
    case atStart => exact ⟨0, 0, by omega, rfl, rfl⟩
    case round =>
      obtain ⟨k, q, hk, rfl, rfl⟩ := hrel
      rcases Nat.lt_or_ge k n with hkn | hkn
      · have hkL : k < L.length := by rw [H1.out.len]; exact hkn
        obtain ⟨b, off, e, hb, h3⟩ := H1.out.sl k hkL
        obtain ⟨y, hy⟩ := nm (L[k]'hkL)
        have hpk : L[k]? = some y := by rw [hy.out]; exact List.getElem?_eq_getElem hkL
        obtain ⟨u, v⟩ := y
        obtain ⟨d0, d1⟩ := h3 k (u, v) hpk
        simp only at d0 d1
        subst e
        have hk0 : (0 : Int) ≤ (k : Int) := by omega
        have hk1 : (k : Int) < (n : Int) := by omega
        have hkd : decide (k < n) = true := decide_eq_true hkn
        by_cases hlt : k < D
        · have hu := HT3.out k (u, v) hlt hpk
          simp only at hu
          have hud : decide (u ≤ C) = true := decide_eq_true hu
          clear h3 hpk hy hkL d1 hu hkn
          go_wp2_with fail
          go_quiet (fail)
          go_wp2_with fail
          go_roundw
          case rel => exact ⟨k + 1, _, by omega, by go_num, rfl⟩
          case measure => simp [intOf]; omega
        · have hu := HT4.out k (u, v) (by omega) hpk
          simp only at hu
          have hud : decide (u ≤ C) = false := decide_eq_false (by omega)
          have hkD : Hid (k = D) := by show _ = _; omega
          clear h3 hpk hy hkL d1 hu hkn
          go_wp2_with fail
          go_quiet (fail)
          go_wp2_with fail
          go_meet
          exact ⟨by rw [hkD.out], _, by rw [World.drewN_drewN]⟩
      · have hkd : decide (k < n) = false := decide_eq_false (by omega)
        have hkD : Hid (k = D) := by show _ = _; omega
        clear hkn
        go_wp2_with fail
        go_quiet (fail)
        go_wp2_with fail
        go_meet
        exact ⟨by rw [hkD.out], _, by rw [World.drewN_drewN]⟩
  obtain ⟨rfl, q, rfl⟩ := hcut
  clear c0 c1 f0
  have KQ : KeptS (fun _ => False) wc (wc.drewN q) := (KeptS.refl _ _).drewN q
  have HQ := Lib.hid (H1.out.kept KQ (fun h => h) (fun _ _ h => h))
  have HKQ : Hid (KeptS (fun k => k = p) w (wc.drewN q)) := K1.out.drewN q
  obtain ⟨wq, hwq⟩ := nm (wc.drewN q)
  rw [← hwq.out] at HQ HKQ
  rw [← hwq.out]
  have c0 : wq.cell? ⟨p, 0, none⟩ = some (.slice ao n cap) := HQ.out.blk.cell 0
  have f0 : wq.frozen? ⟨p, 0, none⟩ = false := HQ.out.blk.free 0
  have HSD : Hid (SlP wq ao (dueL L C)) := by show SlP _ _ _; rw [HT1.out]; exact HQ.out.sl.take D
  clear KQ hwq
  cases ao with
  | none =>
    have h0 := HQ.out.none_ rfl
    obtain rfl : D = 0 := by have := HQ.out.capn; omega
    obtain rfl : cap = 0 := h0
    obtain rfl : n = 0 := by have := HQ.out.capn; omega
    have HE := rw_cut (w := w) (D := 0) HQ.out HKQ.out (by omega) (.inl ⟨rfl, rfl, rfl, rfl⟩)
    have HEE := Lib.hid HE
    clear HE
    go_wp2_with fail
    go_ret
    have K : KeptS (fun k => k = p) wq (wq.setCell ⟨p, 0, none⟩ (.slice none 0 0)) := (KeptS.refl (fun k => k = p) wq).set ⟨p, 0, none⟩ rfl _
    exact ⟨rfl, HSD.out.keptS K (fun a e => by cases e), by rw [HT2.out]; exact HEE.out⟩
  | some a =>
    obtain ⟨b, off, spot⟩ := a
    obtain rfl : spot = none := HQ.out.form _ rfl
    have hne : b ≠ p := (HQ.out.apart _ rfl).1
    have hD0 : (0 : Int) ≤ (D : Int) := by omega
    have hDc : D ≤ cap := by omega
    by_cases hDcap : D < cap
    · have HE := rw_cut (w := w) (D := D) HQ.out HKQ.out hDn (.inr (.inl ⟨b, off, rfl, hDcap, rfl, rfl⟩))
      have HEE := Lib.hid HE
      clear HE
      go_wp2_with fail
      go_ret
      have K : KeptS (fun k => k = p) wq (wq.setCell ⟨p, 0, none⟩ (.slice (some ⟨b, off + D * 2, none⟩) (n - D) (cap - D))) := (KeptS.refl (fun k => k = p) wq).set ⟨p, 0, none⟩ rfl _
      exact ⟨rfl, HSD.out.keptS K (fun a e => by cases e; exact hne), by rw [HT2.out]; exact HEE.out⟩
    · obtain rfl : D = cap := by omega
      have HE := rw_cut (w := w) (D := D) HQ.out HKQ.out hDn (.inr (.inr ⟨b, off, rfl, rfl, rfl, rfl⟩))
      have hnD : n - D = 0 := by omega
      rw [hnD] at HE
      have HEE := Lib.hid HE
      clear HE hDcap
      go_wp2_with fail
      go_ret
      have K : KeptS (fun k => k = p) wq (wq.setCell ⟨p, 0, none⟩ (.slice (some ⟨b, off, none⟩) 0 0)) := (KeptS.refl (fun k => k = p) wq).set ⟨p, 0, none⟩ rfl _
      exact ⟨rfl, HSD.out.keptS K (fun a e => by cases e; exact hne), by rw [HT2.out]; exact HEE.out⟩
end Go.Proofs.Ytipnfalmnoieiaa
