/- The walks of layer ring: Place, Order, Owners, Majority. -/
import Derived.Test.YtmmfbeeeamcooaaDoorRingA
import Derived.Test.YtmmfbeeeamcooaaDoorSpotIndex
import Derived.Maps.Own
import Derived.Maps.Views
import Derived.Deep.AppendLies
import Derived.WalkMore
namespace Go.Proofs.YtmmfbeeeamcooaaDoor
open Go.RowKit Go.Shelf Go.Lib Go.Sort Go.Maps

/-! ### A set of numbers as a map that the call made -/
theorem plainElem_bool_inv {H : Type} {P : Program} {e : TypeId} (he : P.underlying e = some .bool) {v : Value} {z : DataW H × List MemPlace} (h : plainElem P e v = some z) : ∃ c, v = .bool c ∧ z = (.lit (.bool c), []) := by
  unfold plainElem at h
  rw [he] at h
  cases v <;> simp at h
  subst h
  exact ⟨_, rfl, rfl⟩
theorem lookup_bool {H : Type} {P : Program} (w : World) {ops : Array Oper} {rest : List Oper} {o : Oper} {a : Act} {Q : Exit → Act → World → Prop}
    (hg : o.guard = none) (m x : Operand) (t : TypeId) (hop : o.op = Op.lookup t m x false)
    (k e : TypeId) (K : Keyed P k) (ht : P.underlying t = some (.map k e)) (he : P.underlying e = some .bool) (hz : (zeroValue e).run P w = .ok (.bool false) w) (b n : Nat) (D : DataW H)
    (hm : a.eval m = .map (some b)) (hown : w.ownsMap P k (plainElem P e) b n D) (key : Value) (kl : Lit) (hx : a.eval x = key) (hkey : keyOf P k key = some kl)
    (hK : ∀ c : Bool, D.atKey kl (.lit (.bool false)) = .lit (.bool c) → wpList P ops Q rest (a.put o.dst (.bool c)) w) :
    wpList P ops Q (o :: rest) a w := by
  refine wpList_plain hg fun K' hK' => ?_
  obtain ⟨v, ps, hrun, hv⟩ := hown.lookup K ht hz (plainElem_bool he false) hkey
  obtain ⟨c, rfl, hc⟩ := plainElem_bool_inv he hv
  simp only [Prod.mk.injEq] at hc
  unfold Oper.wp
  simp [execOp, hop, hm, hx, hrun, Result.andThen]
  exact hK' _ _ (hK c hc.1)
/-- Block b is the set S, as a map. -/
def SetB (w : World) (b n : Nat) (S : List Int) (D : DataW Unit) : Prop :=
  w.ownsMap Tryd.prog 3 (plainElem Tryd.prog 4) b n D ∧ Maps.IsMap D ∧ ∀ x : Int, D.atKey (.int .i64 x) (.lit (.bool false)) = .lit (.bool (decide (x ∈ S)))
theorem keyInt : Keyed Tryd.prog 3 := int_keyed Tryd.underlying3
theorem SetB.put {w w' : World} {b n : Nat} {S : List Int} {D : DataW Unit} (h : SetB w b n S D) {x : Int} (h1 : w'.ownsMap Tryd.prog 3 (plainElem Tryd.prog 4) b (n + 1) (D.put (.int .i64 x) (.lit (.bool true)))) (hkey : keyOf Tryd.prog 3 (.int .i64 x) = some (.int .i64 x)) :
    SetB w' b (n + 1) (S ++ [x]) (D.put (.int .i64 x) (.lit (.bool true))) := by
  obtain ⟨_, h2, h3⟩ := h
  refine ⟨h1, ?_, fun y => ?_⟩
  · obtain ⟨es, rfl⟩ := h2; exact ⟨_, rfl⟩
  · by_cases e : y = x
    · subst e
      rw [Maps.atKey_put_same h2 (keyInt.key hkey)]
      simp
    · rw [Maps.atKey_put_other (by intro h; cases h; exact e rfl), h3 y]
      simp [e]

/-- A list of numbers, each where it stands first. -/
def dedF (l : List Int) : List Int := l.foldl (fun acc x => if x ∈ acc then acc else acc ++ [x]) []
theorem dedF_snoc (l : List Int) (x : Int) : dedF (l ++ [x]) = if x ∈ dedF l then dedF l else dedF l ++ [x] := by
  unfold dedF
  rw [List.foldl_append]; rfl
theorem dedF_length : ∀ (l : List Int), (dedF l).length ≤ l.length := by
  have key : ∀ (l acc : List Int), (l.foldl (fun acc x => if x ∈ acc then acc else acc ++ [x]) acc).length ≤ acc.length + l.length := by
    intro l
    induction l with
    | nil => intro acc; simp
    | cons x l ih =>
      intro acc
      rw [List.foldl_cons]
      have := ih (if x ∈ acc then acc else acc ++ [x])
      split at this
      · rename_i h; rw [if_pos h, List.length_cons]; omega
      · rename_i h; rw [if_neg h, List.length_cons]; rw [List.length_append, List.length_singleton] at this; omega
  intro l
  have := key l []
  simpa [dedF] using this

/-- A part's place. -/
def placeI (part : Int) : Int := part % 16 * 4096
/-- The first spot of which p holds; the length, if there is none. -/
def firstP (p : Int × Int → Bool) : List (Int × Int) → Nat
  | [] => 0
  | x :: l => if p x then 0 else firstP p l + 1
theorem firstP_at (p : Int × Int → Bool) : ∀ (l : List (Int × Int)) (i : Nat), i < l.length → p l[i]! = true → (∀ j, j < i → p l[j]! = false) → firstP p l = i
  | [], i, h, _, _ => absurd h (Nat.not_lt_zero _)
  | x :: l, 0, _, h, _ => by
    have : p x = true := by simpa using h
    simp [firstP, this]
  | x :: l, i + 1, h, h1, h2 => by
    have h0 : p x = false := by simpa using h2 0 (by omega)
    rw [firstP, h0, if_neg (by simp), firstP_at p l i (by simpa using h) (by simpa using h1) fun j hj => by simpa using h2 (j + 1) (by omega)]
theorem firstP_none (p : Int × Int → Bool) : ∀ (l : List (Int × Int)), (∀ x ∈ l, p x = false) → firstP p l = l.length
  | [], _ => rfl
  | x :: l, h => by rw [firstP, h x (by simp), if_neg (by simp), firstP_none p l fun y hy => h y (by simp [hy])]; rfl
theorem firstP_le (p : Int × Int → Bool) : ∀ (l : List (Int × Int)), firstP p l ≤ l.length
  | [] => Nat.le_refl _
  | x :: l => by rw [firstP]; split <;> simp; exact firstP_le p l
/-- Where a part's order begins. -/
def atR (ps : List (Int × Int)) (part : Int) : Nat := if firstP (fun p => decide (placeI part ≤ p.1)) ps < ps.length then firstP (fun p => decide (placeI part ≤ p.1)) ps else 0
def rotR (ps : List (Int × Int)) (part : Int) : List Int := (List.range ps.length).map fun k => (ps[(atR ps part + k) % ps.length]!).2
def orderL (ps : List (Int × Int)) (part : Int) : List Int := dedF (rotR ps part)
theorem orderL_length (ps : List (Int × Int)) (part : Int) : (orderL ps part).length ≤ ps.length := by
  have := dedF_length (rotR ps part)
  simpa [orderL, rotR] using this
theorem rotR_take (ps : List (Int × Int)) (part : Int) (k : Nat) (hk : k < ps.length) : (rotR ps part).take (k + 1) = (rotR ps part).take k ++ [(ps[(atR ps part + k) % ps.length]!).2] := by
  have hl : k < (rotR ps part).length := by simpa [rotR] using hk
  rw [List.take_succ_eq_append_getElem hl]
  simp [rotR]

set_option maxRecDepth 100000 in
set_option maxHeartbeats 400000 in
theorem place_any (part : Int) (w : World) :
    Calls Tryd.prog 11 #[.int .i64 part] w fun e w' => e = .returned (.int .i64 (placeI part)) ∧ w = w' := by
  have h0 : 0 ≤ part % 16 := by omega
  have h1 : part % 16 ≤ 15 := by omega
  go_enter Tryd.func11, Tryd.ntmps11
  go_wp2_with (go_at_call 29; refine (rest_16 _ _).mono ?_; rintro e w2 ⟨rfl, rfl⟩)
  go_ret
  exact ⟨rfl, rfl⟩

set_option maxRecDepth 100000 in
set_option maxHeartbeats 400000 in
theorem majority_any (n : Int) (r : Int) (hr : Hid (r = max n 0 / 2 + 1)) (hn : n ≤ 9223372036854775807) (w : World) :
    Calls Tryd.prog 20 #[.int .i64 n] w fun e w' => e = .returned (.int .i64 r) ∧ w = w' := by
  obtain ⟨m, hm⟩ := nm (max n 0)
  have h0 : 0 ≤ m := by rw [hm.out]; omega
  have h1 : m ≤ 9223372036854775807 := by rw [hm.out]; omega
  have hmm : max n 0 = m := hm.out.symm
  have HR : Hid (m / 2 + 1 = r) := by show _ = _; rw [hr.out, hm.out]
  clear hm hr
  go_enter Tryd.func20, Tryd.ntmps20
  go_wp2_with fail
  go_ret
  exact ⟨congrArg (fun x => Ending.returned (Value.int .i64 x)) HR.out, rfl⟩

/-- Block p holds the number z. -/
def HasZ (p : Nat) (z : Int) (w : World) : Prop := Blk w p #[.int .i64 z] 3
set_option maxRecDepth 100000 in
set_option maxHeartbeats 400000 in
theorem orderfn_any (p : Nat) (part x y : Int) (w : World) (hw : HasZ p part w) :
    Calls Tryd.prog 32 #[.agg #[.int .i64 x, .int .i64 y], .pointer (some ⟨p, 0, none⟩)] w fun e w' => e = .returned (.bool (decide (placeI part ≤ x))) ∧ Below w.heap.size w w' := by
  have c0 : (w.alloc (.cells #[.int .i64 x, .int .i64 y] 35)).cell? ⟨p, 0, none⟩ = some (.int .i64 part) := (Blk.alloc hw _).cell 0
  have c1 : (w.alloc (.cells #[.int .i64 x, .int .i64 y] 35)).cell? ⟨w.heap.size, 0, none⟩ = some (.int .i64 x) := (Blk.new w _ _).cell 0
  have hB := bOld (w := w) (.cells #[.int .i64 x, .int .i64 y] 35)
  obtain ⟨b, hb⟩ := nm w.heap.size
  obtain ⟨w1, hw1⟩ := nm (w.alloc (.cells #[.int .i64 x, .int .i64 y] 35))
  rw [← hw1.out] at c0 c1
  rw [← hb.out] at c1
  have HB : Hid (Below w.heap.size w w1) := by show Below _ _ _; rw [hw1.out]; exact hB
  obtain ⟨Z, hZ⟩ := nm (placeI part)
  have hq : ∀ n, Calls Tryd.prog 11 #[.int .i64 part] (w1.drewN n) fun e w' => e = .returned (.int .i64 Z) ∧ w' = w1.drewN n := fun n => by
    rw [hZ.out]; exact (place_any part _).mono fun _ _ ⟨a, b⟩ => ⟨a, b.symm⟩
  have HQ := Lib.hid hq
  rw [← hZ.out]
  clear hB hq
  go_enter Tryd.func32, Tryd.ntmps32
  go_wp2_with fail
  rw [← hb.out, ← hw1.out]
  go_quiet ((go_at_call 11; exact Calls.quiet_of_same (HQ.out _)))
  go_wp2_with fail
  go_ret
  exact ⟨rfl, below_drewN HB.out _⟩

theorem infoInt : (Tryd.prog.info? 3).map (fun i => (i.zero, i.size, i.bytes)) = some (some (.int .i64 0), 1, 8) := by kernel_rfl
/-- Numbers that a call owns, as a slice. -/
theorem SlAt.ownI {w : World} {base : Nat} {v : Value} {zs : List Int} (h : w.ownsRow base 3 1 v zs.length (zs.map (Value.int .i64))) :
    ∃ ao cap, v = .slice ao zs.length cap ∧ zs.length ≤ cap ∧ SlAt w ao (zs.map (Value.int .i64)) := by
  rcases h.2 with ⟨rfl, h0⟩ | ⟨g, cap, cur, rfl, _, hg, hc, _, _, ht⟩
  · exact ⟨none, 0, by rw [h0], by omega, fun k hk => by rw [List.length_map, h0] at hk; omega⟩
  · refine ⟨some ⟨g, 0, none⟩, cap, rfl, hc, fun k _ => ⟨g, 0, rfl, lt_of_block hg, fun j hj => ?_⟩⟩
    rw [List.length_map] at hj
    rw [Nat.zero_add, ← ht, List.getElem?_take, if_pos (by omega)]
    simp [World.cell?, hg]

set_option maxRecDepth 100000 in
set_option maxHeartbeats 4000000 in
theorem order_any (ao : Option Addr) (ps : List (Int × Int)) (n cap : Nat) (hn : Hid (ps.length = n)) (hm : n ≤ 1000) (hwf : Hid (∀ p ∈ ps, (Lit.int .i64 p.2).wf = true)) (part : Int) (O : List Int) (K : Nat) (hO : Hid (orderL ps part = O)) (hK : Hid (O.length = K)) (w : World) (hs : SlP w ao ps) :
    Calls Tryd.prog 14 #[.slice ao n cap, .int .i64 part] w fun e w' => ∃ ao' cap', e = .returned (.slice ao' K cap') ∧ K ≤ cap' ∧ SlAt w' ao' (O.map (Value.int .i64)) ∧ Below w.heap.size w w' := by
  have eg : ∀ args w, (callFunc 32 args).run Tryd.prog w = .ok (.enter 32 args) w := enters_of Tryd.func32 (by kernel_rfl) rfl
  have hZ : HasZ w.heap.size part (w.alloc (.cells #[.int .i64 part] 3)) := Blk.new _ _ _
  have hs1 := hs.below (bOld (w := w) (.cells #[.int .i64 part] 3))
  have hidx := index_any ao ps n cap hn (by omega) (fun x => decide (placeI part ≤ x.1)) 32 #[.pointer (some ⟨w.heap.size, 0, none⟩)] (HasZ w.heap.size part) (fun w w' h hb => Blk.below h hb h.lt) eg (fun x y w' h => orderfn_any _ part x y w' h) _ hZ hs1
  have HIX := Lib.hid hidx
  have HS1 := Lib.hid hs1
  have hB0 := Lib.hid (bOld (w := w) (.cells #[.int .i64 part] 3))
  obtain ⟨i0, hi, hz0, hz1, hz2⟩ := info_parts infoInt
  have HSW := Lib.hid hs
  clear eg hZ hs1 hidx hs
  have hmm := @run_makeMap Tryd.prog
  go_enter Tryd.func14, Tryd.ntmps14
  go_wp2_with fail
  go_step3
  go_wp2_with fail
  refine HIX.out.mono ?_; rintro e w1 ⟨⟨j, rfl, hcase⟩, hB⟩
  obtain ⟨a, ha⟩ := nm (atR ps part)
  have haj : Hid (max j 0 = (a : Int)) := by
    show _ = _
    rw [ha.out]
    unfold atR
    rcases hcase with ⟨rfl, h⟩ | ⟨i, rfl, h1, h2, h3⟩
    · rw [firstP_none _ _ h, if_neg (by omega)]; rfl
    · rw [firstP_at _ _ i (by rw [hn.out]; exact h1) h2 h3, if_pos (by rw [hn.out]; exact h1)]; omega
  have han : a ≤ n := by
    rw [ha.out]; unfold atR
    split
    · rw [← hn.out]; exact firstP_le _ _
    · omega
  have hj1 : j ≤ 1000 := by
    rcases hcase with ⟨rfl, h⟩ | ⟨i, rfl, h1, h2, h3⟩ <;> omega
  have hj2 : max j 0 = (a : Int) := haj.out
  have HS2 := Lib.hid (HS1.out.below hB)
  have HB1 := Lib.hid (bNext hB0.out hB)
  have hmap0 : SetB (w1.alloc (.map #[] 0)) w1.heap.size 0 [] (.map []) := ⟨World.ownsMap_made _ _ _ _, ⟨_, rfl⟩, fun x => rfl⟩
  have hB2 := bNew HB1.out (.map #[] 0)
  have HS3 := Lib.hid (HS2.out.below (bOld (w := w1) (.map #[] 0)))
  clear hcase hB HIX
  go_wp2_with fail
  go_step3
  go_wp2_with fail
  obtain ⟨R, hR⟩ := nm (rotR ps part)
  have hRl : Hid (R.length = n) := by show _ = _; rw [hR.out]; simp [rotR, hn.out]
  have hRO : Hid (dedF R = O) := by show _ = _; rw [hR.out]; exact hO.out
  obtain ⟨mb, hmb⟩ := nm w1.heap.size
  obtain ⟨w2, hw2⟩ := nm (w1.alloc (.map #[] 0))
  have hs2 : w2.heap.size = mb + 1 := by rw [hw2.out, hmb.out]; simp
  rw [← hmb.out, ← hw2.out] at hmap0
  rw [← hw2.out] at hB2 HS3
  rw [← hmb.out, ← hw2.out]
  have hmbw : w.heap.size ≤ mb := by rw [hmb.out]; exact HB1.out.size
  clear hw2 hmb hj1 hj2 HS1 HS2 hmm
  go_loopw [7, 18] (fun v i wr => ∃ (k m : Nat) (D : DataW Unit) (L : List Int), k ≤ n ∧ i = .int .i64 (k : Int) ∧ m ≤ k ∧ Hid (L = dedF (R.take k)) ∧ SetB wr mb m L D ∧ wr.ownsRow (mb + 1) 3 1 v L.length (L.map (Value.int .i64)) ∧ Below w.heap.size w wr ∧ mb < wr.heap.size) (fun _ i _ => n - (intOf i).toNat)
  case atStart => exact ⟨0, 0, .map [], [], by omega, rfl, by omega, by show _ = _; rfl, hmap0, ⟨rfl, .inl ⟨rfl, rfl⟩⟩, hB2, by omega⟩
  case round =>
    clear hmap0 hB2 hs2
    obtain ⟨k, m, D, L, hk, rfl, hmk, hL, hset, hown, hB, hmw⟩ := hrel
    have hLk : L.length ≤ k := by rw [hL.out]; exact Nat.le_trans (dedF_length _) (by rw [List.length_take]; omega)
    by_cases hlt : k < n
    · obtain ⟨q, hq⟩ := nm ((a + k) % n)
      have hqn : q < n := by rw [hq.out]; exact Nat.mod_lt _ (by omega)
      have hqi : ((a : Int) + (k : Int)) % (n : Int) = (q : Int) := by rw [hq.out]; simp
      obtain ⟨b, off, u, v, rfl, hbl, c0, c1, hpk⟩ := HSW.out.get q (by rw [hn.out]; exact hqn)
      have d1 : wr.cell? ⟨b, off + q * 2 + 1, none⟩ = some (.int .i64 v) := (hB.cell (p := ⟨b, off + q * 2 + 1, none⟩) hbl).trans c1
      have hwv : (Lit.int .i64 v).wf = true := hwf.out _ (List.mem_of_getElem? hpk.out)
      have hkey : keyOf Tryd.prog 3 (.int .i64 v) = some (.int .i64 v) := keyOf_int_mk Tryd.underlying3 hwv
      have hRt : R.take (k + 1) = R.take k ++ [v] := by
        rw [hR.out, rotR_take ps part k (by rw [hn.out]; exact hlt), ← ha.out, hn.out, ← hq.out]
        rw [getElem!_def, hpk.out]
      have zB := Tryd.zeroValue4
      have hatv := hset.2.2 v
      have hq0 : (0 : Int) ≤ (q : Int) := by omega
      clear c0 c1 hwv
      by_cases hin : v ∈ L
      · have HL : Hid (L = dedF (R.take (k + 1))) := by
          show _ = _
          rw [hRt, dedF_snoc, ← hL.out, if_pos hin]
        have hct : ∀ c : Bool, D.atKey (.int .i64 v) (.lit (.bool false)) = .lit (.bool c) → c = true := by
          intro c h; rw [hatv] at h; simp [hin] at h; exact h
        have HCT := Lib.hid hct
        clear hRt hatv hct
        go_wp2_with (at_lookup; refine lookup_bool _ rfl _ _ 48 rfl 3 4 keyInt Tryd.underlying48 Tryd.underlying4 (zB _) mb m D rfl hset.1 _ (.int .i64 v) rfl hkey ?_; intro c hat; obtain rfl := HCT.out c hat)
        clear hqi
        go_roundw
        case rel => exact ⟨k + 1, m, D, L, by omega, by go_num, by omega, HL, hset, hown, hB, hmw⟩
        case measure => simp [intOf]; omega
      · have HL : Hid (L ++ [v] = dedF (R.take (k + 1))) := by
          show _ = _
          rw [hRt, dedF_snoc, ← hL.out, if_neg hin]
        have hct : ∀ c : Bool, D.atKey (.int .i64 v) (.lit (.bool false)) = .lit (.bool c) → c = false := by
          intro c h; rw [hatv] at h; simp [hin] at h; exact h
        have HCT := Lib.hid hct
        have HSET := Lib.hid hset
        have hsetu := hset.1
        clear hRt hatv hct hset
        go_upto_region 10 with (at_lookup; refine lookup_bool _ rfl _ _ 48 rfl 3 4 keyInt Tryd.underlying48 Tryd.underlying4 (zB _) mb m D rfl hsetu _ (.int .i64 v) rfl hkey ?_; intro c hat; obtain rfl := HCT.out c hat; clear hat)
        go_upto_region 11 with (at_mapUpdate; refine wpList_mapUpdate_own _ rfl _ _ _ 48 rfl 3 4 keyInt Tryd.underlying48 _ mb m D rfl hsetu (by unfold maxLen; omega) _ _ (.int .i64 v) rfl rfl hkey _ [] (plainElem_bool Tryd.underlying4 true) ?_; intro w4 hm4 hg4)
        have hown4 : w4.ownsRow (mb + 1) 3 1 _ L.length (L.map (Value.int .i64)) := hown.kept hg4 (by
          cases hv : Value.ownBlock _ with
          | none => exact .inl rfl
          | some g => right; intro e; have := (hown.lt g hv).1; cases e; omega)
        have hset4 := HSET.out.put hm4 hkey
        have hB4 : Below w.heap.size w w4 := ⟨hg4.os.trans hB.os, hg4.tape.trans hB.tape, hg4.output.trans hB.output, Nat.le_trans hB.size hg4.size, fun kk hkk => (hg4.block kk (Nat.lt_of_lt_of_le hkk hB.size) (by intro e; cases e; omega)).trans (hB.block kk hkk)⟩
        have hmw4 := Nat.lt_of_lt_of_le hmw hg4.size
        clear hown hm4 hg4 hB HSET hsetu
        go_wp2_with (at_builtin; refine wpList_append_lies _ rfl _ _ 22 rfl (mb + 1) 3 i0 (.int .i64 0) 1 8 Tryd.underlying22 hi hz0 hz1 hz2 rfl (by decide) _ L.length _ rfl (hown4.alloc _) ⟨w4.heap.size, 0, none⟩ 1 1 [.int .i64 v] rfl rfl (World.news_of_block (heap_alloc_new w4 _)) (by simp [Value.oneCell']) (by decide) (by unfold maxLen; omega) (by omega) (by simp; omega) _ rfl ?_)
        intro g cap2 w5 hown5 hgrow _ _
        have hset5 : SetB w5 mb (m + 1) (L ++ [v]) _ := ⟨(hset4.1.alloc _).kept hgrow (by
          intro e
          have := (hown4.lt mb e.symm).1
          omega), hset4.2⟩
        have hB5 : Below w.heap.size w w5 := (bNew hB4 _).grown hgrow (by have := hB4.size; simp; omega) (fun kk h => by have := (hown4.lt kk h).1; omega)
        have hown6 : w5.ownsRow (mb + 1) 3 1 (.slice (some ⟨g, 0, none⟩) (L.length + 1) cap2) (L ++ [v]).length ((L ++ [v]).map (Value.int .i64)) := by
          rw [List.length_append, List.map_append]; exact hown5
        have hmw5 : mb < w5.heap.size := Nat.lt_of_lt_of_le (by simp; omega) hgrow.size
        clear hown4 hown5 hgrow hset4 hB4 hqi
        go_wp2_with fail
        go_roundw
        case rel => exact ⟨k + 1, m + 1, _, L ++ [v], by omega, by go_num, by omega, HL, hset5, hown6, hB5, hmw5⟩
        case measure => simp [intOf]; omega
    · obtain rfl : k = n := by omega
      have hLO : L = O := by rw [hL.out, List.take_of_length_le (by rw [hRl.out]; exact Nat.le_refl _)]; exact hRO.out
      subst hLO
      obtain ⟨ao2, cap2, rfl, hc, hsl⟩ := SlAt.ownI hown
      rw [hK.out] at hc ⊢
      have hcc := Lib.hid hc
      clear hc
      go_wp2_with fail
      first | go_ret | (rw [Exit.noGoto_ret]; go_ret)
      exact ⟨ao2, cap2, rfl, hcc.out, hsl, hB⟩
end Go.Proofs.YtmmfbeeeamcooaaDoor
