/- slices.Compact over spots. -/
import Derived.Test.YtpolhdkjkidpgaaPair
import Derived.Test.YtpolhdkjkidpgaaSpotEq
import Derived.BigQuiet
import Derived.Deep.QuietTactic
import Derived.Lib.SliceRun
import Derived.IntWalk
namespace Go.Proofs.Ytpolhdkjkidpgaa
open Go.RowKit Go.Shelf Go.Lib Go.Sort

/-- 'clear(s)' of n > 0 pairs. -/
theorem run_clear_pairs {P : Program} (w : World) (t e ty : TypeId) (ht : P.underlying t = some (.slice e)) (hv : ∀ w, (zeroValue e).run P w = .ok (.agg #[.int .i64 0, .int .i64 0]) w) (b o n c : Nat) (hn : 0 < n)
    (hc : ∀ j, j < n * 2 → (w.cell? ⟨b, o + j, none⟩).isSome = true) (hf : ∀ j, j < n * 2 → w.frozen? ⟨b, o + j, none⟩ = false) :
    (Builtin.clear_ #[t] ty #[.slice (some ⟨b, o, none⟩) n c]).run P w = .ok (.tuple #[]) (w.setCells b o (List.replicate (n * 2) (.int .i64 0))) := by
  have hzc : (Builtin.zeroCells (Value.agg #[.int .i64 0, .int .i64 0]).cells n).toList = List.replicate (n * 2) (Value.int .i64 0) := by
    simp [Builtin.zeroCells, Value.cells]
    apply List.ext_getElem
    · simp
    · intro i h1 h2
      simp
      rcases Nat.mod_two_eq_zero_or_one i with h | h <;> simp [h]
  have hst := run_storeCells_cells (P := P) b o (List.replicate (n * 2) (Value.int .i64 0)) 0 w (by simpa using hc) (by simpa using hf) (by intro v hv'; rw [List.eq_of_mem_replicate hv']; rfl)
  simp only [Nat.add_zero] at hst
  obtain ⟨m, rfl⟩ : ∃ m, n = m + 1 := ⟨n - 1, by omega⟩
  simp [Builtin.clear_, run_underlying ht, hv, hzc, hst]
theorem zeroD : ∀ w, (zeroValue 66).run Try.prog w = .ok (.agg #[.int .i64 0, .int .i64 0]) w := Try.zeroValue66
theorem Kept.setCells {b : Nat} {w v : World} (h : Kept b w v) : ∀ (o : Nat) (vs : List Value), Kept b w (v.setCells b o vs)
  | _, [] => h
  | o, u :: vs => by
    rw [World.setCells]
    exact Kept.setCells (h.set o u) (o + 1) vs
theorem HoldsD.each {w : World} {b : Nat} {d : Array (Int × Int)} (h : HoldsD w b d) (t : Nat) (ht : t < d.size * 2) : (w.cell? ⟨b, t, none⟩).isSome = true ∧ w.frozen? ⟨b, t, none⟩ = false := by
  have := h t (by rw [size_flatK]; exact ht)
  rw [Nat.zero_add] at this
  exact ⟨by rw [this.1]; rfl, this.2⟩
theorem size_setCellsD (b : Nat) : ∀ (vs : List Value) (o : Nat) (w : World), (w.setCells b o vs).heap.size = w.heap.size
  | [], _, _ => rfl
  | u :: vs, o, w => by rw [World.setCells, size_setCellsD b vs]; simp [World.setCell]
theorem SlP.ofHolds {w : World} {b kk : Nat} {dk : Array (Int × Int)} {C : List (Int × Int)} (h : HoldsD w b dk) (hb : b < w.heap.size) (hl : C.length = kk) (hk : kk ≤ dk.size) (hlow : ∀ j, j < kk → C[j]? = some dk[j]!) (vs : List Value) :
    SlP (w.setCells b (kk * 2) vs) (some ⟨b, 0, none⟩) C := by
  intro k _
  refine ⟨b, 0, rfl, by rw [size_setCellsD]; exact hb, fun j p hj => ?_⟩
  have hlt : j < kk := by
    rcases Nat.lt_or_ge j kk with h | h
    · exact h
    · rw [List.getElem?_eq_none (by omega)] at hj; cases hj
  rw [hlow j hlt] at hj
  obtain rfl : dk[j]! = p := by simpa using hj
  obtain ⟨c0, c1, _⟩ := h.at j (by omega)
  rw [Nat.zero_add, World.cell?_setCells_out _ _ _ _ _ (fun _ _ => .inl (by show j * 2 < kk * 2; omega)), World.cell?_setCells_out _ _ _ _ _ (fun _ _ => .inl (by show j * 2 + 1 < kk * 2; omega))]
  exact ⟨c0, c1⟩
set_option maxRecDepth 100000 in
set_option maxHeartbeats 4000000 in
theorem compact_any (b cap : Nat) (d : Array (Int × Int)) (w : World) (hH : HoldsD w b d) (hb : b < w.heap.size) (hcap : d.size ≤ cap) (hm : cap ≤ maxLen) :
    Calls Try.prog 70 #[.slice (some ⟨b, 0, none⟩) d.size cap] w fun e w' => e = .returned (.slice (some ⟨b, 0, none⟩) (compactUpTo d d.size).length cap) ∧
      SlP w' (some ⟨b, 0, none⟩) (compactUpTo d d.size) ∧ Kept b w w' := by
  unfold maxLen at hm
  obtain ⟨n, hn⟩ := nm d.size
  rw [← hn.out] at hcap ⊢
  have HH := Lib.hid hH
  clear hH
  obtain ⟨C, hC⟩ := nm (compactUpTo d n)
  rw [← hC.out]
  go_enter Try.func70, Try.ntmps70
  by_cases h2 : n < 2
  · go_wp2_with fail
    go_ret
    have e : C = d.toList := by rw [hC.out, hn.out, compactUpTo_all d _ (fun j hj => keeps_lt_one d j (by rw [← hn.out] at hj; omega)), range_map_get]
    rw [e]
    exact ⟨by rw [Array.length_toList, ← hn.out]; rfl, HH.out.sl hb, Kept.refl _ _⟩
  · go_wp2_with fail
    go_loopw [3] (fun s3 wr => ∃ k q : Nat, 1 ≤ k ∧ k ≤ n ∧ s3 = .int .i64 (k : Int) ∧ wr = w.drewN q ∧ Hid (∀ j, j < k → keeps d j = true)) (fun s3 _ => n - (intOf s3).toNat)
    case atStart => exact ⟨1, 0, Nat.le_refl _, by omega, rfl, rfl, Lib.hid (keeps_lt_one d)⟩
    case round =>
      obtain ⟨k, q, hk1, hk, rfl, rfl, hall⟩ := hrel
      by_cases hlt : k < n
      · obtain ⟨c1, c2, _, _⟩ := HoldsD.at HH.out k (by rw [← hn.out]; exact hlt)
        obtain ⟨c3, c4, _, _⟩ := HoldsD.at HH.out (k - 1) (by rw [← hn.out]; omega)
        obtain ⟨⟨x1, x2⟩, hx⟩ := nm d[k]!
        obtain ⟨⟨y1, y2⟩, hy⟩ := nm d[k - 1]!
        rw [← hx.out] at c1 c2
        rw [← hy.out] at c3 c4
        simp only at c1 c2 c3 c4
        have hw1 : IntKind.i64.wrap ((k : Int) - 1) = ((k - 1 : Nat) : Int) := by rw [IntWalk.i64_in _ (by omega)]; omega
        have hw2 : k - 1 < n := by omega
        have hgd := fun (a b : Operand) (w : World) => guardD .eql a b #[.int .i64 x1, .int .i64 x2] #[.int .i64 y1, .int .i64 y2] w
        by_cases hxy : decide ((x1, x2) = (y1, y2)) = true
        · have heq := fun w => eqlD x1 x2 y1 y2 true hxy w
          go_wp2_with fail
          go_quiet (fail)
          clear heq hgd hw1
          have hdup : keeps d k = false := keeps_neg (by omega) (by rw [← hx.out, ← hy.out]; simpa using hxy)
          have HI := Lib.hid (CompInv.start hall.out hdup)
          clear hdup hxy c1 c2 c3 c4
          go_wp2_with fail
          go_loopw [3, 5] (fun s3 s5 wr => ∃ (kk k2 : Nat) (dk : Array (Int × Int)), s3 = .int .i64 (kk : Int) ∧ s5 = .int .i64 (k2 : Int) ∧ 1 ≤ k2 ∧ k + k2 ≤ n ∧ kk < k + k2 ∧ HoldsD wr b dk ∧ Kept b w wr ∧ Hid (CompInv d (k + k2) kk dk)) (fun _ s5 _ => n - (k + (intOf s5).toNat))
          case atStart => exact ⟨k, 1, d, rfl, rfl, by omega, by omega, by omega, HH.out, (Kept.refl b w).drewN _, HI⟩
          case round =>
            obtain ⟨kk, k2, dk, rfl, rfl, h1, hle, hkk, hHk, hK, hI⟩ := hrel
            by_cases hlt2 : k + k2 < n
            · have hds := hI.out.size
              have hhi := hI.out.high
              obtain ⟨c1, c2, _, _⟩ := hHk.at (k + k2) (by rw [hds, ← hn.out]; exact hlt2)
              obtain ⟨c3, c4, _, _⟩ := hHk.at (k + k2 - 1) (by rw [hds, ← hn.out]; omega)
              obtain ⟨c5, c6, f5, f6⟩ := hHk.at kk (by rw [hds, ← hn.out]; omega)
              rw [hhi (k + k2) (by omega)] at c1 c2
              rw [hhi (k + k2 - 1) (by omega)] at c3 c4
              rw [show (k + k2) * 2 = k * 2 + k2 * 2 from by omega] at c1 c2
              rw [show (k + k2 - 1) * 2 = k * 2 + (k2 - 1) * 2 from by omega] at c3 c4
              obtain ⟨⟨u1, u2⟩, hu⟩ := nm d[k + k2]!
              obtain ⟨⟨v1, v2⟩, hv⟩ := nm d[k + k2 - 1]!
              rw [← hu.out] at c1 c2
              rw [← hv.out] at c3 c4
              simp only at c1 c2 c3 c4
              clear hds hhi
              have hw1 : IntKind.i64.wrap ((k2 : Int) - 1) = ((k2 - 1 : Nat) : Int) := by rw [IntWalk.i64_in _ (by omega)]; omega
              have hw2 : k2 - 1 < n - k := by omega
              have hw3 : k2 < n - k := by omega
              have hgd := fun (a b : Operand) (w : World) => guardD .neq a b #[.int .i64 u1, .int .i64 u2] #[.int .i64 v1, .int .i64 v2] w
              by_cases huv : decide ((u1, u2) = (v1, v2)) = true
              · have heq := fun w => neqD u1 u2 v1 v2 true huv w
                go_wp2_with fail
                go_quiet (fail)
                clear heq hgd hw1
                have HI := Lib.hid (hI.out.skip (keeps_neg (by omega) (by rw [← hu.out, ← hv.out]; simpa using huv)))
                go_wp2_with fail
                go_roundw
                case rel => exact ⟨kk, k2 + 1, dk, rfl, by go_num, by omega, by omega, by omega, hHk, hK.drewN _, HI⟩
                case measure => simp [intOf]; omega
              · have huv' : decide ((u1, u2) = (v1, v2)) = false := by simpa using huv
                have heq := fun w => neqD u1 u2 v1 v2 false huv' w
                go_wp2_with fail
                go_quiet (fail)
                clear heq hgd hw1
                have hds := hI.out.size
                have HI := hI.out.keep (by rw [← hn.out]; exact hlt2) (keeps_pos (by rw [← hu.out, ← hv.out]; simpa using huv))
                rw [← hu.out] at HI
                have HI := Lib.hid HI
                have hH2 := (show HoldsD (wr.drewN nq) b dk from hHk).set kk (by rw [hds, ← hn.out]; omega) (u1, u2)
                clear hds huv huv' c3 c4
                go_wp2_with fail
                go_roundw
                case rel => exact ⟨kk + 1, k2 + 1, _, by go_num, by go_num, by omega, by omega, by omega, hH2, ((hK.drewN _).set _ _).set _ _, HI⟩
                case measure => simp [intOf]; omega
            · have hnk : k + k2 = n := by omega
              have hI2 := hI.out
              rw [hnk] at hI2
              have hkn : kk < n := by omega
              have hbw : b < wr.heap.size := Nat.lt_of_lt_of_le hb hK.size
              have hcl := fun ty => run_clear_pairs wr 46 66 ty Try.underlying46 zeroD b (kk * 2) (n - kk) (cap - kk) (by omega)
                (fun j hj => (hHk.each (kk * 2 + j) (by rw [hI2.size, ← hn.out]; omega)).1) (fun j hj => (hHk.each (kk * 2 + j) (by rw [hI2.size, ← hn.out]; omega)).2)
              have hlen : C.length = kk := by rw [hC.out]; exact hI2.len
              have hsl := SlP.ofHolds hHk hbw hlen (by rw [hI2.size, ← hn.out]; omega) (fun j hj => by rw [hC.out]; exact hI2.low j hj) (List.replicate ((n - kk) * 2) (Value.int .i64 0))
              have hK2 := hK.setCells (kk * 2) (List.replicate ((n - kk) * 2) (Value.int .i64 0))
              clear hI2 hnk hI
              generalize List.replicate ((n - kk) * 2) (Value.int IntKind.i64 0) = zs at hcl hsl hK2
              have HL := Lib.hid hlen
              clear hlen
              go_wp2_with fail
              go_ret
              rw [HL.out]
              exact ⟨rfl, hsl, hK2⟩
        · have hxy' : decide ((x1, x2) = (y1, y2)) = false := by simpa using hxy
          have heq := fun w => eqlD x1 x2 y1 y2 false hxy' w
          go_wp2_with fail
          go_quiet (fail)
          clear heq hgd hw1
          go_wp2_with fail
          go_roundw
          case rel =>
            refine ⟨k + 1, q + nq, by omega, by omega, by go_num, rfl, ?_⟩
            show ∀ j, _
            intro j hj
            by_cases e : j = k
            · subst e
              exact keeps_pos (by rw [← hx.out, ← hy.out]; simpa using hxy)
            · exact hall.out j (by omega)
          case measure => simp [intOf]; omega
      · obtain rfl : k = n := by omega
        go_wp2_with fail
        go_ret
        have e : C = d.toList := by rw [hC.out, hn.out, compactUpTo_all d _ (fun j hj => hall.out j (by rw [← hn.out] at hj; exact hj)), range_map_get]
        rw [e]
        exact ⟨by rw [Array.length_toList, ← hn.out]; rfl, HH.out.sl hb, (Kept.refl _ _).drewN _⟩
end Go.Proofs.Ytpolhdkjkidpgaa
