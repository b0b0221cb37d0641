/- The walks of layer log: does; Add, Sync, Begin. -/
import Derived.Test.YtkglfnjgneofdaaDoorLogA
import Derived.BigRegion
namespace Go.Proofs.YtkglfnjgneofdaaDoor
open Go.RowKit

set_option maxRecDepth 100000 in
set_option maxHeartbeats 1000000 in
theorem does_broken (b db : Nat) (l : Lg) (w : World) (hl : IsLg w b db l) (hbr : l.broken = true) (fd : Nat) (cd : Array Value) :
    Calls Tryd.prog 42 #[.pointer (some ⟨b, 0, none⟩), .func (Fn.func fd) #[] cd] w fun e w' => e = .returned (.int .i64 13) ∧ w = w' := by
  have c0 : w.cell? ⟨b, 0, none⟩ = some (.pointer (some ⟨db, 0, none⟩)) := hl.cell 0
  have c3 : w.cell? ⟨b, 3, none⟩ = some (.bool l.broken) := hl.cell 3
  rw [hbr] at c3
  go_enter Tryd.func42, Tryd.ntmps42
  go_wp2_with fail
  go_ret
  exact ⟨rfl, rfl⟩

set_option maxRecDepth 100000 in
set_option maxHeartbeats 1000000 in
theorem does_fine (b db : Nat) (l l1 : Lg) (w : World) (hl : IsLg w b db l) (hbr : l.broken = false) (fd : Nat) (cd : Array Value) (hed : ∀ args w, (callFunc fd args).run Tryd.prog w = .ok (.enter fd args) w) (x : Int) (P : World → Prop)
    (hf : Calls Tryd.prog fd cd w fun e w' => e = .returned (.int .i64 x) ∧ P w' ∧ IsLg w' b db l1) :
    Calls Tryd.prog 42 #[.pointer (some ⟨b, 0, none⟩), .func (Fn.func fd) #[] cd] w fun e w' => e = .returned (.int .i64 x) ∧ ∃ w1, P w1 ∧ IsLg w1 b db l1 ∧ w' = w1.setCell ⟨b, 3, none⟩ (.bool (x == 14)) := by
  have c0 : w.cell? ⟨b, 0, none⟩ = some (.pointer (some ⟨db, 0, none⟩)) := hl.cell 0
  have c3 : w.cell? ⟨b, 3, none⟩ = some (.bool l.broken) := hl.cell 3
  rw [hbr] at c3
  have HF := Lib.hid hf
  clear hf
  go_enter Tryd.func42, Tryd.ntmps42
  go_wp2_with fail
  refine HF.out.mono ?_; rintro e w1 ⟨rfl, hp, h1⟩
  have f3 : w1.frozen? ⟨b, 3, none⟩ = false := h1.free 3
  have g3 : w1.cell? ⟨b, 3, none⟩ = some (.bool l1.broken) := h1.cell 3
  go_wp2_with fail
  go_ret
  exact ⟨rfl, w1, hp, h1, rfl⟩

/-- What Add does to a log and its disk. -/
def Lg.addP (l : Lg) (d : Dk) (rs : List ByteArray) : Lg × Dk × Int :=
  if framesE rs ≠ 0 then (l, d, framesE rs) else if rs.length = 0 then (l, d, 0) else
  if (d.append (framesB rs)).2 = 0 then (⟨l.n + rs.length, l.size + (framesB rs).size, l.broken⟩, (d.append (framesB rs)).1, 0) else (l, (d.append (framesB rs)).1, (d.append (framesB rs)).2)

theorem framesB_size (rs : List ByteArray) : (framesB rs).size ≤ 8004 * rs.length := by
  unfold framesB
  split
  · rename_i h
    rw [ofL_size]
    have := joinF_le2 (rs.map bl) (fun b hb => by
      obtain ⟨r, hr, rfl⟩ := List.mem_map.1 hb
      rw [bl_length]
      have := List.all_eq_true.1 h r hr
      simpa using this)
    rwa [List.length_map] at this
  · exact Nat.zero_le _

set_option maxRecDepth 100000 in
set_option maxHeartbeats 4000000 in
theorem add1_any (p q b db : Nat) (l : Lg) (d : Dk) (ao : Option Addr) (cap : Nat) (rs : List ByteArray) (w : World) (hl : IsLg w b db l) (hd : IsDk w db d) (hne : b ≠ db)
    (hp : Blk w p #[.slice ao rs.length cap] 24) (hq : Blk w q #[.pointer (some ⟨b, 0, none⟩)] 32) (hpd : p ≠ db) (hqd : q ≠ db) (hlen : rs.length ≤ 1000) (hsz : ∀ r ∈ rs, r.size ≤ 1000000)
    (hf : d.Fit) (hln : 0 ≤ l.n ∧ l.n ≤ 1000000) (hls : 0 ≤ l.size ∧ l.size ≤ 1000000000) (ht : Tab w) (hat : SlAt w ao (rs.map Value.string)) :
    Calls Tryd.prog 43 #[.pointer (some ⟨p, 0, none⟩), .pointer (some ⟨q, 0, none⟩)] w fun e w' =>
      e = .returned (.int .i64 (l.addP d rs).2.2) ∧ (IsDk w' db (l.addP d rs).2.1 ∧ Kept2 b db w w') ∧ IsLg w' b db (l.addP d rs).1 := by
  have cp : w.cell? ⟨p, 0, none⟩ = some (.slice ao rs.length cap) := hp.cell 0
  have cq : w.cell? ⟨q, 0, none⟩ = some (.pointer (some ⟨b, 0, none⟩)) := hq.cell 0
  have hF := frames_any ao cap rs hlen hsz w ht hat
  have hbl := hl.lt
  have hdl := hd.lt
  have hfs := framesB_size rs
  obtain ⟨F, hFF⟩ := nm (framesB rs)
  obtain ⟨E, hEE⟩ := nm (framesE rs)
  obtain ⟨Q, hQ⟩ := nm (l.addP d rs)
  have hq0 := hQ.out
  unfold Lg.addP at hq0
  rw [← hFF.out] at hq0 hfs
  rw [← hEE.out] at hq0
  rw [← hFF.out, ← hEE.out] at hF
  rw [← hQ.out]
  have HF := Lib.hid hF
  clear hF hFF hEE hQ hat ht hsz
  obtain ⟨hs1, hst, hle⟩ := hf
  go_enter Tryd.func43, Tryd.ntmps43
  go_wp2_with fail
  refine HF.out.mono ?_; rintro e w1 ⟨rfl, hB⟩
  have hl1 := Blk.below hl hB hbl
  have hd1 := Blk.below hd hB hdl
  have hp1 := Blk.below hp hB hp.lt
  have hq1 := Blk.below hq hB hq.lt
  have hk1 : Kept2 b db w w1 := Kept2.ofBelow hB
  have cp1 : w1.cell? ⟨p, 0, none⟩ = some (.slice ao rs.length cap) := hp1.cell 0
  have cq1 : w1.cell? ⟨q, 0, none⟩ = some (.pointer (some ⟨b, 0, none⟩)) := hq1.cell 0
  have cb1 : w1.cell? ⟨b, 0, none⟩ = some (.pointer (some ⟨db, 0, none⟩)) := hl1.cell 0
  by_cases hE : E = 0
  rotate_left
  · rw [if_pos hE] at hq0
    have hEb : (E == 0) = false := by simpa using hE
    go_wp2_with fail
    go_ret
    rw [hq0]
    exact ⟨rfl, ⟨hd1, hk1⟩, hl1⟩
  rw [if_neg (by simpa using hE)] at hq0
  subst hE
  by_cases hm0 : rs.length = 0
  · rw [if_pos hm0] at hq0
    go_wp2_with fail
    go_ret
    rw [hq0]
    exact ⟨rfl, ⟨hd1, hk1⟩, hl1⟩
  rw [if_neg hm0] at hq0
  have hmb : ((rs.length : Int) == 0) = false := by rw [beq_eq_false_iff_ne]; omega
  obtain ⟨⟨d2, x⟩, hx⟩ := nm (d.append F)
  rw [← hx.out] at hq0
  simp only at hq0
  go_wp2_with fail
  refine (dappend_any db d F _ hd1 (by omega) (by omega) hle).mono ?_; rintro e w2 ⟨rfl, hd2, hk2⟩
  rw [← hx.out] at hd2 ⊢
  clear hx
  simp only at hd2 ⊢
  have hl2 := hk2.blk hl1 hne
  have hp2 := hk2.blk hp1 hpd
  have hq2 := hk2.blk hq1 hqd
  have hk3 := hk1.trans (hk2.right b)
  by_cases hx : x = 0
  rotate_left
  · rw [if_neg hx] at hq0
    have hxb : (x == 0) = false := by simpa using hx
    go_wp2_with fail
    go_ret
    rw [hq0]
    exact ⟨rfl, ⟨hd2, hk3⟩, hl2⟩
  rw [if_pos hx] at hq0
  subst hx
  have cp2 : w2.cell? ⟨p, 0, none⟩ = some (.slice ao rs.length cap) := hp2.cell 0
  have cq2 : w2.cell? ⟨q, 0, none⟩ = some (.pointer (some ⟨b, 0, none⟩)) := hq2.cell 0
  have cb2 : w2.cell? ⟨b, 1, none⟩ = some (.int .i64 l.n) := hl2.cell 1
  have cb3 : w2.cell? ⟨b, 2, none⟩ = some (.int .i64 l.size) := hl2.cell 2
  have fb2 : w2.frozen? ⟨b, 1, none⟩ = false := hl2.free 1
  have fb3 : w2.frozen? ⟨b, 2, none⟩ = false := hl2.free 2
  clear cp cq cp1 cq1 cb1
  go_wp2_with fail
  go_region
  all_goals
    go_wp2_with fail
    go_ret
    rw [hq0]
    refine ⟨rfl, ⟨(Blk.setOther (Blk.setOther hd2 (Ne.symm hne) _) (Ne.symm hne) _).drew, ?_⟩, ((IsLg.setN (show IsLg w2 b db l from hl2) _).setSize _).drew⟩
    exact (hk3.trans ((((Kept.refl b w2).set 1 _).set 2 _).left db)).drew

/-- What Begin does to a log and its disk. -/
def Lg.beginP (l : Lg) (d : Dk) (rs : List ByteArray) : Lg × Dk × Int :=
  if framesE rs ≠ 0 then (l, d, framesE rs) else
  if (d.swap (framesB rs)).2 = 0 then (⟨rs.length, (framesB rs).size, l.broken⟩, (d.swap (framesB rs)).1, 0) else (l, (d.swap (framesB rs)).1, (d.swap (framesB rs)).2)

set_option maxRecDepth 100000 in
set_option maxHeartbeats 4000000 in
theorem begin1_any (p q b db : Nat) (l : Lg) (d : Dk) (ao : Option Addr) (cap : Nat) (rs : List ByteArray) (w : World) (hl : IsLg w b db l) (hd : IsDk w db d) (hne : b ≠ db)
    (hp : Blk w p #[.slice ao rs.length cap] 24) (hq : Blk w q #[.pointer (some ⟨b, 0, none⟩)] 32) (hpd : p ≠ db) (hqd : q ≠ db) (hlen : rs.length ≤ 1000) (hsz : ∀ r ∈ rs, r.size ≤ 1000000)
    (hf : d.Fit) (ht : Tab w) (hat : SlAt w ao (rs.map Value.string)) :
    Calls Tryd.prog 47 #[.pointer (some ⟨p, 0, none⟩), .pointer (some ⟨q, 0, none⟩)] w fun e w' =>
      e = .returned (.int .i64 (l.beginP d rs).2.2) ∧ (IsDk w' db (l.beginP d rs).2.1 ∧ Kept2 b db w w') ∧ IsLg w' b db (l.beginP d rs).1 := by
  have cp : w.cell? ⟨p, 0, none⟩ = some (.slice ao rs.length cap) := hp.cell 0
  have cq : w.cell? ⟨q, 0, none⟩ = some (.pointer (some ⟨b, 0, none⟩)) := hq.cell 0
  have hF := frames_any ao cap rs hlen hsz w ht hat
  have hbl := hl.lt
  have hdl := hd.lt
  have hfs := framesB_size rs
  obtain ⟨F, hFF⟩ := nm (framesB rs)
  obtain ⟨E, hEE⟩ := nm (framesE rs)
  obtain ⟨Q, hQ⟩ := nm (l.beginP d rs)
  have hq0 := hQ.out
  unfold Lg.beginP at hq0
  rw [← hFF.out] at hq0 hfs
  rw [← hEE.out] at hq0
  rw [← hFF.out, ← hEE.out] at hF
  rw [← hQ.out]
  have HF := Lib.hid hF
  clear hF hFF hEE hQ hat ht hsz
  obtain ⟨hs1, hst, hle⟩ := hf
  go_enter Tryd.func47, Tryd.ntmps47
  go_wp2_with fail
  refine HF.out.mono ?_; rintro e w1 ⟨rfl, hB⟩
  have hl1 := Blk.below hl hB hbl
  have hd1 := Blk.below hd hB hdl
  have hp1 := Blk.below hp hB hp.lt
  have hq1 := Blk.below hq hB hq.lt
  have hk1 : Kept2 b db w w1 := Kept2.ofBelow hB
  have cp1 : w1.cell? ⟨p, 0, none⟩ = some (.slice ao rs.length cap) := hp1.cell 0
  have cq1 : w1.cell? ⟨q, 0, none⟩ = some (.pointer (some ⟨b, 0, none⟩)) := hq1.cell 0
  have cb1 : w1.cell? ⟨b, 0, none⟩ = some (.pointer (some ⟨db, 0, none⟩)) := hl1.cell 0
  by_cases hE : E = 0
  rotate_left
  · rw [if_pos hE] at hq0
    have hEb : (E == 0) = false := by simpa using hE
    go_wp2_with fail
    go_ret
    rw [hq0]
    exact ⟨rfl, ⟨hd1, hk1⟩, hl1⟩
  rw [if_neg (by simpa using hE)] at hq0
  subst hE
  obtain ⟨⟨d2, x⟩, hx⟩ := nm (d.swap F)
  rw [← hx.out] at hq0
  simp only at hq0
  go_wp2_with fail
  refine (dswap_any db d F _ hd1 (by omega) hle).mono ?_; rintro e w2 ⟨rfl, hd2, hk2⟩
  rw [← hx.out] at hd2 ⊢
  clear hx
  simp only at hd2 ⊢
  have hl2 := hk2.blk hl1 hne
  have hp2 := hk2.blk hp1 hpd
  have hq2 := hk2.blk hq1 hqd
  have hk3 := hk1.trans (hk2.right b)
  by_cases hx : x = 0
  rotate_left
  · rw [if_neg hx] at hq0
    have hxb : (x == 0) = false := by simpa using hx
    go_wp2_with fail
    go_ret
    rw [hq0]
    exact ⟨rfl, ⟨hd2, hk3⟩, hl2⟩
  rw [if_pos hx] at hq0
  subst hx
  have cp2 : w2.cell? ⟨p, 0, none⟩ = some (.slice ao rs.length cap) := hp2.cell 0
  have cq2 : w2.cell? ⟨q, 0, none⟩ = some (.pointer (some ⟨b, 0, none⟩)) := hq2.cell 0
  have cb2 : w2.cell? ⟨b, 1, none⟩ = some (.int .i64 l.n) := hl2.cell 1
  have cb3 : w2.cell? ⟨b, 2, none⟩ = some (.int .i64 l.size) := hl2.cell 2
  have fb2 : w2.frozen? ⟨b, 1, none⟩ = false := hl2.free 1
  have fb3 : w2.frozen? ⟨b, 2, none⟩ = false := hl2.free 2
  clear cp cq cp1 cq1 cb1
  go_wp2_with fail
  go_region
  all_goals
    go_wp2_with fail
    go_ret
    rw [hq0]
    refine ⟨rfl, ⟨(Blk.setOther (Blk.setOther hd2 (Ne.symm hne) _) (Ne.symm hne) _).drew, ?_⟩, ((IsLg.setN (show IsLg w2 b db l from hl2) _).setSize _).drew⟩
    exact (hk3.trans ((((Kept.refl b w2).set 1 _).set 2 _).left db)).drew

set_option maxRecDepth 100000 in
set_option maxHeartbeats 1000000 in
theorem sync1_any (q b db : Nat) (l : Lg) (d : Dk) (w : World) (hl : IsLg w b db l) (hd : IsDk w db d) (hne : b ≠ db) (hq : Blk w q #[.pointer (some ⟨b, 0, none⟩)] 32) (hf : d.Fit) :
    Calls Tryd.prog 45 #[.pointer (some ⟨q, 0, none⟩)] w fun e w' => e = .returned (.int .i64 d.sync.2) ∧ (IsDk w' db d.sync.1 ∧ Kept2 b db w w') ∧ IsLg w' b db l := by
  have cq : w.cell? ⟨q, 0, none⟩ = some (.pointer (some ⟨b, 0, none⟩)) := hq.cell 0
  have cb1 : w.cell? ⟨b, 0, none⟩ = some (.pointer (some ⟨db, 0, none⟩)) := hl.cell 0
  obtain ⟨hs1, hst, hle⟩ := hf
  go_enter Tryd.func45, Tryd.ntmps45
  go_wp2_with fail
  refine (dsync_any db d _ hd (by omega) (by omega) hle).mono ?_; rintro e w2 ⟨rfl, hd2, hk2⟩
  go_wp2_with fail
  go_ret
  exact ⟨rfl, ⟨hd2, hk2.right b⟩, hk2.blk hl hne⟩

theorem enters_add1 : ∀ args w, (callFunc 43 args).run Tryd.prog w = .ok (.enter 43 args) w := enters_of Tryd.func43 (by kernel_rfl) rfl
theorem enters_begin1 : ∀ args w, (callFunc 47 args).run Tryd.prog w = .ok (.enter 47 args) w := enters_of Tryd.func47 (by kernel_rfl) rfl
theorem enters_lsync1 : ∀ args w, (callFunc 45 args).run Tryd.prog w = .ok (.enter 45 args) w := enters_of Tryd.func45 (by kernel_rfl) rfl

def Lg.done (l : Lg) (x : Int) : Lg := { l with broken := x == 14 }
def Lg.add (l : Lg) (d : Dk) (rs : List ByteArray) : Lg × Dk × Int := if l.broken then (l, d, 13) else ((l.addP d rs).1.done (l.addP d rs).2.2, (l.addP d rs).2)
def Lg.begin (l : Lg) (d : Dk) (rs : List ByteArray) : Lg × Dk × Int := if l.broken then (l, d, 13) else ((l.beginP d rs).1.done (l.beginP d rs).2.2, (l.beginP d rs).2)
def Lg.sync (l : Lg) (d : Dk) : Lg × Dk × Int := if l.broken then (l, d, 13) else (l.done d.sync.2, d.sync)

theorem boxes {w : World} {b db : Nat} {v : Value} (hdl : db < w.heap.size) (o : Obj) (ho : o = .cells #[v] 24) (o2 : Obj) (ho2 : o2 = .cells #[.pointer (some ⟨b, 0, none⟩)] 32) :
    Blk ((w.alloc o2).alloc o) (w.heap.size + 1) #[v] 24 ∧ Blk ((w.alloc o2).alloc o) w.heap.size #[.pointer (some ⟨b, 0, none⟩)] 32 ∧ w.heap.size + 1 ≠ db ∧ w.heap.size ≠ db ∧ Kept2 b db w ((w.alloc o2).alloc o) := by
  subst ho ho2
  refine ⟨?_, (Blk.new _ _ _).alloc _, by omega, by omega, Kept2.ofBelow (bNew (bOld _) _)⟩
  have := Blk.new (w.alloc (.cells #[.pointer (some ⟨b, 0, none⟩)] 32)) #[v] 24
  simpa using this

set_option maxRecDepth 100000 in
set_option maxHeartbeats 1000000 in
theorem ladd_any (b db : Nat) (l : Lg) (d : Dk) (ao : Option Addr) (cap : Nat) (rs : List ByteArray) (w : World) (hl : IsLg w b db l) (hd : IsDk w db d) (hne : b ≠ db) (hlen : rs.length ≤ 1000) (hsz : ∀ r ∈ rs, r.size ≤ 1000000)
    (hf : d.Fit) (hln : 0 ≤ l.n ∧ l.n ≤ 1000000) (hls : 0 ≤ l.size ∧ l.size ≤ 1000000000) (ht : Tab w) (hat : SlAt w ao (rs.map Value.string)) :
    Calls Tryd.prog 19 #[.pointer (some ⟨b, 0, none⟩), .slice ao rs.length cap] w fun e w' =>
      e = .returned (.int .i64 (l.add d rs).2.2) ∧ IsLg w' b db (l.add d rs).1 ∧ IsDk w' db (l.add d rs).2.1 ∧ Kept2 b db w w' := by
  obtain ⟨b1, b2, n2, n4, hk⟩ := boxes (b := b) (v := .slice ao rs.length cap) hd.lt _ rfl _ rfl
  have hl1 := Blk.alloc (Blk.alloc hl (.cells #[.pointer (some ⟨b, 0, none⟩)] 32)) (.cells #[.slice ao rs.length cap] 24)
  have hd1 := Blk.alloc (Blk.alloc hd (.cells #[.pointer (some ⟨b, 0, none⟩)] 32)) (.cells #[.slice ao rs.length cap] 24)
  have hbr : l.broken = false ∨ l.broken = true := by cases l.broken <;> simp
  rcases hbr with hbr | hbr
  · have hA := add1_any _ _ b db l d ao cap rs _ hl1 hd1 hne b1 b2 n2 n4 hlen hsz hf hln hls ((ht.alloc _).alloc _) ((hat.below (bOld _)).below (bOld _))
    obtain ⟨Q, hQ⟩ := nm (l.addP d rs)
    have hq : l.add d rs = (Q.1.done Q.2.2, Q.2) := by rw [Lg.add, hbr, if_neg (by decide), hQ.out]
    rw [hq]
    rw [← hQ.out] at hA
    have hD := Lib.hid (does_fine b db l Q.1 _ hl1 hbr _ _ enters_add1 _ _ hA)
    clear hA hQ hq
    go_enter Tryd.func19, Tryd.ntmps19
    go_wp2_with fail
    refine hD.out.mono ?_; rintro e w1 ⟨rfl, w2, ⟨h1, h2⟩, h3, rfl⟩
    go_wp2_with fail
    go_ret
    exact ⟨rfl, h3.setBroken _, Blk.setOther h1 (Ne.symm hne) _, hk.trans (h2.trans (((Kept.refl b w2).set 3 _).left db))⟩
  · have hq : l.add d rs = (l, d, 13) := by rw [Lg.add, hbr, if_pos rfl]
    rw [hq]
    clear hq
    go_enter Tryd.func19, Tryd.ntmps19
    go_wp2_with fail
    refine (does_broken b db l _ hl1 hbr _ _).mono ?_; rintro e w1 ⟨rfl, rfl⟩
    go_wp2_with fail
    go_ret
    exact ⟨rfl, hl1, hd1, hk⟩

set_option maxRecDepth 100000 in
set_option maxHeartbeats 1000000 in
theorem lbegin_any (b db : Nat) (l : Lg) (d : Dk) (ao : Option Addr) (cap : Nat) (rs : List ByteArray) (w : World) (hl : IsLg w b db l) (hd : IsDk w db d) (hne : b ≠ db) (hlen : rs.length ≤ 1000) (hsz : ∀ r ∈ rs, r.size ≤ 1000000)
    (hf : d.Fit) (ht : Tab w) (hat : SlAt w ao (rs.map Value.string)) :
    Calls Tryd.prog 25 #[.pointer (some ⟨b, 0, none⟩), .slice ao rs.length cap] w fun e w' =>
      e = .returned (.int .i64 (l.begin d rs).2.2) ∧ IsLg w' b db (l.begin d rs).1 ∧ IsDk w' db (l.begin d rs).2.1 ∧ Kept2 b db w w' := by
  obtain ⟨b1, b2, n2, n4, hk⟩ := boxes (b := b) (v := .slice ao rs.length cap) hd.lt _ rfl _ rfl
  have hl1 := Blk.alloc (Blk.alloc hl (.cells #[.pointer (some ⟨b, 0, none⟩)] 32)) (.cells #[.slice ao rs.length cap] 24)
  have hd1 := Blk.alloc (Blk.alloc hd (.cells #[.pointer (some ⟨b, 0, none⟩)] 32)) (.cells #[.slice ao rs.length cap] 24)
  have hbr : l.broken = false ∨ l.broken = true := by cases l.broken <;> simp
  rcases hbr with hbr | hbr
  · have hA := begin1_any _ _ b db l d ao cap rs _ hl1 hd1 hne b1 b2 n2 n4 hlen hsz hf ((ht.alloc _).alloc _) ((hat.below (bOld _)).below (bOld _))
    obtain ⟨Q, hQ⟩ := nm (l.beginP d rs)
    have hq : l.begin d rs = (Q.1.done Q.2.2, Q.2) := by rw [Lg.begin, hbr, if_neg (by decide), hQ.out]
    rw [hq]
    rw [← hQ.out] at hA
    have hD := Lib.hid (does_fine b db l Q.1 _ hl1 hbr _ _ enters_begin1 _ _ hA)
    clear hA hQ hq
    go_enter Tryd.func25, Tryd.ntmps25
    go_wp2_with fail
    refine hD.out.mono ?_; rintro e w1 ⟨rfl, w2, ⟨h1, h2⟩, h3, rfl⟩
    go_wp2_with fail
    go_ret
    exact ⟨rfl, h3.setBroken _, Blk.setOther h1 (Ne.symm hne) _, hk.trans (h2.trans (((Kept.refl b w2).set 3 _).left db))⟩
  · have hq : l.begin d rs = (l, d, 13) := by rw [Lg.begin, hbr, if_pos rfl]
    rw [hq]
    clear hq
    go_enter Tryd.func25, Tryd.ntmps25
    go_wp2_with fail
    refine (does_broken b db l _ hl1 hbr _ _).mono ?_; rintro e w1 ⟨rfl, rfl⟩
    go_wp2_with fail
    go_ret
    exact ⟨rfl, hl1, hd1, hk⟩

set_option maxRecDepth 100000 in
set_option maxHeartbeats 1000000 in
theorem lsync_any (b db : Nat) (l : Lg) (d : Dk) (w : World) (hl : IsLg w b db l) (hd : IsDk w db d) (hne : b ≠ db) (hf : d.Fit) :
    Calls Tryd.prog 20 #[.pointer (some ⟨b, 0, none⟩)] w fun e w' =>
      e = .returned (.int .i64 (l.sync d).2.2) ∧ IsLg w' b db (l.sync d).1 ∧ IsDk w' db (l.sync d).2.1 ∧ Kept2 b db w w' := by
  have hbl := hl.lt
  have b2 : Blk (w.alloc (.cells #[.pointer (some ⟨b, 0, none⟩)] 32)) w.heap.size #[.pointer (some ⟨b, 0, none⟩)] 32 := Blk.new _ _ _
  have hl1 := Blk.alloc hl (.cells #[.pointer (some ⟨b, 0, none⟩)] 32)
  have hd1 := Blk.alloc hd (.cells #[.pointer (some ⟨b, 0, none⟩)] 32)
  have hk : Kept2 b db w (w.alloc (.cells #[.pointer (some ⟨b, 0, none⟩)] 32)) := Kept2.ofBelow (bOld _)
  have hbr : l.broken = false ∨ l.broken = true := by cases l.broken <;> simp
  rcases hbr with hbr | hbr
  · have hA := sync1_any _ b db l d _ hl1 hd1 hne b2 hf
    obtain ⟨Q, hQ⟩ := nm d.sync
    have hq : l.sync d = (l.done Q.2, Q) := by rw [Lg.sync, hbr, if_neg (by decide), hQ.out]
    rw [hq]
    rw [← hQ.out] at hA
    have hD := Lib.hid (does_fine b db l l _ hl1 hbr _ _ enters_lsync1 _ _ hA)
    clear hA hQ hq
    go_enter Tryd.func20, Tryd.ntmps20
    go_wp2_with fail
    refine hD.out.mono ?_; rintro e w1 ⟨rfl, w2, ⟨h1, h2⟩, h3, rfl⟩
    go_wp2_with fail
    go_ret
    exact ⟨rfl, h3.setBroken _, Blk.setOther h1 (Ne.symm hne) _, hk.trans (h2.trans (((Kept.refl b w2).set 3 _).left db))⟩
  · have hq : l.sync d = (l, d, 13) := by rw [Lg.sync, hbr, if_pos rfl]
    rw [hq]
    clear hq
    go_enter Tryd.func20, Tryd.ntmps20
    go_wp2_with fail
    refine (does_broken b db l _ hl1 hbr _ _).mono ?_; rintro e w1 ⟨rfl, rfl⟩
    go_wp2_with fail
    go_ret
    exact ⟨rfl, hl1, hd1, hk⟩

set_option maxRecDepth 100000 in
theorem llen_any (b db : Nat) (l : Lg) (w : World) (hl : IsLg w b db l) :
    Calls Tryd.prog 21 #[.pointer (some ⟨b, 0, none⟩)] w fun e w' => e = .returned (.int .i64 l.n) ∧ w' = w := by
  have c1 : w.cell? ⟨b, 1, none⟩ = some (.int .i64 l.n) := hl.cell 1
  go_enter Tryd.func21, Tryd.ntmps21
  go_wp2_with fail
  go_ret
  exact ⟨rfl, rfl⟩
set_option maxRecDepth 100000 in
theorem lsize_any (b db : Nat) (l : Lg) (w : World) (hl : IsLg w b db l) :
    Calls Tryd.prog 18 #[.pointer (some ⟨b, 0, none⟩)] w fun e w' => e = .returned (.int .i64 l.size) ∧ w' = w := by
  have c1 : w.cell? ⟨b, 2, none⟩ = some (.int .i64 l.size) := hl.cell 2
  go_enter Tryd.func18, Tryd.ntmps18
  go_wp2_with fail
  go_ret
  exact ⟨rfl, rfl⟩
end Go.Proofs.YtkglfnjgneofdaaDoor
