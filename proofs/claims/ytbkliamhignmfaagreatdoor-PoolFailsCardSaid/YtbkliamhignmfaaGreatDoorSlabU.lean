/- Layer 4: Take, a new page. -/
import Derived.Test.YtbkliamhignmfaaGreatDoorProg
import Derived.Test.YtbkliamhignmfaaGreatDoorSlabT
namespace Go.Proofs.YtbkliamhignmfaaGreatDoor
open Go.RowKit


set_option maxRecDepth 100000 in
set_option maxHeartbeats 2000000 in
theorem slab_Take_none (c pb um : Nat) (v : Value) (bp bq bp' bq' : Nat → Nat) (s : SS) (bs : BS) (w : World) (h : CT w c pb v bp bq s) (hb : BT w pb um bp' bq' bs) (hg : Glob w)
    (hf : ∀ j (hj : j < s.l.length), firstFrom s.l[j].bits false 0 = -1) (hn : bs.take = none) :
    Calls Tryz.prog 39 #[.pointer (some ⟨c, 0, none⟩)] w fun e w' =>
      e = .returned (.tuple #[.int .i64 0, .int .i64 4]) ∧ Kept NoB w w' := by
  obtain ⟨ad, cap, hv, hp⟩ := h.form
  have h0w : Hid (∀ w', Kept NoB w w' → w'.cell? ⟨c, 0, none⟩ = some (.pointer (some ⟨pb, 0, none⟩))) := fun w' k => (h.hc.kept k (fun e => e)).cell 0
  have h2 := h.hc.cell 2
  rw [hv] at h2
  have hlen := h.ok.len
  have H : Hid (CT w c pb v bp bq s) := h
  have HB : Hid (BT w pb um bp' bq' bs) := hb
  have HP := Lib.hid hp
  have HG := Lib.hid hg
  have HFF := Lib.hid hf
  have HN := Lib.hid hn
  obtain ⟨L, hL⟩ : ∃ L, L = s.l.length := ⟨_, rfl⟩
  rw [← hL] at h2 hlen
  have HL := Lib.hid hL
  clear h hp hg hf hv hL hb hn
  go_enter Tryz.func39, Tryz.ntmps39
  go_wp2
  go_loopw [5, 6, 19] (fun _ _ x wr => ∃ j : Nat, j ≤ L ∧ x = .int .i64 j ∧ Kept NoB w wr) (fun _ _ x _ => L - (intOf x).toNat)
  case atStart => exact ⟨0, Nat.zero_le _, rfl, Kept.refl _ _⟩
  case round =>
    obtain ⟨j, hjk, rfl, hK⟩ := hrel
    by_cases hjL : j < L
    · have hjl : j < s.l.length := by have := HL.out; omega
      obtain ⟨g, e1, e2, c1, c2⟩ := (HP.out.keptNo hK) j hjl
      subst e1
      have hbm := (H.out.keptNo hK).pg _ (List.getElem_mem hjl)
      have hglr := HG.out.keptNo hK
      have hfr := HFF.out j hjl
      obtain ⟨P0, hP0⟩ : ∃ P0, P0 = bp s.l[j].at_ := ⟨_, rfl⟩
      obtain ⟨Q0, hQ0⟩ : ∃ Q0, Q0 = bq s.l[j].at_ := ⟨_, rfl⟩
      obtain ⟨B0, hB0⟩ : ∃ B0, B0 = s.l[j].bits := ⟨_, rfl⟩
      obtain ⟨A0, hA0⟩ : ∃ A0, A0 = s.l[j].at_ := ⟨_, rfl⟩
      rw [← hP0] at c1
      rw [← hA0] at c2
      rw [← hP0, ← hQ0, ← hB0] at hbm
      rw [← hB0] at hfr
      have HBM := Lib.hid hbm
      have HGL := Lib.hid hglr
      have HFR := Lib.hid hfr
      clear hfr hbm hglr hP0 hQ0 hB0 hA0 e2
      go_wp2_with (go_at_call 57; refine (bitmap_First P0 Q0 B0 false 0 _ (HBM.out.alloc _) (HGL.out.kept (Kept.alloc (Kept.refl NoB _) _) (fun _ e => e.elim)) (by omega)).mono ?_; rw [HFR.out]; rintro e w' ⟨rfl, rfl⟩)
      go_roundw
      case rel => exact ⟨j + 1, by omega, by go_num, Kept.alloc hK _⟩
      case measure => simp [intOf]; omega
    · have h0 := h0w.out _ hK
      have HTB : Hid (Calls Tryz.prog 67 #[.pointer (some ⟨pb, 0, none⟩), .int .i64 0] wr fun e w' => e = .returned (.tuple #[.int .i64 0, .int .i64 4]) ∧ wr = w') := by
        refine (buddy_Take pb um bp' bq' bs _ (HB.out.keptNo hK) (HG.out.keptNo hK)).mono ?_
        rintro e w' (⟨_, h1, h2⟩ | ⟨i, s', hs', _⟩)
        · exact ⟨h1, h2⟩
        · rw [HN.out] at hs'; cases hs'
      go_wp2_with (go_at_call 67; refine HTB.out.mono ?_; rintro e w' ⟨rfl, rfl⟩)
      go_ret2
      exact ⟨rfl, hK⟩

theorem new_Set (c pb : Nat) (v : Value) (bp bq : Nat → Nat) (s : SS) (p0 q0 M P : Nat) (F : Nat → Prop) (wr w1 w2 : World) (hc : CT w1 c pb v bp bq s) (hk1 : Kept F wr w1) (hb2 : BM w2 p0 q0 (List.replicate M false)) (hk2 : Kept NoB w1 w2) (hq2 : w1.heap.size ≤ q0) :
    Calls Tryz.prog 65 #[.pointer (some ⟨p0, 0, none⟩), .bool true, .slice (some ⟨w2.heap.size + 1, 0, none⟩) 1 1]
      ((w2.alloc (.cells #[.pointer (some ⟨p0, 0, none⟩), .int .i64 (P : Nat)] TPg)).alloc (.cells #[.int .i64 0] 3)) fun e w4 =>
        e = .returned (.int .i64 (one (turns (List.replicate M false) true 0))) ∧ w4.cell? ⟨w2.heap.size, 0, none⟩ = some (.pointer (some ⟨p0, 0, none⟩)) ∧ w4.cell? ⟨w2.heap.size, 1, none⟩ = some (.int .i64 (P : Nat)) ∧
        Hid (Blk w4 w2.heap.size [.pointer (some ⟨p0, 0, none⟩), .int .i64 (P : Nat)] TPg) ∧ Hid (CT w4 c pb v bp bq s) ∧ Hid (BM w4 p0 q0 (setI (List.replicate M false) true 0)) ∧ Hid (Kept NoB w1 w4) := by
  have hq0 := hb2.hq.lt
  have s1 := hk1.size
  refine (bitmap_Set p0 q0 (w2.heap.size + 1) _ true 0 _ ((hb2.alloc _).alloc _) (by simp)).mono ?_
  rintro e w4 ⟨rfl, hb4, hk4⟩
  have hp4 : Blk w4 w2.heap.size [.pointer (some ⟨p0, 0, none⟩), .int .i64 (P : Nat)] TPg := ((Blk.new w2 [.pointer (some ⟨p0, 0, none⟩), .int .i64 (P : Nat)] TPg).alloc _).kept hk4 (by show ¬ w2.heap.size = q0; omega)
  have k2 : Kept NoB w1 ((w2.alloc (.cells #[.pointer (some ⟨p0, 0, none⟩), .int .i64 (P : Nat)] TPg)).alloc (.cells #[.int .i64 0] 3)) := (hk2.alloc _).alloc _
  have k4 : Kept NoB w1 w4 := k2.trans' hk4 (fun _ _ e => e) (fun x hx e => by exfalso; have e2 : x = q0 := e; omega)
  exact ⟨rfl, hp4.cell 0, hp4.cell 1, hp4, hc.keptNo k4, hb4, k4⟩

theorem new_Insert (c pb : Nat) (v : Value) (bp bq : Nat → Nat) (s : SS) (P p0 b9 vb : Nat) (w5 W : World) (hc : CT w5 c pb v bp bq s) (hx : Blk w5 b9 [.pointer (some ⟨p0, 0, none⟩), .int .i64 (P : Nat)] TPg) (hne : v.ownBlock ≠ some b9)
    (hb : Blk W vb [.pointer (some ⟨p0, 0, none⟩), .int .i64 (P : Nat)] TPg) (k : Kept NoB w5 W) (hvb : w5.heap.size ≤ vb) :
    Calls Tryz.prog 70 #[v, .int .i64 (lowI s.l P : Nat), .slice (some ⟨vb, 0, none⟩) 1 1] W fun e w6 =>
      ∃ g c', e = .returned (.slice (some ⟨g, 0, none⟩) (s.l.length + 1) c') ∧ w6.cell? ⟨c, 2, none⟩ = some v ∧ w6.frozen? ⟨c, 2, none⟩ = false ∧
        w6.cell? ⟨b9, 0, none⟩ = some (.pointer (some ⟨p0, 0, none⟩)) ∧ w6.cell? ⟨b9, 1, none⟩ = some (.int .i64 (P : Nat)) ∧ c ≠ b9 ∧
        Hid (w6.ownsRow 0 TPg 2 (.slice (some ⟨g, 0, none⟩) (s.l.length + 1) c') (s.l.length + 1) ((pcells bp s.l).take (lowI s.l P * 2) ++ [.pointer (some ⟨p0, 0, none⟩), .int .i64 (P : Nat)] ++ (pcells bp s.l).drop (lowI s.l P * 2))) ∧
        Hid (Kept (fun x => some x = v.ownBlock) w5 w6) ∧ Hid (v.ownBlock = some g ∨ w5.heap.size ≤ g) ∧ Hid (Blk w6 c [.pointer (some ⟨pb, 0, none⟩), .int .i64 (s.size : Nat), v] TCa) := by
  obtain ⟨ad, cap, hv, _⟩ := hc.form
  have hcW := hc.keptNo k
  have hov : ∀ b, v.ownBlock = some b → b < w5.heap.size := fun b hb => by obtain ⟨cs, h⟩ := ownsRow_blk hc.row hb; exact h.lt
  refine (pages_Insert v ad s.l.length cap (lowI s.l P) vb (pcells bp s.l) _ W hv (Nat.le_trans hc.ok.len (by omega)) (lowI_le _ _) hcW.row hb rfl (fun e => by have := hov _ e; omega) (by intro u hu; simp at hu; rcases hu with rfl | rfl <;> rfl) (pcells_one _ _)).mono ?_
  rintro e w6 ⟨g, c', rfl, hrow, hk, hat⟩
  have hcb : ¬ (some c = v.ownBlock) := fun e => by
    obtain ⟨cs, h⟩ := ownsRow_blk hc.row e.symm
    exact hc.hc.ne h (by decide) rfl
  have hc6 := hcW.hc.kept hk hcb
  have hx6 := (hx.kept k (fun e => e)).kept hk (fun e => hne e.symm)
  refine ⟨g, c', rfl, hc6.cell 2, hc6.frozen 2, hx6.cell 0, hx6.cell 1, hc.hc.ne hx (by decide), hrow, k.trans' hk (fun _ _ e => e.elim) (fun _ _ e => e), ?_, hc6⟩
  rcases hat with h | h
  · exact .inl h
  · exact .inr (Nat.le_trans k.size h)

def insPg (l : List Pg) (P : Nat) (bits : List Bool) : List Pg := l.take (lowI l P) ++ [⟨P, bits⟩] ++ l.drop (lowI l P)
theorem mem_insPg {l : List Pg} {P : Nat} {bits : List Bool} {p : Pg} : p ∈ insPg l P bits ↔ p ∈ l ∨ p = ⟨P, bits⟩ := by
  unfold insPg
  have : p ∈ l ↔ p ∈ l.take (lowI l P) ∨ p ∈ l.drop (lowI l P) := by
    rw [← List.mem_append, List.take_append_drop]
  rw [this]
  simp only [List.mem_append, List.mem_singleton]
  constructor
  · rintro ((h | h) | h)
    · exact .inl (.inl h)
    · exact .inr h
    · exact .inl (.inr h)
  · rintro ((h | h) | h)
    · exact .inl (.inl h)
    · exact .inr h
    · exact .inl (.inr h)
theorem length_insPg (l : List Pg) (P : Nat) (bits : List Bool) : (insPg l P bits).length = l.length + 1 := by
  unfold insPg
  have := lowI_le l P
  simp only [List.length_append, List.length_take, List.length_drop, List.length_singleton]
  omega
theorem takeWhile_all {α : Type} (f : α → Bool) (l : List α) : ∀ x ∈ l.takeWhile f, f x = true := by
  induction l with
  | nil => simp
  | cons a t ih =>
    rw [List.takeWhile_cons]
    split
    · intro x hx
      rcases List.mem_cons.1 hx with rfl | hx
      · assumption
      · exact ih x hx
    · simp
theorem lowI_take (l : List Pg) (a : Int) : l.take (lowI l a) = l.takeWhile fun p => decide ((p.at_ : Int) < a) := by
  exact (List.prefix_iff_eq_take.1 (List.takeWhile_prefix _)).symm
theorem lowI_drop {l : List Pg} (hr : rising l) (a : Int) : ∀ p ∈ l.drop (lowI l a), a ≤ p.at_ := by
  induction l with
  | nil => simp
  | cons q t ih =>
    have hr' : rising t := (List.pairwise_cons.1 hr).2
    unfold lowI
    by_cases h : (q.at_ : Int) < a
    · rw [List.takeWhile_cons_of_pos (by simpa using h), List.length_cons, List.drop_succ_cons]
      exact ih hr'
    · rw [List.takeWhile_cons_of_neg (by simpa using h)]
      intro p hp
      simp only [List.length_nil, List.drop_zero] at hp
      rcases List.mem_cons.1 hp with rfl | hp
      · omega
      · have := (List.pairwise_cons.1 hr).1 p hp
        omega
theorem rising_insPg {l : List Pg} (hr : rising l) (P : Nat) (bits : List Bool) (hf : ∀ p ∈ l, p.at_ ≠ P) : rising (insPg l P bits) := by
  have hlo : ∀ p ∈ l.take (lowI l P), p.at_ < P := fun p hp => by
    rw [lowI_take] at hp
    have := takeWhile_all _ _ p hp
    simp at this; omega
  have hhi : ∀ p ∈ l.drop (lowI l P), P < p.at_ := fun p hp => by
    have := lowI_drop hr P p hp
    have := hf p (List.mem_of_mem_drop hp)
    omega
  have hr2 : (l.take (lowI l P) ++ l.drop (lowI l P)).Pairwise fun p q => p.at_ < q.at_ := by rw [List.take_append_drop]; exact hr
  have h3 := List.pairwise_append.1 hr2
  unfold insPg rising
  rw [List.append_assoc]
  refine List.pairwise_append.2 ⟨h3.1, ?_, ?_⟩
  · rw [List.singleton_append]
    exact List.pairwise_cons.2 ⟨fun p hp => hhi p hp, h3.2.1⟩
  · intro p hp q hq
    rcases List.mem_append.1 hq with hq | hq
    · rw [List.mem_singleton.1 hq]; exact hlo p hp
    · exact h3.2.2 p hp q hq

theorem pcells_ins (bp : Nat → Nat) (l : List Pg) (P : Nat) (bits : List Bool) (p0 : Nat) (hf : ∀ p ∈ l, p.at_ ≠ P) :
    pcells (fun a => if a = P then p0 else bp a) (insPg l P bits) = (pcells bp l).take (lowI l P * 2) ++ [.pointer (some ⟨p0, 0, none⟩), .int .i64 (P : Nat)] ++ (pcells bp l).drop (lowI l P * 2) := by
  unfold insPg
  rw [pcells_append, pcells_append, pcells_take, pcells_drop]
  have e : ∀ m : List Pg, (∀ p ∈ m, p ∈ l) → pcells (fun a => if a = P then p0 else bp a) m = pcells bp m := fun m hm => pcells_congr (fun p hp => if_neg (hf p (hm p hp)))
  rw [e _ (fun p hp => List.mem_of_mem_take hp), e _ (fun p hp => List.mem_of_mem_drop hp)]
  have : pcells (fun a => if a = P then p0 else bp a) [⟨P, bits⟩] = [.pointer (some ⟨p0, 0, none⟩), .int .i64 (P : Nat)] := by
    simp [pcells, pcell]
  rw [this]

/-- What stands behind the new page's insertion. -/
theorem new_End (c pb : Nat) (v : Value) (bp bq : Nat → Nat) (s : SS) (P p0 q0 g c' base : Nat) (bits : List Bool) (w4 w5 w6 w8 : World) (hm : bits.length = 960 / s.size) (hPa : P % 1024 = 0) (hPl : P < 1073741824) (hf : ∀ p ∈ s.l, p.at_ ≠ P)
    (hc5 : CT w5 c pb v bp bq s) (hb4 : BM w4 p0 q0 bits) (hk5 : Kept NoB w4 w5) (hbase : ∀ b, CF c v bp bq s b → b < base) (hp0 : base ≤ p0) (hq0 : base ≤ q0)
    (hr6 : w6.ownsRow 0 TPg 2 (.slice (some ⟨g, 0, none⟩) (s.l.length + 1) c') (s.l.length + 1) ((pcells bp s.l).take (lowI s.l P * 2) ++ [.pointer (some ⟨p0, 0, none⟩), .int .i64 (P : Nat)] ++ (pcells bp s.l).drop (lowI s.l P * 2)))
    (hk6 : Kept (fun x => some x = v.ownBlock) w5 w6) (ha6 : v.ownBlock = some g ∨ w5.heap.size ≤ g) (hbw : base ≤ w5.heap.size) (hc6 : Blk w6 c [.pointer (some ⟨pb, 0, none⟩), .int .i64 (s.size : Nat), v] TCa)
    (hk8 : Kept NoB (w6.setCell ⟨c, 2, none⟩ (.slice (some ⟨g, 0, none⟩) (s.l.length + 1) c')) w8) :
    CT w8 c pb (.slice (some ⟨g, 0, none⟩) (s.l.length + 1) c') (fun a => if a = P then p0 else bp a) (fun a => if a = P then q0 else bq a) { s with l := insPg s.l P bits } ∧
    (∀ b, CF c (.slice (some ⟨g, 0, none⟩) (s.l.length + 1) c') (fun a => if a = P then p0 else bp a) (fun a => if a = P then q0 else bq a) { s with l := insPg s.l P bits } b → CF c v bp bq s b ∨ base ≤ b) ∧
    Kept (fun x => x = c ∨ some x = v.ownBlock) w5 w8 := by
  have hcv : v.ownBlock ≠ some c := fun e => by obtain ⟨cs, h⟩ := ownsRow_blk hc5.row e; exact hc5.hc.ne h (by decide) rfl
  have hgc : g ≠ c := fun e => by
    obtain ⟨cs, h⟩ := ownsRow_blk hr6 (b := g) rfl
    rw [e] at h; exact hc6.ne h (by decide) rfl
  have hk58 : Kept (fun x => x = c ∨ some x = v.ownBlock) w5 w8 := ((hk6.mono (fun _ h => .inr h)).setCell ⟨c, 2, none⟩ _ (.inl (.inl rfl))).trans' hk8 (fun _ _ h => h) (fun _ _ h => h.elim)
  have hk68 : Kept (fun x => x = c) w6 w8 := (Kept.setCell (F := fun x => x = c) (Kept.refl _ _) ⟨c, 2, none⟩ _ (.inl rfl)).trans' hk8 (fun _ _ h => h) (fun _ _ h => h.elim)
  have hnb : ∀ b, base ≤ b → ¬ (b = c ∨ some b = v.ownBlock) := fun b hb e => by
    rcases e with rfl | e
    · have := hbase _ (.inl rfl); omega
    · have := hbase b (.inr (.inl e.symm)); omega
  have hb8 : BM w8 p0 q0 bits := (hb4.kept hk5 (fun e => e) (fun e => e)).kept hk58 (hnb _ hp0) (hnb _ hq0)
  refine ⟨⟨?_, ?_, ?_, ?_, ?_⟩, ?_, hk58⟩
  · exact (hc6.setCell 2 _).kept hk8 (fun e => e)
  · have := ownsRow_kept hr6 hk68 (fun b hb e => by injection hb with hb; exact hgc (hb.trans e))
    have e2 := pcells_ins bp s.l P bits p0 hf
    show w8.ownsRow 0 TPg 2 _ (insPg s.l P bits).length (pcells _ (insPg s.l P bits))
    rw [length_insPg, e2]; exact this
  · intro p hp
    rcases mem_insPg.1 hp with hp | rfl
    · show BM w8 (if p.at_ = P then p0 else bp p.at_) (if p.at_ = P then q0 else bq p.at_) p.bits
      rw [if_neg (hf p hp), if_neg (hf p hp)]
      have hpg := hc5.pg p hp
      refine hpg.kept hk58 ?_ ?_
      · rintro (e | e)
        · exact hc5.hc.ne hpg.hp (by decide) e.symm
        · obtain ⟨cs, h⟩ := ownsRow_blk hc5.row e.symm
          exact h.ne hpg.hp (by decide) rfl
      · rintro (e | e)
        · exact hc5.hc.ne hpg.hq (by decide) e.symm
        · obtain ⟨cs, h⟩ := ownsRow_blk hc5.row e.symm
          exact h.ne hpg.hq (by decide) rfl
    · show BM w8 (if P = P then p0 else bp P) (if P = P then q0 else bq P) bits
      rw [if_pos rfl, if_pos rfl]; exact hb8
  · intro p hp q hq
    show (if p.at_ = P then q0 else bq p.at_) = (if q.at_ = P then q0 else bq q.at_) → p.at_ = q.at_
    rcases mem_insPg.1 hp with hp | rfl
    · rcases mem_insPg.1 hq with hq | rfl
      · rw [if_neg (hf p hp), if_neg (hf q hq)]; exact hc5.inj p hp q hq
      · rw [if_neg (hf p hp), if_pos rfl]
        intro e
        have := hbase _ (.inr (.inr ⟨p, hp, .inr rfl⟩)); omega
    · rcases mem_insPg.1 hq with hq | rfl
      · rw [if_pos rfl, if_neg (hf q hq)]
        intro e
        have := hbase _ (.inr (.inr ⟨q, hq, .inr rfl⟩)); omega
      · intro _; rfl
  · refine ⟨hc5.ok.s0, hc5.ok.s1, fun p hp => ?_, rising_insPg hc5.ok.rise P bits hf, fun p hp => ?_⟩
    · rcases mem_insPg.1 hp with hp | rfl
      · exact hc5.ok.many p hp
      · exact hm
    · rcases mem_insPg.1 hp with hp | rfl
      · exact hc5.ok.al p hp
      · exact ⟨hPa, hPl⟩
  · rintro b (rfl | hb | ⟨p, hp, hb⟩)
    · exact .inl (.inl rfl)
    · injection hb with hb
      subst hb
      rcases ha6 with h | h
      · exact .inl (.inr (.inl h))
      · exact .inr (Nat.le_trans hbw h)
    · rcases mem_insPg.1 hp with hp | rfl
      · simp only [if_neg (hf p hp)] at hb
        exact .inl (.inr (.inr ⟨p, hp, hb⟩))
      · simp only [if_true] at hb
        rcases hb with rfl | rfl
        · exact .inr hp0
        · exact .inr hq0

set_option maxRecDepth 100000 in
set_option maxHeartbeats 2000000 in
theorem slab_Take_new (c pb um : Nat) (v : Value) (bp bq bp' bq' : Nat → Nat) (s : SS) (bs : BS) (w : World) (h : CT w c pb v bp bq s) (hb : BT w pb um bp' bq' bs) (hg : Glob w)
    (hf : ∀ j (hj : j < s.l.length), firstFrom s.l[j].bits false 0 = -1) (i0 : Nat) (bs' : BS) (hn : bs.take = some (i0, bs')) (hi0 : i0 < 1048576) (hfresh : ∀ p ∈ s.l, p.at_ ≠ 1024 * i0) (hsep : ∀ b, CF c v bp bq s b → ¬ BF pb um bs.top bp' bq' b) :
    Calls Tryz.prog 39 #[.pointer (some ⟨c, 0, none⟩)] w fun e w' =>
      ∃ v' bp1 bq1, e = .returned (.tuple #[.int .i64 (1024 * i0 + 64 : Nat), .int .i64 0]) ∧ BT w' pb um bp' bq' bs' ∧
        CT w' c pb v' bp1 bq1 { s with l := insPg s.l (1024 * i0) ((List.replicate (960 / s.size) false).set 0 true) } ∧
        (∀ b, CF c v' bp1 bq1 { s with l := insPg s.l (1024 * i0) ((List.replicate (960 / s.size) false).set 0 true) } b → CF c v bp bq s b ∨ w.heap.size ≤ b) ∧
        Kept (fun x => x = c ∨ some x = v.ownBlock ∨ BF pb um bs.top bp' bq' x) w w' := by
  obtain ⟨ad, cap, hv, hp⟩ := h.form
  have h0w : Hid (∀ w', Kept NoB w w' → w'.cell? ⟨c, 0, none⟩ = some (.pointer (some ⟨pb, 0, none⟩))) := fun w' k => (h.hc.kept k (fun e => e)).cell 0
  have h2 := h.hc.cell 2
  rw [hv] at h2
  have hlen := h.ok.len
  have H : Hid (CT w c pb v bp bq s) := h
  have HB : Hid (BT w pb um bp' bq' bs) := hb
  have HP := Lib.hid hp
  have HG := Lib.hid hg
  have HFF := Lib.hid hf
  have HN := Lib.hid hn
  obtain ⟨L, hL⟩ : ∃ L, L = s.l.length := ⟨_, rfl⟩
  rw [← hL] at h2 hlen
  have HL := Lib.hid hL
  clear h hp hg hf hv hL hb hn
  go_enter Tryz.func39, Tryz.ntmps39
  go_wp2
  go_loopw [5, 6, 19] (fun _ _ x wr => ∃ j : Nat, j ≤ L ∧ x = .int .i64 j ∧ Kept NoB w wr) (fun _ _ x _ => L - (intOf x).toNat)
  case atStart => exact ⟨0, Nat.zero_le _, rfl, Kept.refl _ _⟩
  case round =>
    obtain ⟨j, hjk, rfl, hK⟩ := hrel
    by_cases hjL : j < L
    · have hjl : j < s.l.length := by have := HL.out; omega
      obtain ⟨g, e1, e2, c1, c2⟩ := (HP.out.keptNo hK) j hjl
      subst e1
      have hbm := (H.out.keptNo hK).pg _ (List.getElem_mem hjl)
      have hglr := HG.out.keptNo hK
      have hfr := HFF.out j hjl
      obtain ⟨P0, hP0⟩ : ∃ P0, P0 = bp s.l[j].at_ := ⟨_, rfl⟩
      obtain ⟨Q0, hQ0⟩ : ∃ Q0, Q0 = bq s.l[j].at_ := ⟨_, rfl⟩
      obtain ⟨B0, hB0⟩ : ∃ B0, B0 = s.l[j].bits := ⟨_, rfl⟩
      obtain ⟨A0, hA0⟩ : ∃ A0, A0 = s.l[j].at_ := ⟨_, rfl⟩
      rw [← hP0] at c1
      rw [← hA0] at c2
      rw [← hP0, ← hQ0, ← hB0] at hbm
      rw [← hB0] at hfr
      have HBM := Lib.hid hbm
      have HGL := Lib.hid hglr
      have HFR := Lib.hid hfr
      clear hfr hbm hglr hP0 hQ0 hB0 hA0 e2
      go_wp2_with (go_at_call 57; refine (bitmap_First P0 Q0 B0 false 0 _ (HBM.out.alloc _) (HGL.out.kept (Kept.alloc (Kept.refl NoB _) _) (fun _ e => e.elim)) (by omega)).mono ?_; rw [HFR.out]; rintro e w' ⟨rfl, rfl⟩)
      go_roundw
      case rel => exact ⟨j + 1, by omega, by go_num, Kept.alloc hK _⟩
      case measure => simp [intOf]; omega
    · have h0 := h0w.out _ hK
      obtain ⟨P, hP⟩ : ∃ P, P = 1024 * i0 := ⟨_, rfl⟩
      obtain ⟨M, hM⟩ : ∃ M, M = 960 / s.size := ⟨_, rfl⟩
      have hP0 : P < 1073741824 := by omega
      have hM0 : 1 ≤ M := by rw [hM]; have := H.out.ok.s0; have := H.out.ok.s1; exact (Nat.le_div_iff_mul_le (by omega)).2 (by omega)
      have hM1 : M ≤ 960 := by rw [hM]; exact Nat.div_le_self _ _
      have HTB : Hid (Calls Tryz.prog 67 #[.pointer (some ⟨pb, 0, none⟩), .int .i64 0] wr fun e w' => e = .returned (.tuple #[.int .i64 (P : Nat), .int .i64 0]) ∧ Hid (BT w' pb um bp' bq' bs') ∧ Hid (Kept (BF pb um bs.top bp' bq') wr w') ∧ Hid (bs'.top = bs.top)) := by
        refine (buddy_Take pb um bp' bq' bs _ (HB.out.keptNo hK) (HG.out.keptNo hK)).mono ?_
        rintro e w' (⟨h0, _⟩ | ⟨i, s', hs', he, h1, h3, h2⟩)
        · rw [HN.out] at h0; cases h0
        · rw [HN.out] at hs'; cases hs'; rw [hP]; exact ⟨he, h1, h2, h3⟩
      have HC : Hid (∀ w1, Kept (BF pb um bs.top bp' bq') wr w1 → CT w1 c pb v bp bq s) := fun w1 k => (H.out.keptNo hK).kept k hsep
      have HPM := Lib.hid (And.intro hP hM)
      have HSEP := Lib.hid hsep
      have HFR := Lib.hid hfresh
      clear hP hM hsep hfresh hi0
      go_wp2_with (first
        | (go_at_call 67; refine HTB.out.mono ?_; rintro e w1 ⟨rfl, HB1, HK1, HT1⟩)
        | (go_at_call 68; go_loud (refine (slab_Many c pb v bp bq s _ (HC.out _ HK1.out)).mono ?_; rintro e w' ⟨rfl, rfl⟩; rw [← HPM.out.2]))
        | (go_at_call 64; go_loud (refine (bitmap_New M w1 hM0 (by omega)).mono ?_; rintro e w2 ⟨p0, q0, rfl, hb2, hk2, hp2, hq2⟩; have HB2 := Lib.hid hb2; have HK2 := Lib.hid hk2; clear hb2 hk2))
        | (go_at_call 65; go_loud (refine (new_Set c pb v bp bq s p0 q0 M P _ wr w1 w2 (HC.out _ HK1.out) HK1.out HB2.out HK2.out hq2).mono ?_; rintro e w4 ⟨rfl, x0, x1, HX4, HC4, HB4, HK4⟩; clear x0 x1))
        | (go_at_call 69; go_loud (refine (slab_find c pb v bp bq s P _ HC4.out).mono ?_; rintro e w5 ⟨rfl, hk5⟩; have HK5 := Lib.hid hk5; have HX5 := Lib.hid (HX4.out.kept hk5 (fun e => e)); have x0 := HX5.out.cell 0; have x1 := HX5.out.cell 1; have HC5 := Lib.hid (HC4.out.keptNo hk5); have y2 := HC5.out.hc.cell 2; clear hk5)))
      have HNE : Hid (v.ownBlock ≠ some w2.heap.size) := fun e => by
        obtain ⟨cs, h⟩ := ownsRow_blk (HC.out _ HK1.out).row e
        have := h.lt; have := HK2.out.size; omega
      have hc5 := HC5.out.hc.lt
      have hb5 := HX5.out.lt
      have HINS := Lib.hid (new_Insert c pb v bp bq s P p0 w2.heap.size w5.heap.size w5 ((w5.alloc (.cells #[.pointer (some ⟨p0, 0, none⟩), .int .i64 (P : Nat)] TPg)).drew) HC5.out HX5.out HNE.out (Blk.drew (Blk.new w5 _ _)) (Kept.drew (Kept.alloc (Kept.refl _ _) _)) (Nat.le_refl _))
      go_region_with (go_at_call 70; go_loud (refine HINS.out.mono ?_; rintro e w6 ⟨g, c', rfl, z2, f2, z0, z1, hcb, HR6, HK6, HA6, HC6⟩))
      all_goals
        have hPP := HPM.out
        have HB5 : Hid (Blk (w6.setCell ⟨c, 2, none⟩ (.slice (some ⟨g, 0, none⟩) (s.l.length + 1) c')) c [.pointer (some ⟨pb, 0, none⟩), .int .i64 (s.size : Nat), .slice (some ⟨g, 0, none⟩) (s.l.length + 1) c'] TCa) := HC6.out.setCell 2 _
        have HOK : Hid s.ok := H.out.ok
        have HPL := Lib.hid (slab_place c _ _ s (.pointer (some ⟨p0, 0, none⟩)) P 0 _ HB5.out HOK.out hP0 (by omega))
        have HPM2 := Lib.hid hPP
        clear hPP
        go_wp2_with (go_at_call 66; go_loud (refine HPL.out.mono ?_; rintro e w8 ⟨rfl, hk8⟩))
        go_ret2
        obtain ⟨e1, e2⟩ := HPM2.out
        have h12 := HK2.out.size
        have hC1 := HC.out _ HK1.out
        have hlen : (setI (List.replicate M false) true 0) = (List.replicate M false).set 0 true := by
          unfold setI; rw [if_pos ⟨by omega, by simp; omega⟩]; rfl
        have END := new_End c pb v bp bq s P p0 q0 g c' w1.heap.size (setI (List.replicate M false) true 0) w4 w5 w6 w8 (by rw [hlen]; simp; omega) (by omega) hP0 (by rw [e1]; exact HFR.out) HC5.out HB4.out HK5.out (fun b hb => hC1.flt hb) hp2 hq2 HR6.out HK6.out HA6.out (by omega) HC6.out hk8
        rw [hlen] at END
        obtain ⟨n1, n2, n3⟩ := END
        have k15 : Kept NoB w1 w5 := HK4.out.trans' HK5.out (fun _ _ e => e) (fun _ _ e => e)
        have k18 : Kept (fun x => x = c ∨ some x = v.ownBlock) w1 w8 := k15.trans' n3 (fun _ _ e => e.elim) (fun _ _ e => e)
        rw [← e1, ← e2]
        refine ⟨_, _, _, ?_, ?_, n1, ?_, ?_⟩
        · simp
        · refine HB1.out.kept k18 (fun b hb e => ?_)
          rw [HT1.out] at hb
          rcases e with rfl | e
          · exact HSEP.out _ (.inl rfl) hb
          · exact HSEP.out b (.inr (.inl e.symm)) hb
        · intro b hb
          rcases n2 b hb with h | h
          · exact .inl h
          · exact .inr (by have := hK.size; have := HK1.out.size; omega)
        · exact (hK.trans' HK1.out (G := BF pb um bs.top bp' bq') (H := fun x => x = c ∨ some x = v.ownBlock ∨ BF pb um bs.top bp' bq' x) (fun _ _ e => e.elim) (fun _ _ e => .inr (.inr e))).trans' k18 (fun _ _ e => e) (fun _ _ e => e.elim .inl (fun e => .inr (.inl e)))
end Go.Proofs.YtbkliamhignmfaaGreatDoor
