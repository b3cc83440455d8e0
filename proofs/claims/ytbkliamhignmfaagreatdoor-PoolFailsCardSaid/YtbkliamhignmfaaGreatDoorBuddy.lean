/- Layer 3: the walks of package buddy, at the order 0. -/
import Derived.Test.YtbkliamhignmfaaGreatDoorBuddyM
import Derived.Test.YtbkliamhignmfaaGreatDoorBitmapN
import Derived.Test.YtbkliamhignmfaaGreatDoorMap
namespace Go.Proofs.YtbkliamhignmfaaGreatDoor
open Go.RowKit

def bucells (top um : Nat) (bp : Nat → Nat) : List Value :=
  .int .i64 (top : Nat) :: ((List.range 21).map fun k => if k ≤ top then .pointer (some ⟨bp k, 0, none⟩) else .pointer none) ++ [.map (some um)]
theorem bucells_top (top um : Nat) (bp : Nat → Nat) : (bucells top um bp)[0]? = some (.int .i64 (top : Nat)) := rfl
theorem bucells_map (top um : Nat) (bp : Nat → Nat) : (bucells top um bp)[22]? = some (.map (some um)) := rfl
theorem bucells_at (top um : Nat) (bp : Nat → Nat) (k : Nat) (h : k ≤ top) (h2 : top ≤ 20) : (bucells top um bp)[1 + k]? = some (.pointer (some ⟨bp k, 0, none⟩)) := by
  unfold bucells
  rw [List.cons_append, Nat.add_comm 1 k, List.getElem?_cons_succ, List.getElem?_append_left (by simp; omega), List.getElem?_map, List.getElem?_range (by omega)]
  simp [h]

/-- Addresses, as the map has them. -/
def ukvs (l : List Int) : List (Int × Value) := l.map fun a => (a, .int .i64 0)
theorem aget_ukvs (a : Int) : ∀ l, aget (ukvs l) a = if a ∈ l then some (.int .i64 0) else none
  | [] => rfl
  | b :: t => by
    have ih := aget_ukvs a t
    simp only [ukvs, List.map_cons, aget] at ih ⊢
    by_cases e : b = a
    · subst e; simp
    · have e' : ¬ a = b := fun h => e h.symm
      simp only [e, if_false, List.mem_cons, e', false_or]
      exact ih
theorem aput_ukvs (a : Int) : ∀ l, aput (ukvs l) a (.int .i64 0) = ukvs (addU l a)
  | [] => rfl
  | b :: t => by
    have ih := aput_ukvs a t
    by_cases e : b = a
    · subst e; simp [ukvs, aput, addU]
    · have e' : ¬ a = b := fun h => e h.symm
      simp only [ukvs, List.map_cons, aput, e, if_false, addU, List.mem_cons, e', false_or] at ih ⊢
      rw [ih]
      split <;> simp
theorem adel_ukvs (a : Int) : ∀ l, adel (ukvs l) a = ukvs (l.erase a)
  | [] => rfl
  | b :: t => by
    have ih := adel_ukvs a t
    by_cases e : b = a
    · subst e; simp [ukvs, adel]
    · have e' : (b == a) = false := by simp [e]
      simp only [ukvs, List.map_cons, adel, e, if_false, List.erase_cons, e', Bool.false_eq_true] at ih ⊢
      rw [ih]

/-- At block pb lies an allocator. -/
structure BT (w : World) (pb um : Nat) (bp bq : Nat → Nat) (s : BS) : Prop where
  hb : Blk w pb (bucells s.top um bp) 113
  hf : ∀ k, k ≤ s.top → BM w (bp k) (bq k) (s.free k)
  hm : MapAt w um (ukvs s.used)
  inj : ∀ j k, j ≤ s.top → k ≤ s.top → bq j = bq k → j = k
  ok : s.ok
def BF (pb um top : Nat) (bp bq : Nat → Nat) (b : Nat) : Prop := b = pb ∨ b = um ∨ ∃ k, k ≤ top ∧ (b = bp k ∨ b = bq k)

theorem BT.kept {F : Nat → Prop} {w w' : World} {pb um : Nat} {bp bq : Nat → Nat} {s : BS} (h : BT w pb um bp bq s) (k : Kept F w w') (hF : ∀ b, BF pb um s.top bp bq b → ¬ F b) : BT w' pb um bp bq s :=
  ⟨h.hb.kept k (hF _ (Or.inl rfl)), fun j hj => (h.hf j hj).kept k (hF _ (Or.inr (Or.inr ⟨j, hj, Or.inl rfl⟩))) (hF _ (Or.inr (Or.inr ⟨j, hj, Or.inr rfl⟩))),
   h.hm.kept k (hF _ (Or.inr (Or.inl rfl))), h.inj, h.ok⟩
theorem BT.keptNo {w w' : World} {pb um : Nat} {bp bq : Nat → Nat} {s : BS} (h : BT w pb um bp bq s) (k : Kept NoB w w') : BT w' pb um bp bq s := h.kept k (fun _ _ h => h)
theorem BT.flt {w : World} {pb um : Nat} {bp bq : Nat → Nat} {s : BS} (h : BT w pb um bp bq s) {b : Nat} (hb : BF pb um s.top bp bq b) : b < w.heap.size := by
  rcases hb with rfl | rfl | ⟨k, hk, rfl | rfl⟩
  · exact h.hb.lt
  · exact h.hm.lt
  · exact (h.hf k hk).hp.lt
  · exact (h.hf k hk).hq.lt

/-- One bit of one order turns. -/
theorem BT.turn {w w' : World} {pb um : Nat} {bp bq : Nat → Nat} {s : BS} (h : BT w pb um bp bq s) (k : Nat) (hk : k ≤ s.top) (i : Nat) (b : Bool)
    (hn : BM w' (bp k) (bq k) ((s.free k).set i b)) (K : Kept (fun x => x = bq k) w w') : BT w' pb um bp bq { s with free := upd s.free k ((s.free k).set i b) } := by
  have hq := (h.hf k hk).hq
  refine ⟨h.hb.kept K (fun e => h.hb.ne hq (by decide) e), fun j hj => ?_, h.hm.kept K (fun e => h.hm.ne hq e), h.inj, h.ok.upd k i b⟩
  by_cases e : j = k
  · subst e
    show BM w' _ _ (upd s.free j _ j)
    rw [upd_self]; exact hn
  · show BM w' _ _ (upd s.free k _ j)
    rw [upd_ne _ _ e]
    exact (h.hf j hj).kept K (fun e2 => (h.hf j hj).hp.ne hq (by decide) e2) (fun e2 => e (h.inj j k hj hk e2))

theorem setI_nat (l : List Bool) (b : Bool) (i : Nat) (h : i < l.length) : setI l b (i : Int) = l.set i b := by
  unfold setI; rw [if_pos (by omega)]; simp
theorem setI_out (l : List Bool) (b : Bool) (i : Nat) (h : l.length ≤ i) : setI l b (i : Int) = l.set i b := by
  unfold setI; rw [if_neg (by omega), List.set_eq_of_length_le h]


/-- A bit of an order is set, by a list that was just laid. -/
theorem buddy_set (pb um : Nat) (bp bq : Nat → Nat) (s : BS) (w : World) (h : BT w pb um bp bq s) (k : Nat) (hk : k ≤ s.top) (i : Nat) (b : Bool) :
    Calls Tryz.prog 65 #[.pointer (some ⟨bp k, 0, none⟩), .bool b, .slice (some ⟨w.heap.size, 0, none⟩) 1 1] (w.alloc (.cells #[.int .i64 (i : Nat)] 3)) fun e w' =>
      e = .returned (.int .i64 (one (turns (s.free k) b (i : Nat)))) ∧ BT w' pb um bp bq { s with free := upd s.free k ((s.free k).set i b) } ∧ Kept (BF pb um s.top bp bq) w w' := by
  refine (bitmap_Set (bp k) (bq k) w.heap.size (s.free k) b (i : Nat) _ ((h.hf k hk).kept (Kept.alloc (Kept.refl NoB w) _) (fun e => e) (fun e => e)) (by simp)).mono ?_
  rintro e w' ⟨he, hm, hK⟩
  have e1 : setI (s.free k) b (i : Nat) = (s.free k).set i b := by
    by_cases hi : i < (s.free k).length
    · exact setI_nat _ _ _ hi
    · exact setI_out _ _ _ (by omega)
  rw [e1] at hm
  refine ⟨he, BT.turn (h.keptNo (Kept.alloc (Kept.refl NoB w) _)) k hk i b hm hK, ?_⟩
  exact Kept.andNew (Kept.alloc (Kept.refl _ _) _) hK (fun x hx => by subst hx; exact Or.inl (Or.inr (Or.inr ⟨k, hk, Or.inr rfl⟩)))

set_option maxRecDepth 100000 in
set_option maxHeartbeats 2000000 in
theorem buddy_Take_none (pb um : Nat) (bp bq : Nat → Nat) (s : BS) (w : World) (h : BT w pb um bp bq s) (hg : Glob w) (hs : ∀ k, k ≤ s.top → firstFrom (s.free k) true 0 = -1) :
    Calls Tryz.prog 67 #[.pointer (some ⟨pb, 0, none⟩), .int .i64 0] w fun e w' =>
      e = .returned (.tuple #[.int .i64 0, .int .i64 4]) ∧ w = w' := by
  have h0 := h.hb.cell 0
  rw [bucells_top] at h0
  have t1 := h.ok.t1
  have HS := Lib.hid hs
  clear hs
  go_enter Tryz.func67, Tryz.ntmps67
  go_wp2
  go_loop [6, 7] (fun a b => ∃ k : Nat, k ≤ s.top + 1 ∧ a = .int .i64 k ∧ b = .int .i64 (-1)) (fun a _ => s.top + 1 - (intOf a).toNat)
  case atStart => exact ⟨0, by omega, rfl, rfl⟩
  case round =>
    obtain ⟨k, hk, rfl, rfl⟩ := hrel
    by_cases hlt : k ≤ s.top
    · have hc := h.hb.cell (1 + k)
      rw [bucells_at _ _ _ _ hlt t1] at hc
      have HF := Lib.hid (bitmap_First (bp k) (bq k) (s.free k) true 0 w (h.hf k hlt) hg (by omega))
      rw [HS.out k hlt] at HF
      go_wp2_with (go_at_call 57; refine HF.out.mono ?_; rintro e w' ⟨rfl, rfl⟩)
      go_round
      case rel => exact ⟨k + 1, by omega, by go_num, rfl⟩
      case measure => simp [intOf]; omega
    · go_wp2
      go_ret2
      exact ⟨rfl, rfl⟩

set_option maxRecDepth 100000 in
set_option maxHeartbeats 2000000 in
theorem buddy_Take_some (pb um : Nat) (bp bq : Nat → Nat) (s : BS) (w : World) (h : BT w pb um bp bq s) (hg : Glob w) (kk : Nat) (hkk : kk ≤ s.top) (hs : ∀ k, k < kk → firstFrom (s.free k) true 0 = -1) (ii : Nat) (hii : firstFrom (s.free kk) true 0 = ii) (hlen : ii < 2 ^ (s.top - kk))
    (f0 : Nat → List Bool) (ef0 : Hid (f0 = upd s.free kk ((s.free kk).set ii false))) :
    Calls Tryz.prog 67 #[.pointer (some ⟨pb, 0, none⟩), .int .i64 0] w fun e w' =>
      e = .returned (.tuple #[.int .i64 (1024 * (split0 f0 kk ii).2 : Nat), .int .i64 0]) ∧
      BT w' pb um bp bq { s with free := (split0 f0 kk ii).1, used := addU s.used ((1024 * (split0 f0 kk ii).2 : Nat) : Int) } ∧
      Kept (BF pb um s.top bp bq) w w' := by
  have h0 := h.hb.cell 0
  rw [bucells_top] at h0
  have t1 := h.ok.t1
  have HS := Lib.hid hs
  have HI := Lib.hid hii
  have hck := h.hb.cell (1 + kk)
  rw [bucells_at _ _ _ _ hkk t1] at hck
  have HCK := Lib.hid hck
  have HLEN := Lib.hid hlen
  clear hs hii hck hlen
  go_enter Tryz.func67, Tryz.ntmps67
  go_wp2
  go_loop [6, 7] (fun a b => ∃ k : Nat, k ≤ kk ∧ a = .int .i64 k ∧ b = .int .i64 (-1)) (fun a _ => kk - (intOf a).toNat)
  case atStart => exact ⟨0, by omega, rfl, rfl⟩
  case round =>
    obtain ⟨k, hk, rfl, rfl⟩ := hrel
    by_cases hlt : k < kk
    · have hc := h.hb.cell (1 + k)
      rw [bucells_at _ _ _ _ (by omega) t1] at hc
      have HF := Lib.hid (bitmap_First (bp k) (bq k) (s.free k) true 0 w (h.hf k (by omega)) hg (by omega))
      rw [HS.out k hlt] at HF
      go_wp2_with (go_at_call 57; refine HF.out.mono ?_; rintro e w' ⟨rfl, rfl⟩)
      go_round
      case rel => exact ⟨k + 1, by omega, by go_num, rfl⟩
      case measure => simp [intOf]; omega
    · obtain rfl : kk = k := by omega
      have hc := HCK.out
      have HF := Lib.hid (bitmap_First (bp kk) (bq kk) (s.free kk) true 0 w (h.hf kk hkk) hg (by omega))
      rw [HI.out] at HF
      have hlen2 : ii < 1048577 := by
        have := HLEN.out
        have e : 2 ^ (s.top - kk) ≤ 2 ^ 20 := Nat.pow_le_pow_right (by omega) (by omega)
        have e2 : (2 : Nat) ^ 20 = 1048576 := by decide
        omega
      go_wp2_with (first | (go_at_call 57; refine HF.out.mono ?_; rintro e w' ⟨rfl, rfl⟩) | fail)
      refine (buddy_set pb um bp bq s w h kk hkk ii false).mono ?_
      rintro e w2 ⟨rfl, hB, hK⟩
      have h02 := hB.hb.cell 0
      rw [bucells_top] at h02
      go_wp2
      rw [← ef0.out] at hB
      clear ef0 h02
      go_loopw [6, 7] (fun a b wr => ∃ (k i : Nat) (f : Nat → List Bool), k ≤ kk ∧ a = .int .i64 k ∧ b = .int .i64 i ∧ i < 2 ^ (s.top - k) ∧ BT wr pb um bp bq { s with free := f } ∧ Hid (split0 f k i = split0 f0 kk ii) ∧ Kept (BF pb um s.top bp bq) w wr) (fun a _ _ => (intOf a).toNat)
      case atStart => exact ⟨kk, ii, f0, Nat.le_refl _, rfl, rfl, HLEN.out, hB, rfl, hK⟩
      case round =>
        clear hB hK
        obtain ⟨k, i, f, hkl, rfl, rfl, hi, hB, hS, hK⟩ := hrel
        have hi2 : i < 1048577 := by
          have e : 2 ^ (s.top - k) ≤ 2 ^ 20 := Nat.pow_le_pow_right (by omega) (by omega)
          have e2 : (2 : Nat) ^ 20 = 1048576 := by decide
          omega
        have HI2 := Lib.hid hi
        clear hi
        cases k with
        | zero =>
          have hm := hB.hb.cell 22
          rw [show bucells (BS.mk s.top f s.used).top um bp = bucells s.top um bp from rfl, bucells_map] at hm
          go_wp2
          obtain ⟨w4, hrun, hm4, k4, _⟩ := hB.hm.update (P := Tryz.prog) Tryz.underlying111 Tryz.underlying3 ((i : Int) * 1024) (.int .i64 0)
          rw [hrun]
          simp only [Result.andThen]
          go_wp2
          go_ret2
          have e1 : split0 f 0 i = (f, i) := rfl
          have e2 : split0 f0 kk ii = (f, i) := hS.out.symm
          have e3 : ((i : Int) * 1024) = ((1024 * i : Nat) : Int) := by omega
          rw [e2]
          refine ⟨congrArg (fun z => Ending.returned (.tuple #[.int .i64 z, .int .i64 0])) e3, ⟨?_, ?_, ?_, hB.inj, ⟨hB.ok.t0, hB.ok.t1, hB.ok.len, ?_⟩⟩, ?_⟩
          · exact hB.hb.kept k4 (fun e => hB.hm.ne hB.hb e.symm)
          · intro j hj
            exact (hB.hf j hj).kept k4 (fun e => hB.hm.ne (hB.hf j hj).hp e.symm) (fun e => hB.hm.ne (hB.hf j hj).hq e.symm)
          · show MapAt w4 um (ukvs (addU s.used ((1024 * i : Nat) : Int)))
            rw [← aput_ukvs, ← e3]; exact hm4
          · intro a ha
            have hpw : i < 2 ^ s.top := HI2.out
            have hbd : (0 : Int) ≤ ((1024 * i : Nat) : Int) ∧ ((1024 * i : Nat) : Int) < 1024 * 2 ^ s.top := by
              have : ((i : Nat) : Int) < 2 ^ s.top := by exact_mod_cast hpw
              omega
            have ha' : a ∈ addU s.used ((1024 * i : Nat) : Int) := ha
            unfold addU at ha'
            split at ha'
            · exact hB.ok.us a ha'
            · rcases List.mem_append.1 ha' with ha' | ha'
              · exact hB.ok.us a ha'
              · obtain rfl := List.mem_singleton.1 ha'; exact hbd
          · exact hK.trans (k4.mono (fun x hx => by subst hx; exact Or.inr (Or.inl rfl)))
        | succ k =>
          have hc := hB.hb.cell (1 + k)
          rw [bucells_at _ _ _ _ (show k ≤ (BS.mk s.top f s.used).top by show k ≤ s.top; omega) t1] at hc
          have e1 : ((2 * i + 1 : Nat) : Int) = (i : Int) * 2 + 1 := by omega
          have hset := buddy_set pb um bp bq _ wr hB k (show k ≤ s.top by omega) (2 * i + 1) true
          rw [e1] at hset
          have HSET := Lib.hid hset
          clear hset e1
          go_wp2_with fail
          refine HSET.out.mono ?_
          rintro e w3 ⟨rfl, hB3, hK3⟩
          go_wp2
          go_roundw
          case rel =>
            refine ⟨k, 2 * i, _, by omega, by go_num, by go_num, ?_, hB3, hS, hK.trans hK3⟩
            have := HI2.out
            have e : 2 ^ (s.top - k) = 2 * 2 ^ (s.top - (k + 1)) := by
              rw [show s.top - k = s.top - (k + 1) + 1 by omega, Nat.pow_succ]; omega
            omega
          case measure => simp [intOf]

/-- A block of the order 0 is taken. -/
theorem buddy_Take (pb um : Nat) (bp bq : Nat → Nat) (s : BS) (w : World) (h : BT w pb um bp bq s) (hg : Glob w) :
    Calls Tryz.prog 67 #[.pointer (some ⟨pb, 0, none⟩), .int .i64 0] w fun e w' =>
      (s.take = none ∧ e = .returned (.tuple #[.int .i64 0, .int .i64 4]) ∧ w = w') ∨
      (∃ i s', s.take = some (i, s') ∧ e = .returned (.tuple #[.int .i64 (1024 * i : Nat), .int .i64 0]) ∧ BT w' pb um bp bq s' ∧ s'.top = s.top ∧ Kept (BF pb um s.top bp bq) w w') := by
  by_cases hn : ∀ k, k ≤ s.top → firstFrom (s.free k) true 0 = -1
  · refine (buddy_Take_none pb um bp bq s w h hg hn).mono ?_
    rintro e w' ⟨he, hw⟩
    exact Or.inl ⟨by unfold BS.take; rw [firstK_none hn], he, hw⟩
  · have : ∃ k, k ≤ s.top ∧ firstFrom (s.free k) true 0 ≠ -1 ∧ ∀ j, j < k → firstFrom (s.free j) true 0 = -1 := by
      have key : ∀ n, ∀ k, k ≤ n → k ≤ s.top → firstFrom (s.free k) true 0 ≠ -1 → ∃ k, k ≤ s.top ∧ firstFrom (s.free k) true 0 ≠ -1 ∧ ∀ j, j < k → firstFrom (s.free j) true 0 = -1 := by
        intro n
        induction n with
        | zero => intro k h1 h2 h3; exact ⟨k, h2, h3, fun j hj => by omega⟩
        | succ n ih =>
          intro k h1 h2 h3
          by_cases hx : ∃ j, j < k ∧ firstFrom (s.free j) true 0 ≠ -1
          · obtain ⟨j, a, b⟩ := hx
            exact ih j (by omega) (by omega) b
          · exact ⟨k, h2, h3, fun j hj => Decidable.byContradiction fun e => hx ⟨j, hj, e⟩⟩
      have : ∃ k, k ≤ s.top ∧ firstFrom (s.free k) true 0 ≠ -1 := by
        refine Decidable.byContradiction fun e => hn fun k hk => Decidable.byContradiction fun e2 => e ⟨k, hk, e2⟩
      obtain ⟨k, a, b⟩ := this
      exact key k k (Nat.le_refl _) a b
    obtain ⟨kk, hkk, hne, hs⟩ := this
    rcases firstFrom_cases (s.free kk) true 0 with ⟨h1, _⟩ | ⟨ii, hii, hlt, _⟩
    · exact absurd h1 hne
    · rw [h.ok.len kk hkk] at hlt
      refine (buddy_Take_some pb um bp bq s w h hg kk hkk hs ii hii hlt _ rfl).mono ?_
      rintro e w' ⟨he, hB, hK⟩
      refine Or.inr ⟨_, _, ?_, he, hB, rfl, hK⟩
      unfold BS.take
      rw [firstK_some hkk hne hs]
      simp only [hii, Int.toNat_natCast]

theorem xor1_form (i : Nat) (h : i < 1048577) : bits BinOp.xor IntKind.i64 (i : Int) 1 = ((i ^^^ 1 : Nat) : Int) := by
  have h1 : (BitVec.ofInt 64 (i : Int)).toNat = i := by
    rw [BitVec.ofInt_natCast, BitVec.toNat_ofNat]; exact Nat.mod_eq_of_lt (by omega)
  have h2 : (BitVec.ofInt 64 1).toNat = 1 := by decide
  have h3 : i ^^^ 1 < 2 ^ 21 := Nat.xor_lt_two_pow (by omega) (by omega)
  show IntKind.i64.wrap ((BitVec.ofInt 64 (i : Int) ^^^ BitVec.ofInt 64 1).toNat : Int) = _
  rw [BitVec.toNat_xor, h1, h2]
  exact IntWalk.i64_in _ (by omega)

theorem turns_off (l : List Bool) (i : Nat) : turns l false (i : Nat) = bit l i := by
  unfold turns
  by_cases h : i < l.length
  · simp [h]
  · simp [h, bit_past l i (by omega)]

theorem zint (w : World) : (zeroValue 3).run Tryz.prog w = .ok (.int .i64 0) w := by kernel_rfl

theorem buddy_Give_none (pb um : Nat) (bp bq : Nat → Nat) (s : BS) (at_ : Int) (w : World) (h : BT w pb um bp bq s) (ha : at_ ∉ s.used) :
    Calls Tryz.prog 73 #[.pointer (some ⟨pb, 0, none⟩), .int .i64 at_] w fun e w' =>
      e = .returned (.int .i64 6) ∧ w = w' := by
  have hm := h.hb.cell 22
  rw [bucells_map] at hm
  have hlk := h.hm.lookup_ok (P := Tryz.prog) Tryz.underlying111 Tryz.underlying3 (zint w) at_
  rw [aget_ukvs, if_neg ha] at hlk
  simp only [Option.getD_none, Option.isSome_none] at hlk
  clear ha
  go_enter Tryz.func73, Tryz.ntmps73
  go_wp2
  go_ret
  exact ⟨rfl, rfl⟩

set_option maxRecDepth 100000 in
set_option maxHeartbeats 2000000 in
theorem buddy_Give_some (pb um : Nat) (bp bq : Nat → Nat) (s : BS) (a : Nat) (w : World) (h : BT w pb um bp bq s) (ha : ((a : Nat) : Int) ∈ s.used)
    (f0 : Nat → List Bool) (ef0 : Hid (f0 = join0 s.free s.top 0 (a / 1024))) :
    Calls Tryz.prog 73 #[.pointer (some ⟨pb, 0, none⟩), .int .i64 a] w fun e w' =>
      e = .returned (.int .i64 0) ∧ BT w' pb um bp bq { s with free := f0, used := s.used.erase a } ∧ Kept (BF pb um s.top bp bq) w w' := by
  have hm := h.hb.cell 22
  rw [bucells_map] at hm
  have t1 := h.ok.t1
  have hlk := h.hm.lookup_ok (P := Tryz.prog) Tryz.underlying111 Tryz.underlying3 (zint w) a
  rw [aget_ukvs, if_pos ha] at hlk
  simp only [Option.getD_some, Option.isSome_some] at hlk
  obtain ⟨w1, hrun, hm1, k1, _⟩ := h.hm.delete (P := Tryz.prog) Tryz.underlying111 Tryz.underlying3 (a : Int) 0 3
  rw [adel_ukvs] at hm1
  have hab : (a : Int) < 1024 * 2 ^ s.top := (h.ok.us _ ha).2
  have ha2 : a < 1024 * 2 ^ s.top := by exact_mod_cast hab
  have hpw : 2 ^ s.top ≤ 2 ^ 20 := Nat.pow_le_pow_right (by omega) (by omega)
  have e20 : (2 : Nat) ^ 20 = 1048576 := by decide
  have hi0 : a / 1024 < 2 ^ s.top := by omega
  have hal : a < 1073741825 := by omega
  have hB1 : BT w1 pb um bp bq { s with used := s.used.erase a } :=
    ⟨h.hb.kept k1 (fun e => h.hm.ne h.hb e.symm), fun j hj => (h.hf j hj).kept k1 (fun e => h.hm.ne (h.hf j hj).hp e.symm) (fun e => h.hm.ne (h.hf j hj).hq e.symm), hm1, h.inj, ⟨h.ok.t0, h.ok.t1, h.ok.len, fun x hx => h.ok.us x (List.mem_of_mem_erase hx)⟩⟩
  have K1 : Kept (BF pb um s.top bp bq) w w1 := k1.mono (fun x hx => by subst hx; exact Or.inr (Or.inl rfl))
  have HI0 := Lib.hid hi0
  clear ha hab ha2 hpw e20 hi0 hm1
  go_enter Tryz.func73, Tryz.ntmps73
  go_wp2
  have HEF := ef0
  clear ef0
  go_loopw [5, 7] (fun x y wr => ∃ (k i : Nat) (f : Nat → List Bool), k ≤ s.top ∧ x = .int .i64 k ∧ y = .int .i64 i ∧ i < 2 ^ (s.top - k) ∧ BT wr pb um bp bq { s with free := f, used := s.used.erase a } ∧ Hid (join0 f (s.top - k) k i = f0) ∧ Kept (BF pb um s.top bp bq) w wr) (fun x _ _ => s.top - (intOf x).toNat)
  case atStart => exact ⟨0, a / 1024, s.free, by omega, rfl, by go_num, HI0.out, hB1, HEF.out.symm, K1⟩
  case round =>
    clear hB1 K1 k1 hm hlk hrun
    obtain ⟨k, i, f, hkl, rfl, rfl, hi, hB, hJ, hK⟩ := hrel
    have hi2 : i < 1048577 := by
      have e : 2 ^ (s.top - k) ≤ 2 ^ 20 := Nat.pow_le_pow_right (by omega) (by omega)
      have e2 : (2 : Nat) ^ 20 = 1048576 := by decide
      omega
    have HI2 := Lib.hid hi
    clear hi
    have h0 := hB.hb.cell 0
    rw [bucells_top] at h0
    have hc := hB.hb.cell (1 + k)
    rw [bucells_at _ _ _ _ (show k ≤ (BS.mk s.top f (s.used.erase a)).top from hkl) t1] at hc
    change wr.cell? ⟨pb, 0, none⟩ = some (.int .i64 (s.top : Nat)) at h0
    have hx := xor1_form i hi2
    by_cases hlt : k < s.top
    · have hset := buddy_set pb um bp bq _ wr hB k hkl (i ^^^ 1) false
      have HSET := Lib.hid hset
      clear hset
      by_cases hbit : bit (f k) (i ^^^ 1) = true
      · have hd : (one (turns (f k) false ((i ^^^ 1 : Nat) : Int)) == 1) = true := by rw [turns_off, hbit]; rfl
        have HBIT := Lib.hid hbit
        clear hbit
        go_wp2_with fail
        refine HSET.out.mono ?_
        rintro e w3 ⟨rfl, hB3, hK3⟩
        go_wp2
        go_roundw
        case rel =>
          refine ⟨k + 1, i / 2, _, by omega, by go_num, by go_num, ?_, hB3, ?_, hK.trans hK3⟩
          · have := HI2.out
            have e : 2 ^ (s.top - k) = 2 * 2 ^ (s.top - (k + 1)) := by
              rw [show s.top - k = s.top - (k + 1) + 1 by omega, Nat.pow_succ]; omega
            omega
          · have := hJ.out
            rw [show s.top - k = (s.top - (k + 1)) + 1 by omega] at this
            unfold join0 at this
            rw [if_pos HBIT.out] at this
            exact this
        case measure => simp [intOf]; omega
      · have hd : (one (turns (f k) false ((i ^^^ 1 : Nat) : Int)) == 1) = false := by
          have : bit (f k) (i ^^^ 1) = false := by simpa using hbit
          rw [turns_off, this]; rfl
        have HBIT := Lib.hid hbit
        clear hbit
        go_wp2_with fail
        refine HSET.out.mono ?_
        rintro e w3 ⟨rfl, hB3, hK3⟩
        have hc3 := hB3.hb.cell (1 + k)
        rw [show (BS.mk s.top (upd f k ((f k).set (i ^^^ 1) false)) (s.used.erase a)).top = s.top from rfl, bucells_at _ _ _ _ hkl t1] at hc3
        go_wp2_with fail
        refine (buddy_set pb um bp bq _ w3 hB3 k hkl i true).mono ?_
        rintro e w4 ⟨rfl, hB4, hK4⟩
        go_wp2
        go_ret
        have hff : upd (upd f k ((f k).set (i ^^^ 1) false)) k ((upd f k ((f k).set (i ^^^ 1) false) k).set i true) = f0 := by
          have hbit : bit (f k) (i ^^^ 1) = false := by simpa using HBIT.out
          have e1 : (f k).set (i ^^^ 1) false = f k := by
            by_cases hl : i ^^^ 1 < (f k).length
            · rw [← setI_nat _ _ _ hl]
              exact setI_same _ _ _ (by rw [turns_off]; exact hbit)
            · exact List.set_eq_of_length_le (by omega)
          have := hJ.out
          rw [show s.top - k = (s.top - (k + 1)) + 1 by omega] at this
          unfold join0 at this
          rw [if_neg HBIT.out] at this
          rw [e1, upd_self, ← this]
          funext j
          unfold upd
          split <;> rfl
        rw [← hff]
        exact ⟨rfl, hB4, (hK.trans hK3).trans hK4⟩
    · go_wp2_with fail
      refine (buddy_set pb um bp bq _ wr hB k hkl i true).mono ?_
      rintro e w4 ⟨rfl, hB4, hK4⟩
      go_wp2
      go_ret
      have hff : upd f k ((f k).set i true) = f0 := by
        have := hJ.out
        rw [show s.top - k = 0 by omega] at this
        exact this
      rw [← hff]
      exact ⟨rfl, hB4, hK.trans hK4⟩

/-- A block comes back. -/
theorem buddy_Give (pb um : Nat) (bp bq : Nat → Nat) (s : BS) (at_ : Int) (w : World) (h : BT w pb um bp bq s) :
    Calls Tryz.prog 73 #[.pointer (some ⟨pb, 0, none⟩), .int .i64 at_] w fun e w' =>
      e = .returned (.int .i64 (s.give at_).1) ∧ BT w' pb um bp bq (s.give at_).2 ∧ Kept (BF pb um s.top bp bq) w w' := by
  unfold BS.give
  by_cases ha : at_ ∈ s.used
  · rw [if_pos ha]
    have h0 := (h.ok.us _ ha).1
    obtain ⟨a, rfl⟩ := Int.eq_ofNat_of_zero_le h0
    exact buddy_Give_some pb um bp bq s a w h ha _ rfl
  · rw [if_neg ha]
    refine (buddy_Give_none pb um bp bq s at_ w h ha).mono ?_
    rintro e w' ⟨he, hw⟩
    subst hw
    exact ⟨he, h, Kept.refl _ _⟩
end Go.Proofs.YtbkliamhignmfaaGreatDoor
