/- Layer 4: find, spot, Has. -/
import Derived.Test.YtbkliamhignmfaaGreatDoorProg
import Derived.Test.YtbkliamhignmfaaGreatDoorSlab
namespace Go.Proofs.YtbkliamhignmfaaGreatDoor
open Go.RowKit

set_option maxRecDepth 100000 in
theorem slab_find (c pb : Nat) (v : Value) (bp bq : Nat → Nat) (s : SS) (a : Int) (w : World) (h : CT w c pb v bp bq s) :
    Calls Tryz.prog 69 #[.pointer (some ⟨c, 0, none⟩), .int .i64 a] w fun e w' =>
      e = .returned (.tuple #[.int .i64 (lowI s.l a : Nat), .bool (hasAt s.l a)]) ∧ Kept NoB w w' := by
  obtain ⟨ad, cap, hv, hp⟩ := h.form
  have h2 := h.hc.cell 2
  have hs := slab_bsearch ad cap bp s.l a w hp h.ok.rise (Nat.le_trans h.ok.len (by omega))
  rw [hv] at h2
  have HS := Lib.hid hs
  have HL := Lib.hid h
  clear h hs hp hv
  go_enter Tryz.func69, Tryz.ntmps69
  go_wp2_with (go_at_call 96; refine HS.out.mono ?_; rintro e w1 ⟨rfl, hk⟩)
  go_ret2
  exact ⟨rfl, hk⟩

/-- The slab and the number of a used place. -/
def SS.spotN (s : SS) (a : Nat) : Option (Nat × Nat) :=
  if hasAt s.l (a / 1024 * 1024 : Nat) && decide (64 ≤ a % 1024) && decide ((a % 1024 - 64) % s.size = 0) && bit (s.l.getD (lowI s.l (a / 1024 * 1024 : Nat)) default).bits ((a % 1024 - 64) / s.size)
  then some (lowI s.l (a / 1024 * 1024 : Nat), (a % 1024 - 64) / s.size) else none
def SS.spot (s : SS) (a : Int) : Option (Nat × Nat) := if a < 0 then none else s.spotN a.toNat
def spotV : Option (Nat × Nat) → Value
  | none => .tuple #[.int .i64 0, .int .i64 0, .bool false]
  | some (k, i) => .tuple #[.int .i64 (k : Nat), .int .i64 (i : Nat), .bool true]

theorem lowI_le (l : List Pg) (a : Int) : lowI l a ≤ l.length := (List.takeWhile_sublist _).length_le
theorem hasAt_lt {l : List Pg} (hr : rising l) {a : Int} (h : hasAt l a = true) : ∃ hl : lowI l a < l.length, (l[lowI l a].at_ : Int) = a := by
  obtain ⟨p, hp, he⟩ := List.any_eq_true.1 h
  obtain ⟨j, hj, rfl⟩ := List.getElem_of_mem hp
  have he' : (l[j].at_ : Int) = a := by simpa using he
  have : lowI l a = j := lowI_eq l a j (by omega) (fun i hi hij => by have := rising_get hr hj hij; omega) (fun i hi hij => by
    by_cases e : j = i
    · subst e; omega
    · have := rising_get hr hi (show j < i by omega); omega)
  exact ⟨by omega, by simp only [this]; exact he'⟩


set_option maxRecDepth 100000 in
set_option maxHeartbeats 2000000 in
theorem slab_spot_far (c pb : Nat) (v : Value) (bp bq : Nat → Nat) (s : SS) (A : Nat) (w : World) (h : CT w c pb v bp bq s) (ha : (A : Int) ≤ 9223372036854775807) (hh : hasAt s.l ((A : Int) / 1024 * 1024) = false) :
    Calls Tryz.prog 71 #[.pointer (some ⟨c, 0, none⟩), .int .i64 (A : Nat)] w fun e w' =>
      e = .returned (spotV none) ∧ Kept NoB w w' := by
  have HF := Lib.hid (fun w h => slab_find c pb v bp bq s ((A : Int) / 1024 * 1024) w h)
  have H := Lib.hid h
  clear h
  go_enter Tryz.func71, Tryz.ntmps71
  go_wp2_with (go_at_call 69; refine (HF.out _ H.out).mono ?_; rintro e w1 ⟨rfl, hk⟩)
  go_quiet (fail)
  go_wp2
  go_ret3
  exact ⟨rfl, hk.drewN _⟩

set_option maxRecDepth 100000 in
set_option maxHeartbeats 2000000 in
theorem slab_spot_low (c pb : Nat) (v : Value) (bp bq : Nat → Nat) (s : SS) (A : Nat) (w : World) (h : CT w c pb v bp bq s) (ha : (A : Int) ≤ 9223372036854775807) (hh : hasAt s.l ((A : Int) / 1024 * 1024) = true) (hi : A % 1024 < 64) :
    Calls Tryz.prog 71 #[.pointer (some ⟨c, 0, none⟩), .int .i64 (A : Nat)] w fun e w' =>
      e = .returned (spotV none) ∧ Kept NoB w w' := by
  have HF := Lib.hid (fun w h => slab_find c pb v bp bq s ((A : Int) / 1024 * 1024) w h)
  have H := Lib.hid h
  have hi' : (A : Int) % 1024 - 64 < 0 := by omega
  clear h
  go_enter Tryz.func71, Tryz.ntmps71
  go_wp2_with (go_at_call 69; refine (HF.out _ H.out).mono ?_; rintro e w1 ⟨rfl, hk⟩)
  go_quiet (fail)
  go_wp2
  go_ret3
  exact ⟨rfl, hk.drewN _⟩

set_option maxRecDepth 100000 in
set_option maxHeartbeats 2000000 in
theorem slab_spot_mod (c pb : Nat) (v : Value) (bp bq : Nat → Nat) (s : SS) (A : Nat) (w : World) (h : CT w c pb v bp bq s) (ha : (A : Int) ≤ 9223372036854775807) (hh : hasAt s.l ((A : Int) / 1024 * 1024) = true) (I : Nat) (ei : (A : Int) % 1024 - 64 = (I : Nat)) (hm : ¬ (I % s.size = 0)) :
    Calls Tryz.prog 71 #[.pointer (some ⟨c, 0, none⟩), .int .i64 (A : Nat)] w fun e w' =>
      e = .returned (spotV none) ∧ Kept NoB w w' := by
  have HF := Lib.hid (fun w h => slab_find c pb v bp bq s ((A : Int) / 1024 * 1024) w h)
  have H := Lib.hid h
  have s0 := h.ok.s0
  have s1 := h.ok.s1
  have H1 : Hid (∀ w', Kept NoB w w' → w'.cell? ⟨c, 1, none⟩ = some (.int .i64 (s.size : Nat))) := Lib.hid (fun w1 (k : Kept NoB w w1) => (h.hc.kept k (fun e => e)).cell 1)
  obtain ⟨r, hr⟩ : ∃ r, (I : Int).tmod (s.size : Int) = r := ⟨_, rfl⟩
  have hd : (r != 0) = true := by
    rw [← hr, Int.tmod_eq_emod_of_nonneg (by omega), show ((I : Int) % (s.size : Int)) = ((I % s.size : Nat) : Int) by push_cast; rfl]
    simp; omega
  have hz : decide ((I : Int) < 0) = false := by simp
  obtain ⟨n, hn⟩ : ∃ n, n = s.size := ⟨_, rfl⟩
  rw [← hn] at hr s0 s1
  have hsz : ¬ (n = 0) := by omega
  have hsz2 : ¬ ((n : Int) = 0) := by omega
  rw [← hn] at H1
  clear hn
  clear h hm
  go_enter Tryz.func71, Tryz.ntmps71
  go_wp2_with (go_at_call 69; refine (HF.out _ H.out).mono ?_; rintro e w1 ⟨rfl, hk⟩)
  have h1 := H1.out _ hk
  go_quiet (fail)
  go_wp2
  go_ret3
  exact ⟨rfl, hk.drewN _⟩

theorem BM.drewN {w : World} {p q : Nat} {l : List Bool} (h : BM w p q l) (n : Nat) : BM (w.drewN n) p q l := ⟨h.pos, h.le, h.hp, h.hq⟩

set_option maxRecDepth 100000 in
set_option maxHeartbeats 2000000 in
theorem slab_spot_bit (c pb : Nat) (v : Value) (bp bq : Nat → Nat) (s : SS) (A : Nat) (w : World) (h : CT w c pb v bp bq s) (ha : (A : Int) ≤ 9223372036854775807) (hh : hasAt s.l ((A : Int) / 1024 * 1024) = true) (I : Nat) (ei : (A : Int) % 1024 - 64 = (I : Nat)) (hm : I % s.size = 0)
    (K : Nat) (hK : lowI s.l ((A : Int) / 1024 * 1024) = K) (hKl : K < s.l.length) (b : Bool) (hbit : bit s.l[K].bits (I / s.size) = b) :
    Calls Tryz.prog 71 #[.pointer (some ⟨c, 0, none⟩), .int .i64 (A : Nat)] w fun e w' =>
      e = .returned (if b then .tuple #[.int .i64 (K : Nat), .int .i64 (I / s.size : Nat), .bool true] else spotV none) ∧ Kept NoB w w' := by
  have HF := Lib.hid (fun w h => slab_find c pb v bp bq s ((A : Int) / 1024 * 1024) w h)
  rw [hK, hh] at HF
  have H := Lib.hid h
  have s0 := h.ok.s0
  have s1 := h.ok.s1
  obtain ⟨ad, cap, hv, hp⟩ := h.form
  obtain ⟨g, e1, e2, c1, c2⟩ := hp K hKl
  subst e1
  have hgb := h.pg _ (List.getElem_mem hKl)
  obtain ⟨P0, hP0⟩ : ∃ P0, P0 = bp s.l[K].at_ := ⟨_, rfl⟩
  obtain ⟨Q0, hQ0⟩ : ∃ Q0, Q0 = bq s.l[K].at_ := ⟨_, rfl⟩
  obtain ⟨B0, hB0⟩ : ∃ B0, B0 = s.l[K].bits := ⟨_, rfl⟩
  rw [← hP0] at c1
  rw [← hP0, ← hQ0, ← hB0] at hgb
  rw [← hB0] at hbit
  obtain ⟨L, hL⟩ : ∃ L, L = s.l.length := ⟨_, rfl⟩
  obtain ⟨n, hn⟩ : ∃ n, n = s.size := ⟨_, rfl⟩
  rw [← hL] at hv hKl
  rw [← hn] at hm s0 s1 hbit
  have H1 : Hid (∀ w', Kept NoB w w' → w'.cell? ⟨c, 1, none⟩ = some (.int .i64 (n : Nat)) ∧ w'.cell? ⟨c, 2, none⟩ = some (.slice (some ⟨g, 0, none⟩) L cap) ∧ w'.cell? ⟨g, K * 2, none⟩ = some (.pointer (some ⟨P0, 0, none⟩)) ∧ BM w' P0 Q0 B0) := by
    refine Lib.hid (fun w1 (k : Kept NoB w w1) => ⟨?_, ?_, ?_, hgb.kept k (fun e => e) (fun e => e)⟩)
    · rw [hn]; exact (h.hc.kept k (fun e => e)).cell 1
    · rw [← hv]; exact (h.hc.kept k (fun e => e)).cell 2
    · exact (World.cell?_of_block (w := w) (k.block g e2 (fun e => e))).trans c1
  obtain ⟨r, hr⟩ : ∃ r, (I : Int).tmod (n : Int) = r := ⟨_, rfl⟩
  have hd : (r != 0) = false := by
    rw [← hr, Int.tmod_eq_emod_of_nonneg (by omega), show ((I : Int) % (n : Int)) = ((I % n : Nat) : Int) by push_cast; rfl, hm]
    rfl
  have hr2' : wrap64 ((I : Int) / (n : Int)) = ((I / n : Nat) : Int) := by
    rw [show ((I : Int) / (n : Int)) = ((I / n : Nat) : Int) by push_cast; rfl]
    have h1 := Nat.div_le_self I n
    generalize I / n = q at h1 ⊢
    unfold wrap64
    omega
  have hb2 : bitI B0 (wrap64 ((I : Int) / (n : Int))) = b := by
    rw [hr2', ← hbit]
    generalize I / n = q
    simp [bitI]
  have HR2 := Lib.hid hr2'
  have HB2 := Lib.hid hb2
  have hz : decide ((I : Int) < 0) = false := by simp
  have hsz : ¬ (n = 0) := by omega
  have hsz2 : ¬ ((n : Int) = 0) := by omega
  rw [← hn]
  clear h hm hn hL hv hp e2 c1 c2 hgb hP0 hQ0 hB0 hbit hr2' hb2 hh hK
  have hbv : (if b then (.tuple #[.int .i64 (K : Nat), .int .i64 (I / n : Nat), .bool true] : Value) else spotV none) = bif b then .tuple #[.int .i64 (K : Nat), .int .i64 (I / n : Nat), .bool true] else spotV none := by cases b <;> rfl
  rw [hbv]
  clear hbv
  cases b
  · go_enter Tryz.func71, Tryz.ntmps71
    go_wp2_with (go_at_call 69; refine (HF.out _ H.out).mono ?_; rintro e w1 ⟨rfl, hk⟩)
    obtain ⟨h1, h2, h3, h4⟩ := H1.out _ hk
    have HG := Lib.hid h4
    clear h4
    go_quiet ((go_at_call 95; refine Calls.quiet_of_same (v := .bool false) ?_; refine (bitmap_Get P0 Q0 B0 (wrap64 ((I : Int) / (n : Int))) _ (HG.out.drewN _)).mono ?_; rw [HB2.out]; rintro e w' ⟨rfl, rfl⟩; exact ⟨rfl, rfl⟩))
    go_wp2
    go_ret3
    exact ⟨rfl, hk.drewN _⟩
  · go_enter Tryz.func71, Tryz.ntmps71
    go_wp2_with (go_at_call 69; refine (HF.out _ H.out).mono ?_; rintro e w1 ⟨rfl, hk⟩)
    obtain ⟨h1, h2, h3, h4⟩ := H1.out _ hk
    have HG := Lib.hid h4
    clear h4
    go_quiet ((go_at_call 95; refine Calls.quiet_of_same (v := .bool true) ?_; refine (bitmap_Get P0 Q0 B0 (wrap64 ((I : Int) / (n : Int))) _ (HG.out.drewN _)).mono ?_; rw [HB2.out]; rintro e w' ⟨rfl, rfl⟩; exact ⟨rfl, rfl⟩))
    go_wp2
    go_quiet (fail)
    go_wp2
    go_ret3
    rw [HR2.out]
    exact ⟨rfl, (hk.drewN _).drewN _⟩

set_option maxRecDepth 100000 in
theorem slab_spot (c pb : Nat) (v : Value) (bp bq : Nat → Nat) (s : SS) (a : Int) (w : World) (h : CT w c pb v bp bq s) (ha : a ≤ 9223372036854775807) :
    Calls Tryz.prog 71 #[.pointer (some ⟨c, 0, none⟩), .int .i64 a] w fun e w' =>
      e = .returned (spotV (s.spot a)) ∧ Kept NoB w w' := by
  by_cases h0 : a < 0
  · have e : s.spot a = none := by unfold SS.spot; rw [if_pos h0]
    rw [e]
    go_enter Tryz.func71, Tryz.ntmps71
    go_wp2
    go_ret3
    exact ⟨rfl, Kept.refl _ _⟩
  · obtain ⟨A, rfl⟩ := Int.eq_ofNat_of_zero_le (show 0 ≤ a by omega)
    have e0 : s.spot (A : Int) = s.spotN A := by unfold SS.spot; rw [if_neg (by omega), Int.toNat_natCast]
    have hb0 : (A : Int) / 1024 * 1024 = ((A / 1024 * 1024 : Nat) : Int) := by push_cast; rfl
    rw [e0]
    unfold SS.spotN
    rw [← hb0]
    by_cases hh : hasAt s.l ((A : Int) / 1024 * 1024) = true
    · obtain ⟨hl, hat⟩ := hasAt_lt h.ok.rise hh
      by_cases hi : A % 1024 < 64
      · rw [if_neg (by rw [show decide (64 ≤ A % 1024) = false by simpa using hi]; simp)]
        exact slab_spot_low c pb v bp bq s A w h ha hh hi
      · have ei : (A : Int) % 1024 - 64 = ((A % 1024 - 64 : Nat) : Int) := by omega
        by_cases hm : (A % 1024 - 64) % s.size = 0
        · have hg : (s.l.getD (lowI s.l ((A : Int) / 1024 * 1024)) default) = s.l[lowI s.l ((A : Int) / 1024 * 1024)] := by
            rw [List.getD_eq_getElem?_getD, List.getElem?_eq_getElem hl]; rfl
          have := slab_spot_bit c pb v bp bq s A w h ha hh (A % 1024 - 64) ei hm _ rfl hl _ rfl
          refine this.mono ?_
          rintro e w' ⟨rfl, hk⟩
          refine ⟨?_, hk⟩
          rw [hh, hg, show decide (64 ≤ A % 1024) = true by simpa using hi, show decide ((A % 1024 - 64) % s.size = 0) = true by simpa using hm]
          simp only [Bool.true_and]
          split <;> rfl
        · rw [if_neg (by rw [show decide ((A % 1024 - 64) % s.size = 0) = false by simpa using hm]; simp)]
          exact slab_spot_mod c pb v bp bq s A w h ha hh _ ei hm
    · have hh' : hasAt s.l ((A : Int) / 1024 * 1024) = false := by simpa using hh
      rw [if_neg (by rw [hh']; simp)]
      exact slab_spot_far c pb v bp bq s A w h ha hh'

def SS.has (s : SS) (a : Int) : Bool := (s.spot a).isSome
theorem slab_Has (c pb : Nat) (v : Value) (bp bq : Nat → Nat) (s : SS) (a : Int) (w : World) (h : CT w c pb v bp bq s) (ha : a ≤ 9223372036854775807) :
    Calls Tryz.prog 42 #[.pointer (some ⟨c, 0, none⟩), .int .i64 a] w fun e w' =>
      e = .returned (.bool (s.has a)) ∧ Kept NoB w w' := by
  have hs := slab_spot c pb v bp bq s a w h ha
  unfold SS.has
  cases hsp : s.spot a with
  | none =>
    rw [hsp] at hs
    have HS := Lib.hid hs
    clear hs hsp h
    go_enter Tryz.func42, Tryz.ntmps42
    go_wp2_with (go_at_call 71; refine HS.out.mono ?_; rintro e w1 ⟨rfl, hk⟩; unfold spotV)
    go_ret
    exact ⟨rfl, hk⟩
  | some ki =>
    obtain ⟨k, i⟩ := ki
    rw [hsp] at hs
    have HS := Lib.hid hs
    clear hs hsp h
    go_enter Tryz.func42, Tryz.ntmps42
    go_wp2_with (go_at_call 71; refine HS.out.mono ?_; rintro e w1 ⟨rfl, hk⟩; unfold spotV)
    go_ret
    exact ⟨rfl, hk⟩
end Go.Proofs.YtbkliamhignmfaaGreatDoor
