/- Layer 3, the plain law: free blocks don't overlap, a block and its buddy are never both free; what was taken and comes back leaves all as it was. No program. -/
import Derived.Test.YtbkliamhignmfaaGreatDoorBuddyM
namespace Go.Proofs.YtbkliamhignmfaaGreatDoor

theorem xor1_div (i : Nat) : (i ^^^ 1) / 2 = i / 2 := by
  have := Nat.xor_div_two_pow (a := i) (b := 1) (n := 1)
  simpa using this
theorem xor1_mod (i : Nat) : (i ^^^ 1) % 2 = 1 - i % 2 := by
  have := Nat.xor_mod_two_pow (a := i) (b := 1) (n := 1)
  simp only [Nat.pow_one] at this
  rw [this]
  rcases Nat.mod_two_eq_zero_or_one i with h | h <;> rw [h] <;> decide
theorem xor1_or {i j : Nat} (h : i / 2 = j / 2) : i = j ∨ i = j ^^^ 1 := by
  have h1 := xor1_div j
  have h2 := xor1_mod j
  generalize j ^^^ 1 = z at h1 h2 ⊢
  omega
theorem div_pow_out (i m : Nat) : i / 2 ^ (m + 1) = i / 2 ^ m / 2 := by rw [Nat.pow_succ, Nat.div_div_eq_div_mul]
theorem div_pow_in (i m : Nat) : i / 2 ^ (m + 1) = i / 2 / 2 ^ m := by rw [Nat.pow_succ, Nat.mul_comm, ← Nat.div_div_eq_div_mul]

theorem upd_true {f : Nat → List Bool} {k x : Nat} (hx : x < (f k).length) (j y : Nat) : bit (upd f k ((f k).set x true) j) y = true ↔ (j = k ∧ y = x) ∨ bit (f j) y = true := by
  by_cases e : j = k
  · subst e
    rw [upd_self]
    by_cases e2 : x = y
    · subst e2; rw [bit_set_self _ _ _ hx]; simp
    · rw [bit_set_ne _ _ _ _ e2]
      have : ¬ y = x := fun h => e2 h.symm
      simp [this]
  · rw [upd_ne _ _ e]; simp [e]
theorem upd_false {f : Nat → List Bool} {k x : Nat} (j y : Nat) : bit (upd f k ((f k).set x false) j) y = true ↔ ¬ (j = k ∧ y = x) ∧ bit (f j) y = true := by
  by_cases e : j = k
  · subst e
    rw [upd_self]
    by_cases e2 : x = y
    · subst e2
      by_cases hx : x < (f j).length
      · rw [bit_set_self _ _ _ hx]; simp
      · rw [bit_past _ _ (by simp; omega)]; simp
    · rw [bit_set_ne _ _ _ _ e2]
      have : ¬ y = x := fun h => e2 h.symm
      simp [this]
  · rw [upd_ne _ _ e]; simp [e]
theorem upd_lens {top : Nat} {f : Nat → List Bool} (h : ∀ j, j ≤ top → (f j).length = 2 ^ (top - j)) (k x : Nat) (b : Bool) : ∀ j, j ≤ top → (upd f k ((f k).set x b) j).length = 2 ^ (top - j) := by
  intro j hj
  by_cases e : j = k
  · subst e; rw [upd_self, List.length_set]; exact h j hj
  · rw [upd_ne _ _ e]; exact h j hj

structure GF (top : Nat) (f : Nat → List Bool) (used : List Int) : Prop where
  len : ∀ k, k ≤ top → (f k).length = 2 ^ (top - k)
  disj : ∀ k k' i i', k < k' → k' ≤ top → bit (f k) i = true → bit (f k') i' = true → i / 2 ^ (k' - k) ≠ i'
  nob : ∀ k i, k < top → bit (f k) i = true → bit (f k) (i ^^^ 1) ≠ true
  ud : ∀ a ∈ used, ∀ k i, k ≤ top → bit (f k) i = true → a.toNat / 1024 / 2 ^ k ≠ i
structure GB (s : BS) : Prop where
  ok : s.ok
  gf : GF s.top s.free s.used
  al : ∀ a ∈ s.used, a % 1024 = 0
  nd : s.used.Nodup

/-- A block that lies apart from all that is free or used. -/
structure Apart (top : Nat) (f : Nat → List Bool) (used : List Int) (k i : Nat) : Prop where
  lo : ∀ k' i', k' ≤ k → bit (f k') i' = true → i' / 2 ^ (k - k') ≠ i
  hi : ∀ k' i', k ≤ k' → k' ≤ top → bit (f k') i' = true → i / 2 ^ (k' - k) ≠ i'
  us : ∀ a ∈ used, a.toNat / 1024 / 2 ^ k ≠ i

theorem GF.sub {top : Nat} {f g : Nat → List Bool} {used : List Int} (h : GF top f used) (hl : ∀ k, k ≤ top → (g k).length = 2 ^ (top - k)) (hs : ∀ k i, bit (g k) i = true → bit (f k) i = true) : GF top g used :=
  ⟨hl, fun k k' i i' h1 h2 h3 h4 => h.disj k k' i i' h1 h2 (hs _ _ h3) (hs _ _ h4), fun k i h1 h2 h3 => h.nob k i h1 (hs _ _ h2) (hs _ _ h3), fun a ha k i h1 h2 => h.ud a ha k i h1 (hs _ _ h2)⟩
theorem GF.unset {top : Nat} {f : Nat → List Bool} {used : List Int} (h : GF top f used) (k x : Nat) : GF top (upd f k ((f k).set x false)) used :=
  h.sub (upd_lens h.len k x false) (fun j i hb => ((upd_false j i).1 hb).2)
/-- A block is set free. -/
theorem GF.set {top : Nat} {f : Nat → List Bool} {used : List Int} (h : GF top f used) {k i : Nat} (hk : k ≤ top) (hi : i < 2 ^ (top - k)) (ha : Apart top f used k i) (hb : k < top → bit (f k) (i ^^^ 1) ≠ true) : GF top (upd f k ((f k).set i true)) used := by
  have hx : i < (f k).length := by rw [h.len k hk]; exact hi
  refine ⟨upd_lens h.len k i true, ?_, ?_, ?_⟩
  · intro j j' x y hj hj' h1 h2
    rcases (upd_true hx j x).1 h1 with ⟨rfl, rfl⟩ | h3
    · rcases (upd_true hx j' y).1 h2 with ⟨rfl, rfl⟩ | h4
      · omega
      · exact ha.hi j' y (by omega) hj' h4
    · rcases (upd_true hx j' y).1 h2 with ⟨rfl, rfl⟩ | h4
      · exact ha.lo j x (by omega) h3
      · exact h.disj j j' x y hj hj' h3 h4
  · intro j x hj h1 h2
    rcases (upd_true hx j x).1 h1 with ⟨rfl, rfl⟩ | h3
    · rcases (upd_true hx j _).1 h2 with ⟨_, e⟩ | h4
      · have := xor1_mod x; rw [e] at this; omega
      · exact hb hj h4
    · rcases (upd_true hx j _).1 h2 with ⟨rfl, e⟩ | h4
      · refine hb hj ?_
        rw [← e, Nat.xor_assoc, Nat.xor_self, Nat.xor_zero]; exact h3
      · exact h.nob j x hj h3 h4
  · intro a hu j x hj h1
    rcases (upd_true hx j x).1 h1 with ⟨rfl, rfl⟩ | h1
    · exact ha.us a hu
    · exact h.ud a hu j x hj h1

theorem Apart.half {top : Nat} {f : Nat → List Bool} {used : List Int} {k i : Nat} (h : Apart top f used (k + 1) i) {x : Nat} (hx : x / 2 = i) : Apart top f used k x := by
  refine ⟨fun k' i' hk hb e => ?_, fun k' i' hk ht hb e => ?_, fun a ha e => ?_⟩
  · refine h.lo k' i' (by omega) hb ?_
    rw [show k + 1 - k' = (k - k') + 1 by omega, div_pow_out, e, hx]
  · by_cases hk2 : k' = k
    · subst hk2
      rw [Nat.sub_self, Nat.pow_zero, Nat.div_one] at e
      subst e
      refine h.lo k' x (by omega) hb ?_
      rw [show k' + 1 - k' = 1 by omega, Nat.pow_one]; exact hx
    · refine h.hi k' i' (by omega) ht hb ?_
      rw [← e, show k' - k = (k' - (k + 1)) + 1 by omega, div_pow_in, hx]
  · refine h.us a ha ?_
    rw [div_pow_out, e, hx]
theorem Apart.add {top : Nat} {f : Nat → List Bool} {used : List Int} {k i : Nat} (h : Apart top f used k i) {x : Nat} (hx : x < (f k).length) (hne : x ≠ i) : Apart top (upd f k ((f k).set x true)) used k i := by
  refine ⟨fun k' i' hk hb e => ?_, fun k' i' hk ht hb e => ?_, h.us⟩
  · rcases (upd_true hx k' i').1 hb with ⟨rfl, rfl⟩ | hb
    · rw [Nat.sub_self, Nat.pow_zero, Nat.div_one] at e; exact hne e
    · exact h.lo k' i' hk hb e
  · rcases (upd_true hx k' i').1 hb with ⟨rfl, rfl⟩ | hb
    · rw [Nat.sub_self, Nat.pow_zero, Nat.div_one] at e; exact hne e.symm
    · exact h.hi k' i' hk ht hb e

theorem split0_good {top : Nat} {used : List Int} : ∀ (k : Nat) (f : Nat → List Bool) (i : Nat), GF top f used → Apart top f used k i → k ≤ top → i < 2 ^ (top - k) →
    GF top (split0 f k i).1 used ∧ Apart top (split0 f k i).1 used 0 (split0 f k i).2
  | 0, f, i, h, ha, _, _ => ⟨h, ha⟩
  | k + 1, f, i, h, ha, hk, hi => by
    have e : 2 ^ (top - k) = 2 * 2 ^ (top - (k + 1)) := by rw [show top - k = (top - (k + 1)) + 1 by omega, Nat.pow_succ, Nat.mul_comm]
    have hl := h.len k (by omega)
    have a1 := ha.half (x := 2 * i + 1) (by omega)
    have a0 := ha.half (x := 2 * i) (by omega)
    have h1 : GF top (upd f k ((f k).set (2 * i + 1) true)) used := by
      refine h.set (by omega) (by omega) a1 (fun _ hb => ?_)
      have e1 := xor1_div (2 * i + 1)
      have e2 := xor1_mod (2 * i + 1)
      have e3 : (2 * i + 1) ^^^ 1 = 2 * i := by omega
      rw [e3] at hb
      refine a0.lo k (2 * i) (Nat.le_refl _) hb ?_
      rw [Nat.sub_self, Nat.pow_zero, Nat.div_one]
    exact split0_good k _ (2 * i) h1 (a0.add (by omega) (by omega)) (by omega) (by omega)

theorem join0_good {top : Nat} {used : List Int} : ∀ (n k : Nat) (f : Nat → List Bool) (i : Nat), GF top f used → Apart top f used k i → k + n = top → i < 2 ^ n → GF top (join0 f n k i) used
  | 0, k, f, i, h, ha, hk, hi => h.set (by omega) (by rw [show top - k = 0 by omega]; exact hi) ha (fun e => by omega)
  | n + 1, k, f, i, h, ha, hk, hi => by
    unfold join0
    have hd := xor1_div i
    have hm := xor1_mod i
    split
    · rename_i hb
      refine join0_good n (k + 1) _ (i / 2) (h.unset k (i ^^^ 1)) ?_ (by omega) (by rw [Nat.pow_succ] at hi; omega)
      refine ⟨fun k' i' hk' hb' e => ?_, fun k' i' hk' ht hb' e => ?_, fun a ha' e => ?_⟩
      · obtain ⟨hn, hb'⟩ := (upd_false k' i').1 hb'
        by_cases e1 : k' = k + 1
        · subst e1
          rw [Nat.sub_self, Nat.pow_zero, Nat.div_one] at e
          refine h.disj k (k + 1) (i ^^^ 1) i' (by omega) (by omega) hb hb' ?_
          rw [show k + 1 - k = 1 by omega, Nat.pow_one, hd, e]
        · have hle : k' ≤ k := by omega
          rw [show k + 1 - k' = (k - k') + 1 by omega, div_pow_out] at e
          rcases xor1_or e with e | e
          · exact ha.lo k' i' hle hb' e
          · by_cases e2 : k' = k
            · subst e2
              rw [Nat.sub_self, Nat.pow_zero, Nat.div_one] at e
              exact hn ⟨rfl, e⟩
            · exact h.disj k' k i' (i ^^^ 1) (by omega) (by omega) hb' hb e
      · obtain ⟨hn, hb'⟩ := (upd_false k' i').1 hb'
        refine ha.hi k' i' (by omega) ht hb' ?_
        rw [show k' - k = (k' - (k + 1)) + 1 by omega, div_pow_in]; exact e
      · rw [div_pow_out] at e
        rcases xor1_or e with e | e
        · exact ha.us a ha' e
        · exact h.ud a ha' k _ (by omega) hb e
    · rename_i hb
      exact h.set (by omega) (by rw [show top - k = n + 1 by omega]; exact hi) ha (fun _ => hb)

theorem take_some {s : BS} {i : Nat} {s' : BS} (h : s.take = some (i, s')) : ∃ k j, k ≤ s.top ∧ bit (s.free k) j = true ∧ j < (s.free k).length ∧ (∀ x, x < j → bit (s.free k) x ≠ true) ∧ (∀ k' x, k' < k → bit (s.free k') x ≠ true) ∧
    i = 2 ^ k * j ∧ s' = { s with free := (split0 (upd s.free k ((s.free k).set j false)) k j).1, used := addU s.used ((1024 * i : Nat) : Int) } := by
  unfold BS.take at h
  split at h
  · cases h
  · rename_i k hk
    unfold firstK at hk
    rw [List.find?_range_eq_some] at hk
    obtain ⟨h1, h2, h3⟩ := hk
    have h2' : k ≤ s.top := by have := List.mem_range.1 h2; omega
    rcases firstFrom_cases (s.free k) true 0 with ⟨hf, _⟩ | ⟨j, hf, hj, _, hb, hmin⟩
    · rw [hf] at h1; simp at h1
    · rw [hf] at h
      simp only [Int.toNat_natCast] at h
      injection h with h
      injection h with e1 e2
      refine ⟨k, j, h2', hb, hj, fun x hx => hmin x (by omega) hx, fun k' x hk' hb' => ?_, ?_, ?_⟩
      · have h4 := h3 k' hk'
        rcases firstFrom_cases (s.free k') true 0 with ⟨_, hno⟩ | ⟨j', hf', _⟩
        · by_cases hx : x < (s.free k').length
          · exact hno x (by omega) hx hb'
          · rw [bit_past _ _ (by omega)] at hb'; cases hb'
        · rw [hf'] at h4; simp at h4
      · rw [← e1, split0_idx]
      · rw [← e2, ← e1]
theorem take_none {s : BS} (h : s.take = none) : ∀ k i, k ≤ s.top → bit (s.free k) i ≠ true := by
  unfold BS.take at h
  split at h
  · rename_i hk
    unfold firstK at hk
    rw [List.find?_eq_none] at hk
    intro k i hk' hb
    have := hk k (List.mem_range.2 (by omega))
    rcases firstFrom_cases (s.free k) true 0 with ⟨_, hno⟩ | ⟨j', hf', _⟩
    · by_cases hx : i < (s.free k).length
      · exact hno i (by omega) hx hb
      · rw [bit_past _ _ (by omega)] at hb; cases hb
    · rw [hf'] at this; simp at this
  · cases h

/-- The first free block lies apart, once it is no more free. -/
theorem GF.apart {top : Nat} {f : Nat → List Bool} {used : List Int} (h : GF top f used) {k j : Nat} (hk : k ≤ top) (hb : bit (f k) j = true) : Apart top (upd f k ((f k).set j false)) used k j := by
  refine ⟨fun k' i' hk' hb' e => ?_, fun k' i' hk' ht hb' e => ?_, fun a ha => h.ud a ha k j hk hb⟩
  · obtain ⟨hn, hb'⟩ := (upd_false k' i').1 hb'
    by_cases e1 : k' = k
    · subst e1
      rw [Nat.sub_self, Nat.pow_zero, Nat.div_one] at e
      exact hn ⟨rfl, e⟩
    · exact h.disj k' k i' j (by omega) hk hb' hb e
  · obtain ⟨hn, hb'⟩ := (upd_false k' i').1 hb'
    by_cases e1 : k' = k
    · subst e1
      rw [Nat.sub_self, Nat.pow_zero, Nat.div_one] at e
      exact hn ⟨rfl, e.symm⟩
    · exact h.disj k k' j i' (by omega) ht hb hb' e

theorem take_good {s : BS} {i : Nat} {s' : BS} (h : GB s) (ht : s.take = some (i, s')) : GB s' ∧ ((1024 * i : Nat) : Int) ∉ s.used ∧ s'.used = s.used ++ [((1024 * i : Nat) : Int)] ∧ i < 2 ^ s.top ∧ s'.top = s.top := by
  obtain ⟨k, j, hk, hb, hj, _, _, hi, hs⟩ := take_some ht
  have hj' : j < 2 ^ (s.top - k) := by rw [← h.gf.len k hk]; exact hj
  have hil : i < 2 ^ s.top := by
    have : 2 ^ s.top = 2 ^ k * 2 ^ (s.top - k) := by rw [← Nat.pow_add]; congr 1; omega
    rw [this, hi]
    exact Nat.mul_lt_mul_of_pos_left hj' (Nat.two_pow_pos k)
  have hnu : ((1024 * i : Nat) : Int) ∉ s.used := fun hu => by
    refine h.gf.ud _ hu k j hk hb ?_
    rw [Int.toNat_natCast, Nat.mul_div_cancel_left _ (by omega), hi, Nat.mul_div_cancel_left _ (Nat.two_pow_pos k)]
  obtain ⟨g1, g2⟩ := split0_good k _ j (h.gf.unset k j) (h.gf.apart hk hb) hk hj'
  have hu : addU s.used ((1024 * i : Nat) : Int) = s.used ++ [((1024 * i : Nat) : Int)] := if_neg hnu
  rw [hu] at hs
  subst hs
  have i2 : (split0 (upd s.free k ((s.free k).set j false)) k j).2 = i := by rw [split0_idx, hi]
  rw [i2] at g2
  refine ⟨⟨⟨h.ok.t0, h.ok.t1, g1.len, fun a ha => ?_⟩, ⟨g1.len, g1.disj, g1.nob, fun a ha k' i' hk' hb' => ?_⟩, fun a ha => ?_, ?_⟩, hnu, rfl, hil, rfl⟩
  · rcases List.mem_append.1 ha with ha | ha
    · exact h.ok.us a ha
    · rw [List.mem_singleton.1 ha]
      refine ⟨by omega, ?_⟩
      have : ((1024 * i : Nat) : Int) < ((1024 * 2 ^ s.top : Nat) : Int) := by
        rw [Int.ofNat_lt]; exact Nat.mul_lt_mul_of_pos_left hil (by omega)
      simpa using this
  · rcases List.mem_append.1 ha with ha | ha
    · exact g1.ud a ha k' i' hk' hb'
    · rw [List.mem_singleton.1 ha, Int.toNat_natCast, Nat.mul_div_cancel_left _ (by omega)]
      have := g2.hi k' i' (by omega) hk' hb'
      simpa using this
  · rcases List.mem_append.1 ha with ha | ha
    · exact h.al a ha
    · rw [List.mem_singleton.1 ha]; omega
  · refine List.nodup_append.2 ⟨h.nd, by simp, ?_⟩
    intro a ha b hb e
    rw [List.mem_singleton.1 hb] at e
    rw [e] at ha; exact hnu ha

theorem give_good {s : BS} (h : GB s) (a : Int) (ha : a ∈ s.used) : GB (s.give a).2 := by
  unfold BS.give
  rw [if_pos ha]
  obtain ⟨h0, h1⟩ := h.ok.us a ha
  have hal := h.al a ha
  have hlt : a.toNat / 1024 < 2 ^ s.top := by
    have h1' : a < ((1024 * 2 ^ s.top : Nat) : Int) := by simpa using h1
    generalize 2 ^ s.top = z at h1' ⊢
    omega
  have hsub : ∀ b ∈ s.used.erase a, b ∈ s.used := fun b hb => List.mem_of_mem_erase hb
  have g1 : GF s.top s.free (s.used.erase a) := ⟨h.gf.len, h.gf.disj, h.gf.nob, fun b hb => h.gf.ud b (hsub b hb)⟩
  have ap : Apart s.top s.free (s.used.erase a) 0 (a.toNat / 1024) := by
    refine ⟨fun k' i' hk hb e => ?_, fun k' i' hk ht hb e => ?_, fun b hb e => ?_⟩
    · obtain rfl : k' = 0 := by omega
      simp at e
      have := h.gf.ud a ha 0 i' (by omega) hb
      simp at this; omega
    · have := h.gf.ud a ha k' i' ht hb
      simp at e; exact this e
    · have hb2 := (h.nd.mem_erase_iff).1 hb
      have := h.al b hb2.2
      have := (h.ok.us b hb2.2).1
      simp at e
      exact hb2.1 (by omega)
  have g2 := join0_good s.top 0 s.free (a.toNat / 1024) g1 ap (by omega) hlt
  exact ⟨⟨h.ok.t0, h.ok.t1, g2.len, fun b hb => h.ok.us b (hsub b hb)⟩, g2, fun b hb => h.al b (hsub b hb), h.nd.erase a⟩
theorem give_top (s : BS) (a : Int) : (s.give a).2.top = s.top := by unfold BS.give; split <;> rfl
theorem give_used (s : BS) (a : Int) (ha : a ∈ s.used) : (s.give a).2.used = s.used.erase a := by unfold BS.give; rw [if_pos ha]

theorem upd_upd (f : Nat → List Bool) (k x : Nat) (b c : Bool) : upd (upd f k ((f k).set x b)) k ((upd f k ((f k).set x b) k).set x c) = upd f k ((f k).set x c) := by
  funext j
  by_cases e : j = k
  · subst e; rw [upd_self, upd_self, upd_self, List.set_set]
  · rw [upd_ne _ _ e, upd_ne _ _ e, upd_ne _ _ e]
theorem set_bit_same {l : List Bool} {x : Nat} {b : Bool} (h : bit l x = b) : l.set x b = l := by
  by_cases hx : x < l.length
  · unfold bit at h
    rw [List.getD_eq_getElem?_getD, List.getElem?_eq_getElem hx] at h
    simp at h
    rw [← h]; exact List.set_getElem_self hx
  · rw [List.set_eq_of_length_le (by omega)]
theorem upd_same {f : Nat → List Bool} {k x : Nat} {b : Bool} (h : bit (f k) x = b) : upd f k ((f k).set x b) = f := by
  funext j
  by_cases e : j = k
  · subst e; rw [upd_self, set_bit_same h]
  · rw [upd_ne _ _ e]

theorem join_split {top : Nat} : ∀ (k : Nat) (f : Nat → List Bool) (i : Nat), (∀ k, k ≤ top → (f k).length = 2 ^ (top - k)) → k ≤ top → i < 2 ^ (top - k) → (∀ k' i', k' < k → bit (f k') i' ≠ true) →
    join0 (split0 f k i).1 top 0 (split0 f k i).2 = join0 f (top - k) k i
  | 0, f, i, _, _, _, _ => rfl
  | k + 1, f, i, hl, hk, hi, hn => by
    have e : 2 ^ (top - k) = 2 * 2 ^ (top - (k + 1)) := by rw [show top - k = (top - (k + 1)) + 1 by omega, Nat.pow_succ, Nat.mul_comm]
    have hlk := hl k (by omega)
    have hx : 2 * i + 1 < (f k).length := by omega
    show join0 (split0 (upd f k ((f k).set (2 * i + 1) true)) k (2 * i)).1 top 0 (split0 (upd f k ((f k).set (2 * i + 1) true)) k (2 * i)).2 = _
    rw [join_split k _ (2 * i) (upd_lens hl k _ true) (by omega) (by omega) (fun k' i' hk' hb => ?_)]
    · have e1 := xor1_div (2 * i)
      have e2 := xor1_mod (2 * i)
      have e3 : (2 * i) ^^^ 1 = 2 * i + 1 := by omega
      rw [show top - k = (top - (k + 1)) + 1 by omega]
      conv => lhs; unfold join0
      rw [e3, if_pos ((upd_true hx k (2 * i + 1)).2 (.inl ⟨rfl, rfl⟩)), upd_upd, upd_same (by simpa using hn k (2 * i + 1) (by omega)), Nat.mul_div_cancel_left _ (by omega)]
    · rcases (upd_true hx k' i').1 hb with ⟨rfl, _⟩ | hb
      · omega
      · exact hn k' i' (by omega) hb

/-- What was just taken comes back: all is as it was. -/
theorem take_give {s : BS} {i : Nat} {s' : BS} (h : GB s) (ht : s.take = some (i, s')) : s'.give ((1024 * i : Nat) : Int) = (0, s) := by
  obtain ⟨_, hnu, hu, _, _⟩ := take_good h ht
  obtain ⟨k, j, hk, hb, hj, _, hlow, hi, hs⟩ := take_some ht
  have hj' : j < 2 ^ (s.top - k) := by rw [← h.gf.len k hk]; exact hj
  have hadd : addU s.used ((1024 * i : Nat) : Int) = s.used ++ [((1024 * i : Nat) : Int)] := if_neg hnu
  rw [hadd] at hs
  unfold BS.give
  rw [if_pos (by rw [hu]; simp)]
  subst hs
  have i2 : (split0 (upd s.free k ((s.free k).set j false)) k j).2 = i := by rw [split0_idx, hi]
  have hjs := join_split (top := s.top) k (upd s.free k ((s.free k).set j false)) j (h.gf.unset k j).len hk hj' (fun k' i' hk' hb' => hlow k' i' hk' ((upd_false k' i').1 hb').2)
  rw [i2] at hjs
  have hfin : join0 (upd s.free k ((s.free k).set j false)) (s.top - k) k j = s.free := by
    by_cases ht : k = s.top
    · rw [show s.top - k = 0 by omega]
      show upd _ k _ = _
      rw [upd_upd, upd_same hb]
    · rw [show s.top - k = (s.top - k - 1) + 1 by omega]
      unfold join0
      rw [if_neg (fun hb' => h.gf.nob k j (by omega) hb ((upd_false k _).1 hb').2), upd_upd, upd_same hb]
  have he : (s.used ++ [((1024 * i : Nat) : Int)]).erase ((1024 * i : Nat) : Int) = s.used := by
    rw [List.erase_append_right _ hnu]; simp
  show ((0 : Int), ({ top := s.top, free := join0 (split0 (upd s.free k ((s.free k).set j false)) k j).1 s.top 0 (((1024 * i : Nat) : Int).toNat / 1024), used := (s.used ++ [((1024 * i : Nat) : Int)]).erase ((1024 * i : Nat) : Int) } : BS)) = (0, s)
  rw [he, Int.toNat_natCast, Nat.mul_div_cancel_left _ (by omega), hjs, hfin]
end Go.Proofs.YtbkliamhignmfaaGreatDoor
