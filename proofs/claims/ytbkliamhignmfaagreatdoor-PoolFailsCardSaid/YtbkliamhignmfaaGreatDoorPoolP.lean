/- Layer 6, the plain law: what can't be got, or put back, turns nothing; what was got and is put back leaves the free blocks as they were. No walk. -/
import Derived.Test.YtbkliamhignmfaaGreatDoorPoolH
import Derived.Test.YtbkliamhignmfaaGreatDoorBuddyF
namespace Go.Proofs.YtbkliamhignmfaaGreatDoor
open Go.RowKit

theorem fset_get : ∀ (l : List (Int × Fac)) (id : Int) (f : Fac), fget l id = some f → fset l id f = l
  | [], _, _, h => by simp [fget] at h
  | (a, g) :: t, id, f, h => by
    simp only [fget] at h
    simp only [fset]
    split at h
    · rename_i e; rw [if_pos e]; cases h; rfl
    · rename_i e; rw [if_neg e, fset_get t id f h]
theorem charge_err {s : QS} {f n : Int} (h : (s.charge f n).1 ≠ 0) : (s.charge f n).2 = s := by
  unfold QS.charge at h ⊢
  split
  · rfl
  · rename_i g hg
    rw [hg] at h
    simp only at h ⊢
    split
    · rfl
    · split
      · rename_i h1 h2
        rw [if_neg h1, if_pos h2] at h; exact absurd rfl h
      · rfl
theorem refund_err {s : QS} {f n : Int} (h : (s.refund f n).1 ≠ 0) : (s.refund f n).2 = s := by
  unfold QS.refund at h ⊢
  split
  · rfl
  · rename_i g hg
    rw [hg] at h
    simp only at h ⊢
    split
    · rfl
    · rename_i h1
      rw [if_neg h1] at h; exact absurd rfl h
theorem charge_refund {s : QS} {f n : Int} (hok : s.ok) (hn : 0 ≤ n) (h : (s.charge f n).1 = 0) : (s.charge f n).2.refund f n = (0, s) := by
  unfold QS.charge at h ⊢
  cases hg : fget s.fs f with
  | none => rw [hg] at h; simp at h
  | some g =>
    rw [hg] at h
    simp only at h ⊢
    rw [if_neg (by omega)] at h ⊢
    by_cases h2 : n ≤ g.limit - g.use
    · rw [if_pos h2]
      obtain ⟨e1, e2⟩ := fset_fset s.fs f g { g with charged := g.charged + n } { g with charged := g.charged + n - n } hg
      unfold QS.refund
      simp only [e1]
      have hc := (hok.fac _ (fget_mem hg)).c0
      have hc' : 0 ≤ g.charged := hc
      rw [if_neg (show ¬ (n < 0 ∨ g.charged + n < n) by omega)]
      simp only [e2]
      have e3 : g.charged + n - n = g.charged := by omega
      rw [e3]
      have e4 : ({ g with charged := g.charged } : Fac) = g := rfl
      rw [e4, fset_get _ _ _ hg]
    · rw [if_neg h2] at h; simp at h

theorem pages_inj {l : List Pg} (hr : rising l) {p q : Pg} (hp : p ∈ l) (hq : q ∈ l) (e : p.at_ = q.at_) : p = q := by
  obtain ⟨i, hi, rfl⟩ := List.getElem_of_mem hp
  obtain ⟨j, hj, rfl⟩ := List.getElem_of_mem hq
  rcases Nat.lt_trichotomy i j with h | h | h
  · have := rising_get hr hj h; omega
  · subst h; rfl
  · have := rising_get hr hi h; omega
theorem lowI_at {l : List Pg} (hr : rising l) {k : Nat} (hk : k < l.length) : lowI l (l[k].at_ : Nat) = k :=
  lowI_eq l _ k (by omega) (fun j hj h => by have := rising_get hr hk h; omega) (fun j hj h => by
    rcases Nat.lt_or_eq_of_le h with h | h
    · have := rising_get hr hj h; omega
    · subst h; omega)
/-- The spot of a place. -/
theorem spot_at {s : SS} (h0 : 16 ≤ s.size) (hr : rising s.l) {k i : Nat} (hk : k < s.l.length) (hal : s.l[k].at_ % 1024 = 0) (hi : i < 960 / s.size) : s.spot ((s.l[k].at_ + 64 + i * s.size : Nat) : Int) = if bit s.l[k].bits i = true then some (k, i) else none := by
  have h4 : (i + 1) * s.size ≤ 960 := Nat.le_trans (Nat.mul_le_mul_right _ hi) (Nat.div_mul_le_self _ _)
  have h5 : i * s.size ≤ 944 := by rw [Nat.add_mul, Nat.one_mul] at h4; omega
  unfold SS.spot
  rw [if_neg (by omega), Int.toNat_natCast]
  unfold SS.spotN
  have e1 : (s.l[k].at_ + 64 + i * s.size) / 1024 * 1024 = s.l[k].at_ := by
    generalize i * s.size = z at h5 ⊢
    omega
  have e2 : (s.l[k].at_ + 64 + i * s.size) % 1024 = 64 + i * s.size := by
    generalize i * s.size = z at h5 ⊢
    omega
  rw [e1, e2, lowI_at hr hk]
  have e3 : 64 + i * s.size - 64 = i * s.size := by omega
  rw [e3, Nat.mul_mod_left, Nat.mul_div_cancel _ (by omega)]
  have e4 : hasAt s.l ((s.l[k].at_ : Nat) : Int) = true := List.any_eq_true.2 ⟨_, List.getElem_mem hk, by simp⟩
  have e5 : (s.l.getD k default) = s.l[k] := by rw [List.getD_eq_getElem?_getD, List.getElem?_eq_getElem hk]; rfl
  rw [e4, e5]
  have e6 : decide (64 ≤ 64 + i * s.size) = true := by simp
  rw [e6]
  simp

/-- The new page's place. -/
theorem insPg_get {l : List Pg} {P : Nat} {bits : List Bool} : ∃ hk : lowI l P < (insPg l P bits).length, (insPg l P bits)[lowI l P] = ⟨P, bits⟩ := by
  have hle := lowI_le l (P : Int)
  have hk : lowI l P < (insPg l P bits).length := by rw [length_insPg]; omega
  have h : (insPg l P bits)[lowI l P]? = some ⟨P, bits⟩ := by
    unfold insPg
    rw [List.append_assoc, List.getElem?_append_right (by rw [List.length_take]; omega)]
    have e : lowI l (P : Int) - (l.take (lowI l (P : Int))).length = 0 := by rw [List.length_take]; omega
    rw [e]; rfl
  exact List.getElem?_eq_some_iff.1 h
theorem insPg_erase {l : List Pg} {P : Nat} {bits : List Bool} : (insPg l P bits).eraseIdx (lowI l P) = l := by
  have hle := lowI_le l (P : Int)
  unfold insPg
  rw [List.append_assoc, List.eraseIdx_append_of_length_le (by rw [List.length_take]; omega)]
  have e : lowI l (P : Int) - (l.take (lowI l (P : Int))).length = 0 := by rw [List.length_take]; omega
  rw [e, List.singleton_append, List.eraseIdx_cons_zero, List.take_append_drop]

/-- What a cache has just given it takes back, and the allocator is as it was. -/
theorem take_back {S : PS} (h : S.good) {k : Nat} (k0 : 1 ≤ k) (k1 : k ≤ 7) (hok : (S.cs k).ok) {a : Nat} {s' : SS} {bs' : BS} (ht : (S.cs k).take S.bs = some (a, s', bs')) : s'.has a = true ∧ (s'.give bs' a).1 = 0 ∧ (s'.give bs' a).2.2 = S.bs := by
  rcases take_cases ht with ⟨j, i, hj, hr, rfl, rfl, rfl⟩ | ⟨i, hr, hb, rfl, rfl⟩
  · obtain ⟨_, _, _, hi, hbit⟩ := roomL_some hr
    have hi' : i < 960 / (S.cs k).size := by rw [← hok.many _ (List.getElem_mem hj)]; exact hi
    have hr' : rising ((S.cs k).l.set j ⟨(S.cs k).l[j].at_, (S.cs k).l[j].bits.set i true⟩) := by
      rw [rising_map, map_set_at _ _ hj, ← rising_map]; exact hok.rise
    have hj' : j < ((S.cs k).l.set j ⟨(S.cs k).l[j].at_, (S.cs k).l[j].bits.set i true⟩).length := by simpa using hj
    have hs := spot_at (s := { (S.cs k) with l := (S.cs k).l.set j ⟨(S.cs k).l[j].at_, (S.cs k).l[j].bits.set i true⟩ }) hok.s0 hr' hj' (by simp only [List.getElem_set_self]; exact (hok.al _ (List.getElem_mem hj)).1) hi'
    simp only [List.getElem_set_self] at hs
    rw [if_pos (bit_set_self _ _ _ hi)] at hs
    refine ⟨by unfold SS.has; rw [hs]; rfl, ?_⟩
    unfold SS.give
    rw [hs]
    simp only [List.getElem?_set_self hj, List.set_set]
    have hc : cnt ((S.cs k).l[j].bits.set i false) ≠ 0 := by
      rw [set_bit_same hbit]; exact h.ne k k0 k1 _ (List.getElem_mem hj)
    rw [if_neg hc]
    exact ⟨rfl, rfl⟩
  · obtain ⟨g1, g2, g3, g4, g5⟩ := take_good h.gb hb
    have hfr : ∀ p ∈ (S.cs k).l, p.at_ ≠ 1024 * i := fun p hp e => g2 (by rw [← e]; exact h.pg k k0 k1 p hp)
    have hr' := rising_insPg hok.rise (1024 * i) ((List.replicate (960 / (S.cs k).size) false).set 0 true) hfr
    obtain ⟨hk, hg⟩ := insPg_get (l := (S.cs k).l) (P := 1024 * i) (bits := (List.replicate (960 / (S.cs k).size) false).set 0 true)
    have hd : 0 < 960 / (S.cs k).size := by
      have := hok.s1
      exact Nat.div_pos (by omega) (by have := hok.s0; omega)
    have hs := spot_at (s := { (S.cs k) with l := insPg (S.cs k).l (1024 * i) ((List.replicate (960 / (S.cs k).size) false).set 0 true) }) hok.s0 hr' hk (by rw [hg]; simp) hd
    simp only [hg] at hs
    rw [if_pos (bit_set_self _ _ _ (by simpa using hd)), Nat.zero_mul, Nat.add_zero] at hs
    refine ⟨by unfold SS.has; rw [hs]; rfl, ?_⟩
    unfold SS.give
    rw [hs]
    simp only [List.getElem?_eq_getElem hk, hg, List.set_set]
    have hc : cnt ((List.replicate (960 / (S.cs k).size) false).set 0 false) = 0 := by
      rw [cnt_zero]
      intro x
      rw [set_bit_same (bit_replicate _ _)]; exact bit_replicate _ _
    rw [if_pos hc]
    have := take_give h.gb hb
    simp only [this]
    exact ⟨trivial, trivial⟩

theorem get_fails {S : PS} {f c : Int} (hq : S.qs.ok) (h : (S.get f c).2.1 ≠ 0) : (S.get f c).1 = 0 ∧ (S.get f c).2.2 = S := by
  unfold PS.get at h ⊢
  by_cases h0 : pcost c = 0
  · rw [if_pos h0]; exact ⟨rfl, rfl⟩
  · rw [if_neg h0] at h ⊢
    by_cases hr : (S.qs.charge f (pcost c)).1 = 0
    · rw [if_neg (by simpa using hr)] at h ⊢
      cases ht : (S.cs c.toNat).take S.bs with
      | none => simp only [charge_refund hq (by omega) hr]; exact ⟨trivial, trivial⟩
      | some x =>
        obtain ⟨a, s', bs'⟩ := x
        rw [ht] at h; simp at h
    · rw [if_pos hr, charge_err hr]; exact ⟨rfl, rfl⟩
theorem get_oks {S : PS} {f c : Int} (hg : S.good) (hsok : ∀ k : Nat, 1 ≤ k → k ≤ 7 → (S.cs k).ok) (hq : S.qs.ok) (h : (S.get f c).2.1 = 0) :
    0 < pcost c ∧ ((S.get f c).2.2.put f c (S.get f c).1).1 = 0 ∧ ((S.get f c).2.2.put f c (S.get f c).1).2.bs = S.bs := by
  unfold PS.get at h ⊢
  by_cases h0 : pcost c = 0
  · rw [if_pos h0] at h; simp at h
  · rw [if_neg h0] at h ⊢
    obtain ⟨k, rfl, k0, k1⟩ := pcost_pos h0
    by_cases hr : (S.qs.charge f (pcost k)).1 = 0
    · rw [if_neg (by simpa using hr), Int.toNat_natCast] at h ⊢
      cases ht : (S.cs k).take S.bs with
      | none => rw [ht] at h; simp at h
      | some x =>
        obtain ⟨a, s', bs'⟩ := x
        obtain ⟨t1, t2, t3⟩ := take_back hg k0 k1 (hsok k k0 k1) ht
        have hcr := charge_refund hq (show (0 : Int) ≤ (pcost k : Nat) by omega) hr
        refine ⟨by omega, ?_⟩
        unfold PS.put
        simp only [if_neg h0, Int.toNat_natCast, updC_self, t1, hcr]
        simp only [Bool.true_eq_false, if_false, ne_eq, not_true_eq_false]
        exact ⟨t2, t3⟩
    · rw [if_pos hr] at h; exact absurd h hr
theorem put_fails {S : PS} {f c a : Int} (hsok : ∀ k : Nat, 1 ≤ k → k ≤ 7 → (S.cs k).ok) (h : (S.put f c a).1 ≠ 0) : (S.put f c a).2 = S := by
  unfold PS.put at h ⊢
  by_cases h0 : pcost c = 0
  · rw [if_pos h0]
  · rw [if_neg h0] at h ⊢
    obtain ⟨k, rfl, k0, k1⟩ := pcost_pos h0
    rw [Int.toNat_natCast] at h ⊢
    by_cases hh : (S.cs k).has a = false
    · rw [if_pos hh]
    · rw [if_neg hh] at h ⊢
      by_cases hr : (S.qs.refund f (pcost k)).1 = 0
      · rw [if_neg (by simpa using hr)] at h ⊢
        rcases give_cases (bs := S.bs) (a := a) (hsok k k0 k1).rise with ⟨hs, eg⟩ | ⟨j, i, hj, hs, hb, ⟨hcn, eg⟩ | ⟨hcn, eg⟩⟩
        · unfold SS.has at hh; rw [hs] at hh; simp at hh
        · rw [eg] at h; simp at h
        · rw [eg] at h; simp at h
      · rw [if_pos hr, refund_err hr]
end Go.Proofs.YtbkliamhignmfaaGreatDoor
