/- Layer 3: making an allocator. -/
import Derived.Test.YtbkliamhignmfaaGreatDoorBuddy
import Derived.Test.YtbkliamhignmfaaGreatDoorArenaN
import Derived.Deep.RegionWith
namespace Go.Proofs.YtbkliamhignmfaaGreatDoor
open Go.RowKit

/-- A new allocator. -/
def BS.new (top : Nat) : BS := { top := top, free := upd (fun k => List.replicate (2 ^ (top - k)) false) top ((List.replicate (2 ^ (top - top)) false).set 0 true), used := [] }

def bucellsP (top um : Nat) (bp : Nat → Nat) (n : Nat) : List Value :=
  .int .i64 (top : Nat) :: ((List.range 21).map fun k => if k < n then .pointer (some ⟨bp k, 0, none⟩) else .pointer none) ++ [.map (some um)]
theorem bucellsP_top (top um : Nat) (bp : Nat → Nat) (n : Nat) : (bucellsP top um bp n)[0]? = some (.int .i64 (top : Nat)) := rfl
theorem bucellsP_full (top um : Nat) (bp : Nat → Nat) : bucellsP top um bp (top + 1) = bucells top um bp := by
  unfold bucellsP bucells
  simp only [Nat.lt_succ_iff]
theorem bucellsP_at (top um : Nat) (bp : Nat → Nat) (n k : Nat) (h : k ≤ 20) : (bucellsP top um bp n)[1 + k]? = some (if k < n then .pointer (some ⟨bp k, 0, none⟩) else .pointer none) := by
  unfold bucellsP
  rw [List.cons_append, Nat.add_comm 1 k, List.getElem?_cons_succ, List.getElem?_append_left (by simp; omega), List.getElem?_map, List.getElem?_range (by omega)]
  rfl
theorem bucellsP_len (top um : Nat) (bp : Nat → Nat) (n : Nat) : (bucellsP top um bp n).length = 23 := by simp [bucellsP]
theorem bucellsP_set (top um : Nat) (bp : Nat → Nat) (n x : Nat) (h : n ≤ 20) :
    (bucellsP top um bp n).set (1 + n) (.pointer (some ⟨x, 0, none⟩)) = bucellsP top um (fun j => if j = n then x else bp j) (n + 1) := by
  apply List.ext_getElem?
  intro i
  by_cases hi : i < 23
  · by_cases e : 1 + n = i
    · subst e
      rw [List.getElem?_set_self (by rw [bucellsP_len]; exact hi), bucellsP_at _ _ _ _ _ h, if_pos (by omega), if_pos rfl]
    · rw [List.getElem?_set_ne e]
      cases i with
      | zero => rfl
      | succ j =>
        by_cases hj : j ≤ 20
        · rw [Nat.add_comm j 1, bucellsP_at _ _ _ _ _ hj, bucellsP_at _ _ _ _ _ hj]
          have hne : j ≠ n := by omega
          rw [if_neg hne]
          by_cases h2 : j < n
          · rw [if_pos h2, if_pos (by omega)]
          · rw [if_neg h2, if_neg (by omega)]
        · obtain rfl : j = 21 := by omega
          rfl
  · rw [List.getElem?_eq_none (by rw [List.length_set, bucellsP_len]; omega), List.getElem?_eq_none (by rw [bucellsP_len]; omega)]

/-- An allocator in the making: n orders have their maps. -/
structure BN (w0 w : World) (pb um top : Nat) (bp bq : Nat → Nat) (n : Nat) : Prop where
  hb : Blk w pb (bucellsP top um bp n) 113
  hm : MapAt w um []
  hf : ∀ k, k < n → BM w (bp k) (bq k) (List.replicate (2 ^ (top - k)) false)
  inj : ∀ j k, j < n → k < n → bq j = bq k → j = k
  new : w0.heap.size ≤ pb ∧ w0.heap.size ≤ um ∧ ∀ k, k < n → w0.heap.size ≤ bp k ∧ w0.heap.size ≤ bq k
  K : Kept NoB w0 w

theorem BN.step {w0 w w1 w2 : World} {pb um top : Nat} {bp bq : Nat → Nat} {n : Nat} (h : BN w0 w pb um top bp bq n) (hn : n ≤ 20) {p q : Nat}
    (k1 : Kept NoB w w1) (hbm : BM w1 p q (List.replicate (2 ^ (top - n)) false)) (hp : w.heap.size ≤ p) (hq : w.heap.size ≤ q)
    (e : w2 = w1.setCell ⟨pb, 1 + n, none⟩ (.pointer (some ⟨p, 0, none⟩))) :
    BN w0 w2 pb um top (fun j => if j = n then p else bp j) (fun j => if j = n then q else bq j) (n + 1) := by
  have hb1 := h.hb.kept k1 (fun e => e)
  have K2 : Kept (fun x => x = pb) w1 w2 := by rw [e]; exact Kept.setCell (Kept.refl _ _) _ _ (Or.inl rfl)
  have hblt := h.hb.lt
  refine ⟨?_, (h.hm.kept k1 (fun e => e)).kept K2 (fun e => h.hm.ne h.hb e), ?_, ?_, ?_, ?_⟩
  · rw [e, ← bucellsP_set _ _ _ _ _ hn]; exact hb1.setCell _ _
  · intro k hk
    by_cases ek : k = n
    · subst ek
      simp only [if_true]
      exact hbm.kept K2 (fun e => by omega) (fun e => by omega)
    · simp only [ek, if_false]
      have hbk := h.hf k (by omega)
      exact (hbk.kept k1 (fun e => e) (fun e => e)).kept K2 (fun e => hbk.hp.ne h.hb (by decide) e) (fun e => hbk.hq.ne h.hb (by decide) e)
  · intro j k hj hk ejk
    change (if j = n then q else bq j) = (if k = n then q else bq k) at ejk
    by_cases ej : j = n <;> by_cases ek : k = n
    · omega
    · rw [if_pos ej, if_neg ek] at ejk
      have := (h.hf k (by omega)).hq.lt; omega
    · rw [if_neg ej, if_pos ek] at ejk
      have := (h.hf j (by omega)).hq.lt; omega
    · rw [if_neg ej, if_neg ek] at ejk
      exact h.inj j k (by omega) (by omega) ejk
  · refine ⟨h.new.1, h.new.2.1, fun k hk => ?_⟩
    have hs := h.K.size
    by_cases ek : k = n
    · simp only [ek, if_true]; omega
    · simp only [ek, if_false]; exact h.new.2.2 k (by omega)
  · exact (h.K.trans k1).andNew K2 (fun x hx => by subst hx; exact Or.inr h.new.1)

theorem BN.full {w0 w : World} {pb um top : Nat} {bp bq : Nat → Nat} (h : BN w0 w pb um top bp bq (top + 1)) (t0 : 6 ≤ top) (t1 : top ≤ 20) :
    BT w pb um bp bq { top := top, free := fun k => List.replicate (2 ^ (top - k)) false, used := [] } :=
  ⟨by rw [show (BS.mk top (fun k => List.replicate (2 ^ (top - k)) false) []).top = top from rfl, ← bucellsP_full]; exact h.hb,
   fun k hk => h.hf k (Nat.lt_succ_of_le hk), h.hm, fun j k hj hk => h.inj j k (Nat.lt_succ_of_le hj) (Nat.lt_succ_of_le hk),
   ⟨t0, t1, fun k _ => List.length_replicate, fun a ha => by cases ha⟩⟩

/-- .. behind a draw. -/
theorem buddy_set_drew (pb um : Nat) (bp bq : Nat → Nat) (s : BS) (w : World) (h : BT w pb um bp bq s) (k : Nat) (hk : k ≤ s.top) (i : Nat) (b : Bool) :
    Calls Tryz.prog 65 #[.pointer (some ⟨bp k, 0, none⟩), .bool b, .slice (some ⟨w.heap.size, 0, none⟩) 1 1] (w.alloc (.cells #[.int .i64 (i : Nat)] 3)).drew fun e w' =>
      e = .returned (.int .i64 (one (turns (s.free k) b (i : Nat)))) ∧ BT w' pb um bp bq { s with free := upd s.free k ((s.free k).set i b) } ∧ Kept (BF pb um s.top bp bq) w w' :=
  (buddy_set pb um bp bq s w.drew (h.keptNo (Kept.drew (Kept.refl _ _))) k hk i b).mono fun _ _ ⟨he, hB, hK⟩ => ⟨he, hB, (Kept.drew (Kept.refl _ _)).trans hK⟩

theorem ctz_pow (k : Nat) (h : k < 64) : Lib.ctz 64 (2 ^ k) = k := by
  have hx : 2 ^ k < 18446744073709551616 := Nat.lt_of_lt_of_le (Nat.pow_lt_pow_right (by omega) h) (by decide)
  obtain ⟨h1, h2, h3⟩ := ctz_spec (2 ^ k) (Nat.pos_iff_ne_zero.1 (Nat.two_pow_pos k)) hx
  rw [Nat.testBit_two_pow] at h2
  have := of_decide_eq_true h2
  exact this.symm

theorem shl_form (a : Nat) (h : a ≤ 20) : IntKind.i64.wrap (2 ^ a) = ((2 ^ a : Nat) : Int) := by
  have e : 2 ^ a ≤ 2 ^ 20 := Nat.pow_le_pow_right (by omega) h
  have e2 : (2 : Nat) ^ 20 = 1048576 := by decide
  have e3 : ((2 : Int) ^ a) = ((2 ^ a : Nat) : Int) := by simp
  rw [e3]
  generalize 2 ^ a = z at e ⊢
  exact IntWalk.i64_in _ (by omega)

set_option maxRecDepth 100000 in
set_option maxHeartbeats 2000000 in
theorem buddy_New (N K : Nat) (w : World) (hN : N = 2 ^ K) (hK1 : 16 ≤ K) (hK2 : K ≤ 30) (hg : Glob w) :
    Calls Tryz.prog 34 #[.int .i64 N] w fun e w' =>
      ∃ pb um bp bq, e = .returned (.pointer (some ⟨pb, 0, none⟩)) ∧ BT w' pb um bp bq (BS.new (K - 10)) ∧ Kept NoB w w' ∧ ∀ b, BF pb um (K - 10) bp bq b → w.heap.size ≤ b := by
  have hok : okSize N := ⟨K, hK1, hK2, by rw [hN]; simp⟩
  obtain ⟨h1, h2⟩ := okSize_bounds hok
  have hp : popc 64 N = 1 := (okSize_iff N (by omega) (by omega)).2 hok
  have hc := ones_walk N (w := w) (by omega)
  rw [hp] at hc
  have HC := Lib.hid hc
  obtain ⟨top, ht⟩ : ∃ top, top = K - 10 := ⟨_, rfl⟩
  have hdv : N / 1024 = 2 ^ top := by
    rw [hN, show K = top + 10 by omega, Nat.pow_add, show (1024 : Nat) = 2 ^ 10 by decide, Nat.mul_div_cancel _ (by decide)]
  have hz := tz (N / 1024) (by omega) w hg
  rw [hdv, ctz_pow top (by omega)] at hz
  rw [← ht]
  have hdz : ((N : Int) / 1024) = ((2 ^ top : Nat) : Int) := by omega
  rw [← hdz] at hz
  have HZ := Lib.hid hz
  have HDZ := Lib.hid hdz
  have t0 : 6 ≤ top := by omega
  have t1 : top ≤ 20 := by omega
  clear hp hc hok hz hdz hdv hN ht
  have hmm := @run_makeMap Tryz.prog
  go_enter Tryz.func34, Tryz.ntmps34
  go_wp2_with (first | (go_at_call 62; refine HC.out.mono ?_; rintro e w' ⟨rfl, rfl⟩) | (go_at_call 63; refine HZ.out.mono ?_; rintro e w' ⟨rfl, rfl⟩) | fail)
  have hstart : BN w ((w.alloc (.map #[] 0)).alloc (.cells (bucellsP top w.heap.size (fun _ => 0) 0).toArray 113 (0, 0))) (w.heap.size + 1) w.heap.size top (fun _ => 0) (fun _ => 0) 0 := by
    refine ⟨?_, (MapAt.new w).alloc _, fun k hk => by omega, fun j k hj => by omega, ⟨by omega, Nat.le_refl _, fun k hk => by omega⟩, Kept.alloc (Kept.alloc (Kept.refl _ _) _) _⟩
    have := Blk.new (w.alloc (.map #[] 0)) (bucellsP top w.heap.size (fun _ => 0) 0) 113
    rw [World.size_alloc] at this
    exact this
  go_loopw [4, 29] (fun _ i wr => ∃ (k : Nat) (bp bq : Nat → Nat), k ≤ top + 1 ∧ i = .int .i64 k ∧ BN w wr (w.heap.size + 1) w.heap.size top bp bq k) (fun _ i _ => top + 1 - (intOf i).toNat)
  case atStart => exact ⟨0, _, _, by omega, rfl, hstart⟩
  case round =>
    clear hstart
    obtain ⟨k, bp, bq, hk, rfl, hB⟩ := hrel
    have h0 := hB.hb.cell 0
    rw [bucellsP_top] at h0
    by_cases hlt : k ≤ top
    · go_wp2_with fail
      have hs1 : IntKind.i64.wrap ((top : Int) - (k : Int)) = ((top - k : Nat) : Int) := by
        rw [IntWalk.i64_in _ (by omega)]; omega
      have hpw : 2 ^ (top - k) ≤ 1048576 := by
        have e : 2 ^ (top - k) ≤ 2 ^ 20 := Nat.pow_le_pow_right (by omega) (by omega)
        have e2 : (2 : Nat) ^ 20 = 1048576 := by decide
        omega
      have HPW := Lib.hid hpw
      have HK2 := Lib.hid hK2
      clear hpw
      go_region_with (go_at_call 64; rw [shl_form _ (by omega)]; refine (bitmap_New (2 ^ (top - k)) _ (Nat.two_pow_pos _) HPW.out).mono ?_; rintro e w1 ⟨p, q, rfl, hbm, hk1, hp, hq⟩; have hb1 := hB.hb.drew.kept hk1 (fun e => e); have hc1 := hb1.cell (1 + k); have hf1 := hb1.frozen (1 + k); rw [bucellsP_at _ _ _ _ _ (by omega), if_neg (by omega)] at hc1; clear hb1)
      go_wp2
      go_roundw
      case rel =>
        exact ⟨k + 1, _, _, by omega, by go_num, BN.step hB (by omega) (p := p) (q := q) (Kept.trans (Kept.drew (Kept.refl _ _)) hk1) hbm hp hq rfl⟩
      case measure => simp [intOf]; omega
    · obtain rfl : k = top + 1 := by omega
      have hBT := hB.full t0 t1
      have hc := hBT.hb.cell (1 + top)
      rw [show (BS.mk top (fun k => List.replicate (2 ^ (top - k)) false) []).top = top from rfl, bucells_at _ _ _ _ (Nat.le_refl _) t1] at hc
      have HBT := Lib.hid hBT
      clear hBT
      go_wp2_with fail
      have hblt := hB.hb.lt
      have FIN : Hid (∀ w3, Kept (BF (w.heap.size + 1) w.heap.size top bp bq) wr w3 → Kept NoB w w3 ∧ ∀ b, BF (w.heap.size + 1) w.heap.size top bp bq b → w.heap.size ≤ b) := by
        have hnew : ∀ x, BF (w.heap.size + 1) w.heap.size top bp bq x → w.heap.size ≤ x := by
          rintro x (rfl | rfl | ⟨j, hj, rfl | rfl⟩)
          · exact hB.new.1
          · exact hB.new.2.1
          · exact (hB.new.2.2 j (Nat.lt_succ_of_le hj)).1
          · exact (hB.new.2.2 j (Nat.lt_succ_of_le hj)).2
        exact fun w3 hK3 => ⟨hB.K.andNew hK3 (fun x hx => Or.inr (hnew x hx)), hnew⟩
      have HS := Lib.hid (buddy_set_drew (w.heap.size + 1) w.heap.size bp bq _ wr HBT.out top (Nat.le_refl _) 0 true)
      go_region_with (go_at_call 65; refine HS.out.mono ?_; rintro e w3 ⟨rfl, hB3, hK3⟩)
      all_goals (go_wp2; go_ret; exact ⟨_, _, bp, bq, rfl, hB3, FIN.out w3 hK3⟩)

set_option maxRecDepth 100000 in
set_option maxHeartbeats 800000 in
theorem buddy_New_bad (N : Int) (w : World) (h : ¬ okSize N) (hN : N ≤ 9223372036854775807) :
    Calls Tryz.prog 34 #[.int .i64 N] w fun e w' => e = .returned (.pointer none) ∧ w = w' := by
  by_cases h1 : N < 65536
  · go_enter Tryz.func34, Tryz.ntmps34
    go_wp2
    go_ret
    exact ⟨rfl, rfl⟩
  · by_cases h2 : 1073741824 < N
    · go_enter Tryz.func34, Tryz.ntmps34
      go_wp2
      go_ret
      exact ⟨rfl, rfl⟩
    · obtain ⟨N, rfl⟩ := Int.eq_ofNat_of_zero_le (show 0 ≤ N by omega)
      have hp : popc 64 N ≠ 1 := fun e => h ((okSize_iff N (by omega) (by omega)).1 e)
      have hp' : (((popc 64 N : Nat) : Int) != 1) = true := by simp; omega
      have hc := ones_walk N (w := w) (by omega)
      have HC := Lib.hid hc
      clear hp hc h
      go_enter Tryz.func34, Tryz.ntmps34
      go_wp2_with (go_at_call 62; refine HC.out.mono ?_; rintro e w' ⟨rfl, rfl⟩)
      go_ret
      exact ⟨rfl, rfl⟩
end Go.Proofs.YtbkliamhignmfaaGreatDoor
