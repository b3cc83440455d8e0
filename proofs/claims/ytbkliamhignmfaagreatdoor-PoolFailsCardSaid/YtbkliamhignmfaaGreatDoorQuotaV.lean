/- Layer 5: carving; making a tree. -/
import Derived.Test.YtbkliamhignmfaaGreatDoorQuotaC
namespace Go.Proofs.YtbkliamhignmfaaGreatDoor
open Go.RowKit

set_option maxRecDepth 100000 in
set_option maxHeartbeats 1000000 in
theorem quota_Carve_ok (t mb : Nat) (bl : Int → Nat) (s : QS) (id n : Int) (f : Fac) (w : World) (h : QT w t mb bl s) (hf : fget s.fs id = some f) (hn0 : 0 ≤ n) (hfit : n ≤ f.limit - f.use) (hl : s.fs.length ≠ 32) (hx : s.next ≤ 1073741823) :
    Calls Tryz.prog 22 #[.pointer (some ⟨t, 0, none⟩), .int .i64 id, .int .i64 n] w fun e w' =>
      e = .returned (.tuple #[.int .i64 (s.next : Nat), .int .i64 0]) ∧ ∃ bl', QT w' t mb bl' (s.carve id n).2.2 ∧ Kept (QF t mb bl s) w w' ∧ (∀ x ∈ s.fs, bl' x.1 = bl x.1) ∧ (∀ b, QF t mb bl' (s.carve id n).2.2 b → QF t mb bl s b ∨ w.heap.size ≤ b) := by
  have HA := Lib.hid (quota_at_some t mb bl s id f w h hf)
  have HM := Lib.hid (fget_mem hf)
  have HF := Lib.hid hf
  have hb : Blk w (bl id) f.cells 98 := h.hb _ HM.out
  have hok : f.ok := h.ok.fac _ HM.out
  have HU := Lib.hid (account_fits (bl id) f n w hb hok)
  have HB := Lib.hid hb
  have u0 : 0 ≤ f.use := by unfold Fac.use; have := hok.c0; have := hok.g0; omega
  have u1 : f.use ≤ f.limit := by unfold Fac.use; exact hok.le
  have u2 := hok.l30
  have u3 := hok.g0
  have hcb : f.given ≤ f.use := by unfold Fac.use; have := hok.c0; omega
  have u4 := hok.k0
  have u5 : f.kids < s.next := h.ok.kn _ HM.out
  have HOK := Lib.hid hok
  have hd : decide (n ≤ f.limit - f.use) = true := by simp [hfit]
  have hlen : (((s.fs.length : Nat) : Int) == 32) = false := by simp; omega
  have HL := Lib.hid hl
  clear hf hb hok hl
  go_enter Tryz.func22, Tryz.ntmps22
  go_wp2_with (first | (go_at_call 52; refine HA.out.mono ?_; rintro e w' ⟨rfl, rfl⟩) | fail)
  refine HU.out.mono ?_
  rintro e w1 ⟨rfl, hk⟩
  have hq := h.keptNo hk
  have t0 := hq.ht.cell 0
  have t1 := hq.ht.cell 1
  have tf := hq.ht.frozen 1
  have hlenm := hq.hm.len (P := Tryz.prog) Tryz.underlying99 3
  rw [List.length_map] at hlenm
  have htl := hq.ht.lt
  go_wp2
  obtain ⟨g, eg⟩ : ∃ g : Fac, g = { limit := n, charged := 0, given := 0, parent := id, kids := 0 } := ⟨_, rfl⟩
  have hg : g.ok := by rw [eg]; exact ⟨Int.le_refl 0, Int.le_refl 0, by show (0 : Int) + 0 ≤ n; omega, by show n ≤ 1073741824; omega, Int.le_refl 0, by show (0 : Int) ≤ 1073741824; omega⟩
  have ht2 : Blk (w1.setCell ⟨t, 1, none⟩ (.int .i64 ((s.next : Int) + 1))) t [.map (some mb), .int .i64 ((s.next : Int) + 1)] 101 := hq.ht.setCell 1 _
  have hmW : MapAt ((w1.setCell ⟨t, 1, none⟩ (.int .i64 ((s.next : Int) + 1))).alloc (.cells #[.int .i64 n, .int .i64 0, .int .i64 0, .int .i64 id, .int .i64 0] 98)) mb _ :=
    (hq.hm.setCell_ne ⟨t, 1, none⟩ (.int .i64 ((s.next : Int) + 1)) (fun e => hq.hm.ne hq.ht e.symm)).alloc _
  obtain ⟨w4, hrun, hm4, k4, hs4⟩ := hmW.update (P := Tryz.prog) Tryz.underlying99 Tryz.underlying3 (s.next : Int) (.pointer (some ⟨w1.heap.size, 0, none⟩))
  have hnone : fget s.fs (s.next : Int) = none := fget_none_of _ _ (fun x hx e => by have := h.ok.lt x hx; omega)
  rw [aput_new _ _ _ (by rw [aget_ptr, hnone]; rfl)] at hm4
  have hnb : Blk ((w1.setCell ⟨t, 1, none⟩ (.int .i64 ((s.next : Int) + 1))).alloc (.cells #[.int .i64 n, .int .i64 0, .int .i64 0, .int .i64 id, .int .i64 0] 98)) w1.heap.size g.cells 98 := by
    have := Blk.new (w1.setCell ⟨t, 1, none⟩ (.int .i64 ((s.next : Int) + 1))) g.cells 98
    rw [World.size_setCell] at this
    rw [eg] at this ⊢
    exact this
  have hq4 := hq.add g hg (by rw [eg]) (Nat.le_refl _) (Kept.setCell (Kept.refl _ _) _ _ (Or.inl rfl)) ht2 (Kept.alloc (Kept.refl _ _) _) hnb k4 hm4
  have K4 : Kept (QF t mb bl s) w w4 := by
    refine ((hk.mono (fun _ e => e.elim)).trans (Kept.setCell (Kept.refl _ w1) ⟨t, 1, none⟩ (.int .i64 ((s.next : Int) + 1)) (Or.inl (Or.inl rfl)))).trans ?_
    exact (Kept.alloc (Kept.refl _ _) _).trans (k4.mono (fun _ e => Or.inr (Or.inl e)))
  have hlt : id < (s.next : Int) := (h.ok.lt _ HM.out).2
  have HF4 := Lib.hid (fget_append s.fs s.next id f g HF.out)
  have hm4' : ((id, f) : Int × Fac) ∈ s.fs ++ [((s.next : Int), g)] := List.mem_append_left _ HM.out
  have hb4 := hq4.hb _ hm4'
  change Blk w4 (if id = (s.next : Int) then w1.heap.size else bl id) f.cells _ at hb4
  rw [if_neg (show ¬ id = (s.next : Int) by omega)] at hb4
  have f2 := hb4.cell 2
  have f4 := hb4.cell 4
  have ff2 := hb4.frozen 2
  have ff4 := hb4.frozen 4
  simp only [Fac.cells] at f2 f4
  have HB4 := Lib.hid hb4
  have HNE := Lib.hid hnone
  have EG := Lib.hid eg
  clear hb4 hnb hmW ht2 eg hm4 hm4' hnone
  rw [hrun]
  simp only [Result.andThen]
  go_wp2
  go_ret2
  have hcv : s.carve id n = ((s.next : Int), 0, { next := s.next + 1, fs := fset s.fs id { f with given := f.given + n, kids := f.kids + 1 } ++ [((s.next : Int), g)] }) := by
    simp only [QS.carve, HF.out, EG.out]
    rw [if_neg (by omega), if_pos hfit, if_neg HL.out]
  have ebl : (if id = (s.next : Int) then w1.heap.size else bl id) = bl id := if_neg (by omega)
  have ok5 : Fac.ok { f with given := f.given + n } := by
    obtain ⟨a, b, c, d, e, k⟩ := HOK.out
    unfold Fac.use at hfit
    exact ⟨a, by show 0 ≤ f.given + n; omega, by show f.charged + (f.given + n) ≤ f.limit; omega, d, e, k⟩
  have ok6 : Fac.ok { f with given := f.given + n, kids := f.kids + 1 } := by
    obtain ⟨a, b, c, d, e, k⟩ := ok5
    exact ⟨a, b, c, d, by show 0 ≤ f.kids + 1; omega, by show f.kids + 1 ≤ 1073741824; omega⟩
  have q5 := hq4.write HF4.out 2 (.int .i64 (f.given + n)) (g := { f with given := f.given + n }) rfl ok5 (by show f.kids < ((s.next + 1 : Nat) : Int); omega)
  rw [ebl] at q5
  have ff := fset_fset (s.fs ++ [((s.next : Int), g)]) id f { f with given := f.given + n } { f with given := f.given + n, kids := f.kids + 1 } HF4.out
  have q6 := q5.write ff.1 4 (.int .i64 (f.kids + 1)) (g := { f with given := f.given + n, kids := f.kids + 1 }) rfl ok6 (by show f.kids + 1 < ((s.next + 1 : Nat) : Int); omega)
  rw [ebl] at q6
  have e6 := ff.2
  rw [fset_append _ _ _ _ _ { f with given := f.given + n, kids := f.kids + 1 } HF.out] at e6
  dsimp only at q6
  rw [e6] at q6
  refine ⟨rfl, _, by rw [hcv]; exact q6, ?_, ?_, ?_⟩
  · exact Kept.setCell (Kept.setCell K4 _ _ (Or.inl (Or.inr (Or.inr ⟨_, HM.out, rfl⟩)))) _ _ (Or.inl (Or.inr (Or.inr ⟨_, HM.out, rfl⟩)))
  · intro x hx
    exact if_neg (by have := h.ok.lt x hx; omega)
  · intro b hb
    rw [hcv] at hb
    rcases hb with rfl | rfl | ⟨x, hx, rfl⟩
    · exact Or.inl (Or.inl rfl)
    · exact Or.inl (Or.inr (Or.inl rfl))
    · show QF t mb bl s (if x.1 = (s.next : Int) then w1.heap.size else bl x.1) ∨ w.heap.size ≤ (if x.1 = (s.next : Int) then w1.heap.size else bl x.1)
      by_cases e : x.1 = (s.next : Int)
      · rw [if_pos e]; exact Or.inr hk.size
      · rw [if_neg e]
        refine Or.inl (Or.inr (Or.inr ?_))
        rcases List.mem_append.1 hx with hx | hx
        · rcases fset_mem h.ok.nd hx with rfl | ⟨h1, _⟩
          · exact ⟨_, HM.out, rfl⟩
          · exact ⟨x, h1, rfl⟩
        · obtain rfl := List.mem_singleton.1 hx
          exact absurd rfl e

set_option maxRecDepth 100000 in
set_option maxHeartbeats 1000000 in
theorem quota_Carve (t mb : Nat) (bl : Int → Nat) (s : QS) (id n : Int) (w : World) (h : QT w t mb bl s) (hx : s.next ≤ 1073741823) (hn : n ≤ 9223372036854775807) :
    Calls Tryz.prog 22 #[.pointer (some ⟨t, 0, none⟩), .int .i64 id, .int .i64 n] w fun e w' =>
      e = .returned (.tuple #[.int .i64 (s.carve id n).1, .int .i64 (s.carve id n).2.1]) ∧ ∃ bl', QT w' t mb bl' (s.carve id n).2.2 ∧ Kept (QF t mb bl s) w w' ∧ (∀ x ∈ s.fs, bl' x.1 = bl x.1) ∧ (∀ b, QF t mb bl' (s.carve id n).2.2 b → QF t mb bl s b ∨ w.heap.size ≤ b) := by
  cases hf : fget s.fs id with
  | none =>
    have HA := Lib.hid (quota_at_none t mb bl s id w h hf)
    rw [show s.carve id n = (0, 6, s) by simp only [QS.carve, hf]]
    clear hf
    go_enter Tryz.func22, Tryz.ntmps22
    go_wp2_with (go_at_call 52; refine HA.out.mono ?_; rintro e w' ⟨rfl, rfl⟩)
    go_ret2
    exact ⟨rfl, bl, h, Kept.refl _ _, fun _ _ => rfl, fun _ hb => Or.inl hb⟩
  | some f =>
    have HA := Lib.hid (quota_at_some t mb bl s id f w h hf)
    have HM := Lib.hid (fget_mem hf)
    have hb : Blk w (bl id) f.cells 98 := h.hb _ HM.out
    have hok : f.ok := h.ok.fac _ HM.out
    have HU := Lib.hid (account_fits (bl id) f n w hb hok)
    by_cases hn0 : n < 0
    · rw [show s.carve id n = (0, 1, s) by simp only [QS.carve, hf, hn0, if_true]]
      clear hf hb hok
      go_enter Tryz.func22, Tryz.ntmps22
      go_wp2_with (go_at_call 52; refine HA.out.mono ?_; rintro e w' ⟨rfl, rfl⟩)
      go_ret2
      exact ⟨rfl, bl, h, Kept.refl _ _, fun _ _ => rfl, fun _ hb => Or.inl hb⟩
    · by_cases hfit : n ≤ f.limit - f.use
      · by_cases hl : s.fs.length = 32
        · rw [show s.carve id n = (0, 11, s) by simp only [QS.carve, hf, hn0, if_false, hfit, hl, if_true]]
          have hd : decide (n ≤ f.limit - f.use) = true := by simp [hfit]
          have hlen : (((s.fs.length : Nat) : Int) == 32) = true := by simp [hl]
          clear hf hb hok hl
          go_enter Tryz.func22, Tryz.ntmps22
          go_wp2_with (first | (go_at_call 52; refine HA.out.mono ?_; rintro e w' ⟨rfl, rfl⟩) | fail)
          refine HU.out.mono ?_
          rintro e w1 ⟨rfl, hk⟩
          have hq := h.keptNo hk
          have t0 := hq.ht.cell 0
          have hlenm := hq.hm.len (P := Tryz.prog) Tryz.underlying99 3
          rw [List.length_map] at hlenm
          go_wp2
          go_ret2
          exact ⟨rfl, bl, hq, hk.mono (fun _ e => e.elim), fun _ _ => rfl, fun _ hb => Or.inl hb⟩
        · have hcv : (s.carve id n).1 = (s.next : Int) ∧ (s.carve id n).2.1 = 0 := by
            simp only [QS.carve, hf, hn0, if_false, hfit, hl, if_true, and_self]
          rw [hcv.1, hcv.2]
          exact quota_Carve_ok t mb bl s id n f w h hf (by omega) hfit hl hx
      · rw [show s.carve id n = (0, 5, s) by simp only [QS.carve, hf, hn0, if_false, hfit]]
        have hd : decide (n ≤ f.limit - f.use) = false := by simp; omega
        clear hf hb hok
        go_enter Tryz.func22, Tryz.ntmps22
        go_wp2_with (first | (go_at_call 52; refine HA.out.mono ?_; rintro e w' ⟨rfl, rfl⟩) | fail)
        refine HU.out.mono ?_
        rintro e w1 ⟨rfl, hk⟩
        have hq := h.keptNo hk
        go_wp2
        go_ret2
        exact ⟨rfl, bl, hq, hk.mono (fun _ e => e.elim), fun _ _ => rfl, fun _ hb => Or.inl hb⟩

/-- A new tree. -/
def QS.new (limit : Int) : QS := { next := 1, fs := [(0, { limit := limit, charged := 0, given := 0, parent := -1, kids := 0 })] }

set_option maxRecDepth 100000 in
theorem quota_New (n : Int) (w : World) (h1 : 0 ≤ n) (h2 : n ≤ 1073741824) :
    Calls Tryz.prog 33 #[.int .i64 n] w fun e w' =>
      ∃ t mb bl, e = .returned (.pointer (some ⟨t, 0, none⟩)) ∧ QT w' t mb bl (QS.new n) ∧ Kept NoB w w' ∧ ∀ b, QF t mb bl (QS.new n) b → w.heap.size ≤ b := by
  have hmm := @run_makeMap Tryz.prog
  go_enter Tryz.func33, Tryz.ntmps33
  go_wp2
  have hm0 : MapAt ((w.alloc (.map #[] 0)).alloc (.cells #[.int .i64 n, .int .i64 0, .int .i64 0, .int .i64 (-1), .int .i64 0] 98)) w.heap.size [] := (MapAt.new w).alloc _
  obtain ⟨w4, hrun, hm4, k4, hs4⟩ := hm0.update (P := Tryz.prog) Tryz.underlying99 Tryz.underlying3 0 (.pointer (some ⟨w.heap.size + 1, 0, none⟩))
  have hs : w4.heap.size = w.heap.size + 2 := by rw [hs4]; simp
  have HS := Lib.hid hs
  rw [hrun]
  simp only [Result.andThen]
  clear hs hs4
  go_wp2
  go_ret
  have hs := HS.out
  have hb : Blk ((w.alloc (.map #[] 0)).alloc (.cells #[.int .i64 n, .int .i64 0, .int .i64 0, .int .i64 (-1), .int .i64 0] 98)) (w.heap.size + 1) (Fac.cells ⟨n, 0, 0, -1, 0⟩) 98 := by
    have := Blk.new (w.alloc (.map #[] 0)) (Fac.cells ⟨n, 0, 0, -1, 0⟩) 98
    rw [World.size_alloc] at this
    exact this
  have hb4 := hb.kept k4 (by omega)
  have ht := Blk.new w4 [.map (some w.heap.size), .int .i64 1] 101
  refine ⟨w4.heap.size, w.heap.size, fun _ => w.heap.size + 1, rfl, ⟨ht, hm4.alloc _, ?_, ?_, ?_, ?_, ?_, ?_⟩, ?_, ?_⟩
  · intro x hx
    obtain rfl := List.mem_singleton.1 hx
    exact hb4.alloc _
  · intro x hx y hy _
    obtain rfl := List.mem_singleton.1 hx
    obtain rfl := List.mem_singleton.1 hy
    rfl
  · intro x hx
    obtain rfl := List.mem_singleton.1 hx
    exact ⟨Int.le_refl 0, Int.le_refl 0, by show (0 : Int) + 0 ≤ n; omega, h2, Int.le_refl 0, by show (0 : Int) ≤ 1073741824; omega⟩
  · simp [QS.new]
  · intro x hx
    obtain rfl := List.mem_singleton.1 hx
    show (0 : Int) ≤ 0 ∧ (0 : Int) < ((1 : Nat) : Int)
    omega
  · intro x hx
    obtain rfl := List.mem_singleton.1 hx
    show (0 : Int) < ((1 : Nat) : Int)
    omega
  · refine Kept.alloc (Kept.andNew (Kept.alloc (Kept.alloc (Kept.refl _ _) _) _) k4 ?_) _
    intro x hx; subst hx; exact Or.inr (Nat.le_refl _)
  · rintro b (rfl | rfl | ⟨x, _, rfl⟩)
    · omega
    · exact Nat.le_refl _
    · show w.heap.size ≤ w.heap.size + 1; omega

set_option maxRecDepth 100000 in
theorem quota_New_bad (n : Int) (w : World) (h : n < 0 ∨ 1073741824 < n) :
    Calls Tryz.prog 33 #[.int .i64 n] w fun e w' => e = .returned (.pointer none) ∧ w = w' := by
  rcases h with h | h
  · go_enter Tryz.func33, Tryz.ntmps33
    go_wp2
    go_ret
    exact ⟨rfl, rfl⟩
  · go_enter Tryz.func33, Tryz.ntmps33
    go_wp2
    go_ret
    exact ⟨rfl, rfl⟩
end Go.Proofs.YtbkliamhignmfaaGreatDoor
