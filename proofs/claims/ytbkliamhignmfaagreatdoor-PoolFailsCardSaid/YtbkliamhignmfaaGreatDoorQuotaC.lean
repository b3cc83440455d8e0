/- Layer 5: charging, refunding, carving, and what is asked of a tree. -/
import Derived.Test.YtbkliamhignmfaaGreatDoorQuota
namespace Go.Proofs.YtbkliamhignmfaaGreatDoor
open Go.RowKit

/-- Behind a charge: the error's number, the tree. -/
def QS.charge (s : QS) (id n : Int) : Int × QS :=
  match fget s.fs id with
  | none => (6, s)
  | some f => if n < 0 then (1, s) else if n ≤ f.limit - f.use then (0, { s with fs := fset s.fs id { f with charged := f.charged + n } }) else (5, s)
/-- Behind a refund. -/
def QS.refund (s : QS) (id n : Int) : Int × QS :=
  match fget s.fs id with
  | none => (6, s)
  | some f => if n < 0 ∨ f.charged < n then (1, s) else (0, { s with fs := fset s.fs id { f with charged := f.charged - n } })
def QS.use (s : QS) (id : Int) : Int :=
  match fget s.fs id with
  | none => 0
  | some f => f.use

theorem charge_ok {f : Fac} {n : Int} (h : f.ok) (h0 : 0 ≤ n) (h1 : n ≤ f.limit - f.use) : Fac.ok { f with charged := f.charged + n } := by
  obtain ⟨a, b, c, d, e, g⟩ := h
  unfold Fac.use at h1
  exact ⟨by show 0 ≤ f.charged + n; omega, b, by show f.charged + n + f.given ≤ f.limit; omega, d, e, g⟩
theorem refund_ok {f : Fac} {n : Int} (h : f.ok) (h0 : 0 ≤ n) (h1 : n ≤ f.charged) : Fac.ok { f with charged := f.charged - n } := by
  obtain ⟨a, b, c, d, e, g⟩ := h
  exact ⟨by show 0 ≤ f.charged - n; omega, b, by show f.charged - n + f.given ≤ f.limit; omega, d, e, g⟩

set_option maxRecDepth 100000 in
set_option maxHeartbeats 800000 in
theorem quota_Charge (t mb : Nat) (bl : Int → Nat) (s : QS) (id n : Int) (w : World) (h : QT w t mb bl s) (hn : n ≤ 9223372036854775807) :
    Calls Tryz.prog 38 #[.pointer (some ⟨t, 0, none⟩), .int .i64 id, .int .i64 n] w fun e w' =>
      e = .returned (.int .i64 (s.charge id n).1) ∧ QT w' t mb bl (s.charge id n).2 ∧ Kept (QF t mb bl s) w w' := by
  cases hf : fget s.fs id with
  | none =>
    have HA := Lib.hid (quota_at_none t mb bl s id w h hf)
    rw [show s.charge id n = (6, s) by simp only [QS.charge, hf]]
    clear hf
    go_enter Tryz.func38, Tryz.ntmps38
    go_wp2_with (go_at_call 52; refine HA.out.mono ?_; rintro e w' ⟨rfl, rfl⟩)
    go_ret
    exact ⟨rfl, h, Kept.refl _ _⟩
  | some f =>
    have HA := Lib.hid (quota_at_some t mb bl s id f w h hf)
    have HM := Lib.hid (fget_mem hf)
    have HF := Lib.hid hf
    have hb : Blk w (bl id) f.cells 98 := h.hb _ HM.out
    have hok : f.ok := h.ok.fac _ HM.out
    have HU := Lib.hid (account_fits (bl id) f n w hb hok)
    have HB := Lib.hid hb
    have u0 : 0 ≤ f.use := by unfold Fac.use; have := hok.c0; have := hok.g0; omega
    have u1 : f.use ≤ f.limit := by unfold Fac.use; exact hok.le
    have u2 := hok.l30
    have u3 := hok.c0
    have hcb : f.charged ≤ f.use := by unfold Fac.use; have := hok.g0; omega
    have HOK := Lib.hid hok
    by_cases hn0 : n < 0
    · rw [show s.charge id n = (1, s) by simp only [QS.charge, hf, hn0, if_true]]
      clear hf hb hok
      go_enter Tryz.func38, Tryz.ntmps38
      go_wp2_with (go_at_call 52; refine HA.out.mono ?_; rintro e w' ⟨rfl, rfl⟩)
      go_ret
      exact ⟨rfl, h, Kept.refl _ _⟩
    · by_cases hfit : n ≤ f.limit - f.use
      · rw [show s.charge id n = (0, { s with fs := fset s.fs id { f with charged := f.charged + n } }) by simp only [QS.charge, hf, hn0, if_false, hfit, if_true]]
        have hd : decide (n ≤ f.limit - f.use) = true := by simp [hfit]
        clear hf hb hok
        go_enter Tryz.func38, Tryz.ntmps38
        go_wp2_with (first | (go_at_call 52; refine HA.out.mono ?_; rintro e w' ⟨rfl, rfl⟩) | fail)
        refine HU.out.mono ?_
        rintro e w1 ⟨rfl, hk⟩
        have hb1 := HB.out.kept hk (fun e => e)
        have h1 := hb1.cell 1
        have hfz := hb1.frozen 1
        simp only [Fac.cells] at h1
        have hq := h.keptNo hk
        go_wp2
        go_ret
        exact ⟨rfl, hq.write HF.out 1 _ rfl (charge_ok HOK.out (by omega) hfit) (h.ok.kn _ HM.out), Kept.setCell (hk.mono (fun _ e => e.elim)) _ _ (Or.inl (Or.inr (Or.inr ⟨_, HM.out, rfl⟩)))⟩
      · rw [show s.charge id n = (5, s) by simp only [QS.charge, hf, hn0, if_false, hfit]]
        have hd : decide (n ≤ f.limit - f.use) = false := by simp; omega
        clear hf hb hok
        go_enter Tryz.func38, Tryz.ntmps38
        go_wp2_with (first | (go_at_call 52; refine HA.out.mono ?_; rintro e w' ⟨rfl, rfl⟩) | fail)
        refine HU.out.mono ?_
        rintro e w1 ⟨rfl, hk⟩
        have hq := h.keptNo hk
        go_wp2
        go_ret
        exact ⟨rfl, hq, hk.mono (fun _ e => e.elim)⟩

set_option maxRecDepth 100000 in
set_option maxHeartbeats 800000 in
theorem quota_Refund (t mb : Nat) (bl : Int → Nat) (s : QS) (id n : Int) (w : World) (h : QT w t mb bl s) (hn : n ≤ 9223372036854775807) :
    Calls Tryz.prog 40 #[.pointer (some ⟨t, 0, none⟩), .int .i64 id, .int .i64 n] w fun e w' =>
      e = .returned (.int .i64 (s.refund id n).1) ∧ QT w' t mb bl (s.refund id n).2 ∧ Kept (QF t mb bl s) w w' := by
  cases hf : fget s.fs id with
  | none =>
    have HA := Lib.hid (quota_at_none t mb bl s id w h hf)
    rw [show s.refund id n = (6, s) by simp only [QS.refund, hf]]
    clear hf
    go_enter Tryz.func40, Tryz.ntmps40
    go_wp2_with (go_at_call 52; refine HA.out.mono ?_; rintro e w' ⟨rfl, rfl⟩)
    go_ret
    exact ⟨rfl, h, Kept.refl _ _⟩
  | some f =>
    have HA := Lib.hid (quota_at_some t mb bl s id f w h hf)
    have HM := Lib.hid (fget_mem hf)
    have HF := Lib.hid hf
    have hb : Blk w (bl id) f.cells 98 := h.hb _ HM.out
    have hok : f.ok := h.ok.fac _ HM.out
    have h1 := hb.cell 1
    have hfz := hb.frozen 1
    simp only [Fac.cells] at h1
    have u3 := hok.c0
    have hcb : f.charged ≤ 1073741824 := by have := hok.g0; have := hok.le; have := hok.l30; omega
    have HOK := Lib.hid hok
    by_cases hn0 : n < 0
    · rw [show s.refund id n = (1, s) by simp only [QS.refund, hf, hn0, true_or, if_true]]
      clear hf hb hok
      go_enter Tryz.func40, Tryz.ntmps40
      go_wp2_with (go_at_call 52; refine HA.out.mono ?_; rintro e w' ⟨rfl, rfl⟩)
      go_ret
      exact ⟨rfl, h, Kept.refl _ _⟩
    · by_cases hfit : f.charged < n
      · rw [show s.refund id n = (1, s) by simp only [QS.refund, hf, hfit, or_true, if_true]]
        clear hf hb hok
        go_enter Tryz.func40, Tryz.ntmps40
        go_wp2_with (go_at_call 52; refine HA.out.mono ?_; rintro e w' ⟨rfl, rfl⟩)
        go_ret
        exact ⟨rfl, h, Kept.refl _ _⟩
      · rw [show s.refund id n = (0, { s with fs := fset s.fs id { f with charged := f.charged - n } }) by simp only [QS.refund, hf, hn0, hfit, or_false, if_false]]
        clear hf hb hok
        go_enter Tryz.func40, Tryz.ntmps40
        go_wp2_with (go_at_call 52; refine HA.out.mono ?_; rintro e w' ⟨rfl, rfl⟩)
        go_ret
        exact ⟨rfl, h.write HF.out 1 _ rfl (refund_ok HOK.out (by omega) (by omega)) (h.ok.kn _ HM.out), Kept.setCell (Kept.refl _ _) _ _ (Or.inl (Or.inr (Or.inr ⟨_, HM.out, rfl⟩)))⟩

set_option maxRecDepth 100000 in
theorem quota_Use (t mb : Nat) (bl : Int → Nat) (s : QS) (id : Int) (w : World) (h : QT w t mb bl s) :
    Calls Tryz.prog 25 #[.pointer (some ⟨t, 0, none⟩), .int .i64 id] w fun e w' =>
      e = .returned (.int .i64 (s.use id)) ∧ Kept NoB w w' := by
  cases hf : fget s.fs id with
  | none =>
    have HA := Lib.hid (quota_at_none t mb bl s id w h hf)
    rw [show s.use id = 0 by simp only [QS.use, hf]]
    clear hf
    go_enter Tryz.func25, Tryz.ntmps25
    go_wp2_with (go_at_call 52; refine HA.out.mono ?_; rintro e w' ⟨rfl, rfl⟩)
    go_ret
    exact ⟨rfl, Kept.refl _ _⟩
  | some f =>
    have HA := Lib.hid (quota_at_some t mb bl s id f w h hf)
    have hb : Blk w (bl id) f.cells 98 := h.hb _ (fget_mem hf)
    have HU := Lib.hid (account_use (bl id) f w hb (h.ok.fac _ (fget_mem hf)))
    rw [show s.use id = f.use by simp only [QS.use, hf]]
    clear hf hb
    go_enter Tryz.func25, Tryz.ntmps25
    go_wp2_with (first | (go_at_call 52; refine HA.out.mono ?_; rintro e w' ⟨rfl, rfl⟩) | (go_at_call 56; refine HU.out.mono ?_; rintro e w' ⟨rfl, rfl⟩))
    go_ret
    exact ⟨rfl, Kept.drew (Kept.alloc (Kept.refl _ _) _)⟩

/-- Behind a carving: the child's number, the error's, the tree. -/
def QS.carve (s : QS) (id limit : Int) : Int × Int × QS :=
  match fget s.fs id with
  | none => (0, 6, s)
  | some f =>
    if limit < 0 then (0, 1, s)
    else if limit ≤ f.limit - f.use then
      if s.fs.length = 32 then (0, 11, s)
      else (s.next, 0, { next := s.next + 1, fs := fset s.fs id { f with given := f.given + limit, kids := f.kids + 1 } ++ [((s.next : Int), { limit := limit, charged := 0, given := 0, parent := id, kids := 0 })] })
    else (0, 5, s)

theorem fget_none_of (l : List (Int × Fac)) (k : Int) (h : ∀ x ∈ l, x.1 ≠ k) : fget l k = none := by
  induction l with
  | nil => rfl
  | cons x t ih =>
    simp only [fget]
    rw [if_neg (h x List.mem_cons_self)]
    exact ih (fun y hy => h y (List.mem_cons_of_mem _ hy))
theorem fget_append (l : List (Int × Fac)) (k id : Int) (f g : Fac) (h : fget l id = some f) : fget (l ++ [(k, g)]) id = some f := by
  induction l with
  | nil => simp [fget] at h
  | cons x t ih =>
    simp only [fget, List.cons_append] at h ⊢
    split at h
    · rename_i e; rw [if_pos e]; exact h
    · rename_i e; rw [if_neg e]; exact ih h
theorem fset_append (l : List (Int × Fac)) (k id : Int) (f g u : Fac) (h : fget l id = some f) : fset (l ++ [(k, g)]) id u = fset l id u ++ [(k, g)] := by
  induction l with
  | nil => simp [fget] at h
  | cons x t ih =>
    simp only [fget, fset, List.cons_append] at h ⊢
    split at h
    · rename_i e; rw [if_pos e, if_pos e]; rfl
    · rename_i e; rw [if_neg e, if_neg e, ih h]; rfl
theorem fset_fset (l : List (Int × Fac)) (id : Int) (f g u : Fac) (h : fget l id = some f) : fget (fset l id g) id = some g ∧ fset (fset l id g) id u = fset l id u := by
  induction l with
  | nil => simp [fget] at h
  | cons x t ih =>
    simp only [fget, fset] at h ⊢
    split at h
    · rename_i e
      simp only [e, if_true, fget, fset, and_self]
    · rename_i e
      simp only [e, if_false, fget, fset]
      exact ⟨(ih h).1, by rw [(ih h).2]⟩

/-- A new factory is laid into the tree. -/
theorem QT.add {w w1 w2 w3 : World} {t mb nb : Nat} {bl : Int → Nat} {s : QS} (h : QT w t mb bl s) (g : Fac) (hg : g.ok) (hgk : g.kids = 0) (hn : w.heap.size ≤ nb)
    (k1 : Kept (fun x => x = t) w w1) (ht : Blk w1 t [.map (some mb), .int .i64 ((s.next : Int) + 1)] 101)
    (k2 : Kept NoB w1 w2) (hb : Blk w2 nb g.cells 98)
    (k3 : Kept (fun x => x = mb) w2 w3)
    (hm : MapAt w3 mb ((s.fs.map fun x => (x.1, .pointer (some ⟨bl x.1, 0, none⟩))) ++ [((s.next : Int), .pointer (some ⟨nb, 0, none⟩))])) :
    QT w3 t mb (fun i => if i = s.next then nb else bl i) { next := s.next + 1, fs := s.fs ++ [((s.next : Int), g)] } := by
  have hne : ∀ x ∈ s.fs, x.1 ≠ (s.next : Int) := fun x hx e => by have := h.ok.lt x hx; omega
  have htm : t ≠ mb := fun e => h.hm.ne h.ht e.symm
  refine ⟨?_, ?_, ?_, ?_, ?_, ?_, ?_, ?_⟩
  · have := (ht.kept k2 (fun e => e)).kept k3 htm
    simpa using this
  · have e : ((s.fs ++ [((s.next : Int), g)]).map fun x => (x.1, Value.pointer (some ⟨if x.1 = (s.next : Int) then nb else bl x.1, 0, none⟩))) = (s.fs.map fun x => (x.1, Value.pointer (some ⟨bl x.1, 0, none⟩))) ++ [((s.next : Int), Value.pointer (some ⟨nb, 0, none⟩))] := by
      rw [List.map_append]
      congr 1
      · exact List.map_congr_left (fun x hx => by simp [hne x hx])
      · simp
    show MapAt w3 mb ((s.fs ++ [((s.next : Int), g)]).map fun x => (x.1, Value.pointer (some ⟨if x.1 = (s.next : Int) then nb else bl x.1, 0, none⟩)))
    rw [e]; exact hm
  · intro x hx
    rcases List.mem_append.1 hx with hx | hx
    · show Blk w3 (if x.1 = (s.next : Int) then nb else bl x.1) _ _
      rw [if_neg (hne x hx)]
      have hbx := h.hb x hx
      have h1 := hbx.kept k1 (fun e => hbx.ne h.ht (by decide) e)
      have h2 := h1.kept k2 (fun e => e)
      exact h2.kept k3 (fun e => h.hm.ne hbx e.symm)
    · obtain rfl := List.mem_singleton.1 hx
      show Blk w3 (if (s.next : Int) = (s.next : Int) then nb else bl s.next) _ _
      rw [if_pos rfl]
      exact hb.kept k3 (fun e => by have := h.hm.lt; omega)
  · intro x hx y hy e
    change (if x.1 = (s.next : Int) then nb else bl x.1) = (if y.1 = (s.next : Int) then nb else bl y.1) at e
    rcases List.mem_append.1 hx with hx | hx <;> rcases List.mem_append.1 hy with hy | hy
    · rw [if_neg (hne x hx), if_neg (hne y hy)] at e; exact h.inj x hx y hy e
    · obtain rfl := List.mem_singleton.1 hy
      rw [if_neg (hne x hx), if_pos rfl] at e
      have := (h.hb x hx).lt; omega
    · obtain rfl := List.mem_singleton.1 hx
      rw [if_neg (hne y hy), if_pos rfl] at e
      have := (h.hb y hy).lt; omega
    · obtain rfl := List.mem_singleton.1 hx
      obtain rfl := List.mem_singleton.1 hy
      rfl
  · intro x hx
    rcases List.mem_append.1 hx with hx | hx
    · exact h.ok.fac x hx
    · obtain rfl := List.mem_singleton.1 hx; exact hg
  · show ((s.fs ++ [((s.next : Int), g)]).map (·.1)).Nodup
    rw [List.map_append, List.nodup_append]
    refine ⟨h.ok.nd, by simp, ?_⟩
    intro a ha b hb
    obtain ⟨x, hx, rfl⟩ := List.mem_map.1 ha
    simp at hb; subst hb
    exact hne x hx
  · intro x hx
    show 0 ≤ x.1 ∧ x.1 < ((s.next + 1 : Nat) : Int)
    rcases List.mem_append.1 hx with hx | hx
    · have := h.ok.lt x hx; omega
    · obtain rfl := List.mem_singleton.1 hx
      show 0 ≤ (s.next : Int) ∧ (s.next : Int) < _
      omega
  · intro x hx
    show x.2.kids < ((s.next + 1 : Nat) : Int)
    rcases List.mem_append.1 hx with hx | hx
    · have := h.ok.kn x hx; omega
    · obtain rfl := List.mem_singleton.1 hx
      show g.kids < _
      omega
end Go.Proofs.YtbkliamhignmfaaGreatDoor
