/- Layer 5: what each function of package quota does, of a list of factories. -/
import Derived.Test.YtbkliamhignmfaaGreatDoorQuotaW
namespace Go.Proofs.YtbkliamhignmfaaGreatDoor
open Go.RowKit

def fget (l : List (Int × Fac)) (id : Int) : Option Fac :=
  match l with
  | [] => none
  | (a, f) :: t => if a = id then some f else fget t id
def fset (l : List (Int × Fac)) (id : Int) (g : Fac) : List (Int × Fac) :=
  match l with
  | [] => []
  | (a, f) :: t => if a = id then (a, g) :: t else (a, f) :: fset t id g
theorem fget_mem : ∀ {l : List (Int × Fac)} {id : Int} {f : Fac}, fget l id = some f → (id, f) ∈ l
  | (a, g) :: t, id, f, h => by
    simp only [fget] at h
    split at h
    · rename_i e; subst e; cases h; exact List.mem_cons_self
    · exact List.mem_cons_of_mem _ (fget_mem h)
theorem fset_keys : ∀ (l : List (Int × Fac)) (id : Int) (g : Fac), (fset l id g).map (·.1) = l.map (·.1)
  | [], _, _ => rfl
  | (a, f) :: t, id, g => by
    simp only [fset]; split
    · rfl
    · simp only [List.map_cons, fset_keys t id g]
theorem fset_mem : ∀ {l : List (Int × Fac)} {id : Int} {g : Fac} {x : Int × Fac}, (l.map (·.1)).Nodup → x ∈ fset l id g → (x = (id, g)) ∨ (x ∈ l ∧ x.1 ≠ id)
  | (a, f) :: t, id, g, x, hn, h => by
    simp only [List.map_cons, List.nodup_cons] at hn
    simp only [fset] at h
    split at h
    · rename_i e; subst e
      rcases List.mem_cons.1 h with rfl | h
      · exact Or.inl rfl
      · refine Or.inr ⟨List.mem_cons_of_mem _ h, fun e => hn.1 ?_⟩
        rw [← e]; exact List.mem_map.2 ⟨x, h, rfl⟩
    · rename_i e
      rcases List.mem_cons.1 h with rfl | h
      · exact Or.inr ⟨List.mem_cons_self, e⟩
      · rcases fset_mem hn.2 h with h | ⟨h1, h2⟩
        · exact Or.inl h
        · exact Or.inr ⟨List.mem_cons_of_mem _ h1, h2⟩
theorem aget_ptr (bl : Int → Nat) (id : Int) : ∀ (l : List (Int × Fac)), aget (l.map fun x => (x.1, .pointer (some ⟨bl x.1, 0, none⟩))) id = (fget l id).map fun _ => .pointer (some ⟨bl id, 0, none⟩)
  | [] => rfl
  | (a, f) :: t => by
    simp only [List.map_cons, aget, fget]
    by_cases e : a = id
    · subst e; simp
    · simp only [e, if_false]; exact aget_ptr bl id t

/-- A tree of factories. -/
structure QS where
  next : Nat
  fs : List (Int × Fac)
structure QS.ok (s : QS) : Prop where
  fac : ∀ x ∈ s.fs, x.2.ok
  nd : (s.fs.map (·.1)).Nodup
  lt : ∀ x ∈ s.fs, 0 ≤ x.1 ∧ x.1 < s.next
  kn : ∀ x ∈ s.fs, x.2.kids < s.next
structure QT (w : World) (t mb : Nat) (bl : Int → Nat) (s : QS) : Prop where
  ht : Blk w t [.map (some mb), .int .i64 (s.next : Nat)] 101
  hm : MapAt w mb (s.fs.map fun x => (x.1, .pointer (some ⟨bl x.1, 0, none⟩)))
  hb : ∀ x ∈ s.fs, Blk w (bl x.1) x.2.cells 98
  inj : ∀ x ∈ s.fs, ∀ y ∈ s.fs, bl x.1 = bl y.1 → x.1 = y.1
  ok : s.ok
/-- Its blocks. -/
def QF (t mb : Nat) (bl : Int → Nat) (s : QS) (b : Nat) : Prop := b = t ∨ b = mb ∨ ∃ x ∈ s.fs, b = bl x.1

theorem QT.kept {F : Nat → Prop} {w w' : World} {t mb : Nat} {bl : Int → Nat} {s : QS} (h : QT w t mb bl s) (k : Kept F w w') (hF : ∀ b, QF t mb bl s b → ¬ F b) : QT w' t mb bl s :=
  ⟨h.ht.kept k (hF _ (Or.inl rfl)), h.hm.kept k (hF _ (Or.inr (Or.inl rfl))), fun x hx => (h.hb x hx).kept k (hF _ (Or.inr (Or.inr ⟨x, hx, rfl⟩))), h.inj, h.ok⟩
theorem QT.keptNo {w w' : World} {t mb : Nat} {bl : Int → Nat} {s : QS} (h : QT w t mb bl s) (k : Kept NoB w w') : QT w' t mb bl s := h.kept k (fun _ _ h => h)
theorem QT.flt {w : World} {t mb : Nat} {bl : Int → Nat} {s : QS} (h : QT w t mb bl s) {b : Nat} (hb : QF t mb bl s b) : b < w.heap.size := by
  rcases hb with rfl | rfl | ⟨x, hx, rfl⟩
  · exact h.ht.lt
  · exact h.hm.lt
  · exact (h.hb x hx).lt

theorem QT.write {w : World} {t mb : Nat} {bl : Int → Nat} {s : QS} (h : QT w t mb bl s) {id : Int} {f g : Fac} (hf : fget s.fs id = some f) (j : Nat) (v : Value) (hc : f.cells.set j v = g.cells) (hg : g.ok) (hgk : g.kids < s.next) :
    QT (w.setCell ⟨bl id, j, none⟩ v) t mb bl { s with fs := fset s.fs id g } := by
  have hm := fget_mem hf
  have hbl := h.hb _ hm
  have keys := fset_keys s.fs id g
  have mem : ∀ x, x ∈ fset s.fs id g → x = (id, g) ∨ (x ∈ s.fs ∧ x.1 ≠ id) := fun x hx => fset_mem h.ok.nd hx
  have memk : ∀ x ∈ fset s.fs id g, ∃ y ∈ s.fs, y.1 = x.1 := fun x hx => by
    rcases mem x hx with rfl | ⟨h1, _⟩
    · exact ⟨_, hm, rfl⟩
    · exact ⟨x, h1, rfl⟩
  refine ⟨?_, ?_, ?_, ?_, ?_, ?_, ?_, ?_⟩
  · exact h.ht.setCell_ne _ _ (fun e => hbl.ne h.ht (by decide) e)
  · have e : ((fset s.fs id g).map fun x => (x.1, Value.pointer (some ⟨bl x.1, 0, none⟩))) = (s.fs.map fun x => (x.1, Value.pointer (some ⟨bl x.1, 0, none⟩))) := by
      have := congrArg (List.map fun a => (a, Value.pointer (some ⟨bl a, 0, none⟩))) keys
      simpa [List.map_map, Function.comp_def] using this
    show MapAt _ mb ((fset s.fs id g).map fun x => (x.1, .pointer (some ⟨bl x.1, 0, none⟩)))
    rw [e]
    exact h.hm.setCell_ne _ _ (fun e => h.hm.ne hbl e.symm)
  · intro x hx
    rcases mem x hx with rfl | ⟨h1, h2⟩
    · show Blk _ (bl id) g.cells _
      rw [← hc]; exact hbl.setCell _ _
    · exact (h.hb x h1).setCell_ne _ _ (fun e => h2 (h.inj x h1 _ hm e.symm))
  · intro x hx y hy e
    obtain ⟨x', hx', ex⟩ := memk x hx
    obtain ⟨y', hy', ey⟩ := memk y hy
    rw [← ex, ← ey] at e ⊢
    exact h.inj x' hx' y' hy' e
  · intro x hx
    rcases mem x hx with rfl | ⟨h1, _⟩
    · exact hg
    · exact h.ok.fac x h1
  · show ((fset s.fs id g).map (·.1)).Nodup
    rw [keys]; exact h.ok.nd
  · intro x hx
    obtain ⟨x', hx', ex⟩ := memk x hx
    rw [← ex]; exact h.ok.lt x' hx'
  · intro x hx
    rcases mem x hx with rfl | ⟨h1, _⟩
    · exact hgk
    · exact h.ok.kn x h1

theorem zptr (w : World) : (zeroValue 92).run Tryz.prog w = .ok (.pointer none) w := by kernel_rfl

/-- 't.at(id)'. -/
theorem quota_at (t mb : Nat) (bl : Int → Nat) (s : QS) (id : Int) (w : World) (h : QT w t mb bl s) :
    Calls Tryz.prog 52 #[.pointer (some ⟨t, 0, none⟩), .int .i64 id] w fun e w' =>
      e = .returned (match fget s.fs id with | some _ => .tuple #[.pointer (some ⟨bl id, 0, none⟩), .int .i64 0] | none => .tuple #[.pointer none, .int .i64 6]) ∧ w = w' := by
  have h0 := h.ht.cell 0
  have hlk := h.hm.lookup (P := Tryz.prog) Tryz.underlying99 Tryz.underlying3 (zptr w) id
  rw [aget_ptr] at hlk
  cases hf : fget s.fs id with
  | none =>
    rw [hf] at hlk
    simp only [Option.map_none, Option.getD_none] at hlk
    clear hf
    go_enter Tryz.func52, Tryz.ntmps52
    go_wp2
    go_ret2
    exact ⟨rfl, rfl⟩
  | some f =>
    rw [hf] at hlk
    simp only [Option.map_some, Option.getD_some] at hlk
    clear hf
    go_enter Tryz.func52, Tryz.ntmps52
    go_wp2
    go_ret2
    exact ⟨rfl, rfl⟩
theorem quota_at_none (t mb : Nat) (bl : Int → Nat) (s : QS) (id : Int) (w : World) (h : QT w t mb bl s) (hf : fget s.fs id = none) :
    Calls Tryz.prog 52 #[.pointer (some ⟨t, 0, none⟩), .int .i64 id] w fun e w' =>
      e = .returned (.tuple #[.pointer none, .int .i64 6]) ∧ w = w' := by
  have := quota_at t mb bl s id w h
  rw [hf] at this; exact this
theorem quota_at_some (t mb : Nat) (bl : Int → Nat) (s : QS) (id : Int) (f : Fac) (w : World) (h : QT w t mb bl s) (hf : fget s.fs id = some f) :
    Calls Tryz.prog 52 #[.pointer (some ⟨t, 0, none⟩), .int .i64 id] w fun e w' =>
      e = .returned (.tuple #[.pointer (some ⟨bl id, 0, none⟩), .int .i64 0]) ∧ w = w' := by
  have := quota_at t mb bl s id w h
  rw [hf] at this; exact this
end Go.Proofs.YtbkliamhignmfaaGreatDoor
