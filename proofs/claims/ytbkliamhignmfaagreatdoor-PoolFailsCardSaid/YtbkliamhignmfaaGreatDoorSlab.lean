/- Layer 4: a cache of places. -/
import Derived.Test.YtbkliamhignmfaaGreatDoorProg
import Derived.Test.YtbkliamhignmfaaGreatDoorSlabD
import Derived.Test.YtbkliamhignmfaaGreatDoorBitmapN
import Derived.Test.YtbkliamhignmfaaGreatDoorBuddyN
import Derived.Deep.QuietTactic
import Derived.BigQuiet
import Derived.Deep.RegionWith
namespace Go.Proofs.YtbkliamhignmfaaGreatDoor
open Go.RowKit

abbrev TCa : TypeId := 130
def pcell (bp : Nat → Nat) (p : Pg) : List Value := [.pointer (some ⟨bp p.at_, 0, none⟩), .int .i64 (p.at_ : Nat)]
def pcells (bp : Nat → Nat) (l : List Pg) : List Value := l.flatMap (pcell bp)
theorem pcells_length (bp : Nat → Nat) (l : List Pg) : (pcells bp l).length = l.length * 2 := by
  induction l with
  | nil => rfl
  | cons p t ih => simp only [pcells, List.flatMap_cons, List.length_append, List.length_cons] at ih ⊢; rw [ih]; simp [pcell]; omega
theorem pcells_get (bp : Nat → Nat) : ∀ (l : List Pg) (i : Nat) (h : i < l.length), (pcells bp l)[i * 2]? = some (.pointer (some ⟨bp l[i].at_, 0, none⟩)) ∧ (pcells bp l)[i * 2 + 1]? = some (.int .i64 (l[i].at_ : Nat))
  | p :: t, 0, _ => ⟨rfl, rfl⟩
  | p :: t, i + 1, h => by
    have := pcells_get bp t i (by simpa using h)
    have e : pcells bp (p :: t) = pcell bp p ++ pcells bp t := rfl
    rw [e, show (i + 1) * 2 = 2 + i * 2 by omega, show 2 + i * 2 + 1 = 2 + (i * 2 + 1) by omega]
    constructor
    · rw [List.getElem?_append_right (by simp [pcell])]
      simpa [pcell] using this.1
    · rw [List.getElem?_append_right (by simp [pcell])]
      have e2 : 2 + (i * 2 + 1) - (pcell bp p).length = i * 2 + 1 := by simp [pcell]
      rw [e2]; simpa using this.2
theorem pcells_append (bp : Nat → Nat) (a b : List Pg) : pcells bp (a ++ b) = pcells bp a ++ pcells bp b := by simp [pcells]
theorem pcells_take (bp : Nat → Nat) (l : List Pg) (k : Nat) : (pcells bp l).take (k * 2) = pcells bp (l.take k) := by
  by_cases hk : k ≤ l.length
  · conv => lhs; rw [← List.take_append_drop k l, pcells_append]
    exact List.take_left' (by rw [pcells_length, List.length_take]; omega)
  · rw [List.take_of_length_le (by rw [pcells_length]; omega), List.take_of_length_le (by omega)]
theorem pcells_drop (bp : Nat → Nat) (l : List Pg) (k : Nat) : (pcells bp l).drop (k * 2) = pcells bp (l.drop k) := by
  by_cases hk : k ≤ l.length
  · conv => lhs; rw [← List.take_append_drop k l, pcells_append]
    exact List.drop_left' (by rw [pcells_length, List.length_take]; omega)
  · rw [List.drop_eq_nil_of_le (by rw [pcells_length]; omega), List.drop_eq_nil_of_le (by omega)]; rfl
theorem pcells_congr {bp bp' : Nat → Nat} {l : List Pg} (h : ∀ p ∈ l, bp p.at_ = bp' p.at_) : pcells bp l = pcells bp' l := by
  induction l with
  | nil => rfl
  | cons p t ih =>
    have e : ∀ b, pcells b (p :: t) = pcell b p ++ pcells b t := fun _ => rfl
    rw [e, e, ih (fun q hq => h q (by simp [hq]))]
    unfold pcell
    rw [h p (by simp)]
theorem pcells_one (bp : Nat → Nat) (l : List Pg) : ∀ u ∈ pcells bp l, u.oneCell' = true := by
  intro u hu
  obtain ⟨p, _, h⟩ := List.mem_flatMap.1 hu
  simp [pcell] at h
  rcases h with rfl | rfl <;> rfl

structure SS where
  size : Nat
  l : List Pg
structure SS.ok (s : SS) : Prop where
  s0 : 16 ≤ s.size
  s1 : s.size ≤ 512
  many : ∀ p ∈ s.l, p.bits.length = 960 / s.size
  rise : rising s.l
  al : ∀ p ∈ s.l, p.at_ % 1024 = 0 ∧ p.at_ < 1073741824

theorem rising_at {l : List Pg} (h : rising l) : ∀ (i : Nat) (hi : i < l.length), i ≤ l[i].at_ := by
  intro i
  induction i with
  | zero => intro _; exact Nat.zero_le _
  | succ i ih => intro hi; have := ih (by omega); have := rising_get h hi (show i < i + 1 by omega); omega
theorem SS.ok.len {s : SS} (h : s.ok) : s.l.length ≤ 1073741824 := by
  by_cases h0 : s.l.length = 0
  · omega
  · have := rising_at h.rise (s.l.length - 1) (by omega)
    have := (h.al (s.l[s.l.length - 1]'(by omega)) (List.getElem_mem _)).2
    omega

/-- At block c lies a cache over the allocator at pb. -/
structure CT (w : World) (c pb : Nat) (v : Value) (bp bq : Nat → Nat) (s : SS) : Prop where
  hc : Blk w c [.pointer (some ⟨pb, 0, none⟩), .int .i64 (s.size : Nat), v] TCa
  row : w.ownsRow 0 TPg 2 v s.l.length (pcells bp s.l)
  pg : ∀ p ∈ s.l, BM w (bp p.at_) (bq p.at_) p.bits
  inj : ∀ p ∈ s.l, ∀ q ∈ s.l, bq p.at_ = bq q.at_ → p.at_ = q.at_
  ok : s.ok
def CF (c : Nat) (v : Value) (bp bq : Nat → Nat) (s : SS) (b : Nat) : Prop := b = c ∨ v.ownBlock = some b ∨ ∃ p ∈ s.l, b = bp p.at_ ∨ b = bq p.at_

theorem ownsRow_kept {F : Nat → Prop} {w w' : World} {base : Nat} {E : TypeId} {k : Nat} {v : Value} {n : Nat} {xs : List Value} (h : w.ownsRow base E k v n xs) (K : Kept F w w') (hn : ∀ b, v.ownBlock = some b → ¬ F b) : w'.ownsRow base E k v n xs := by
  refine ⟨h.1, ?_⟩
  rcases h.2 with ⟨e, e0⟩ | ⟨g, cap, cur, e, h1, h2, h3⟩
  · exact .inl ⟨e, e0⟩
  · exact .inr ⟨g, cap, cur, e, h1, K.some h2 (hn g (by rw [e]; rfl)), h3⟩
theorem ownsRow_blk {w : World} {base : Nat} {E : TypeId} {k : Nat} {v : Value} {n : Nat} {xs : List Value} (h : w.ownsRow base E k v n xs) {b : Nat} (hb : v.ownBlock = some b) : ∃ cs, Blk w b cs E := by
  rcases h.2 with ⟨e, e0⟩ | ⟨g, cap, cur, e, h1, h2, h3⟩
  · rw [e] at hb; cases hb
  · rw [e] at hb; cases hb; exact ⟨cur.toList, by simpa [Blk] using h2⟩

theorem CT.kept {F : Nat → Prop} {w w' : World} {c pb : Nat} {v : Value} {bp bq : Nat → Nat} {s : SS} (h : CT w c pb v bp bq s) (K : Kept F w w') (hF : ∀ b, CF c v bp bq s b → ¬ F b) : CT w' c pb v bp bq s :=
  ⟨h.hc.kept K (hF _ (.inl rfl)), ownsRow_kept h.row K (fun b hb => hF b (.inr (.inl hb))), fun p hp => (h.pg p hp).kept K (hF _ (.inr (.inr ⟨p, hp, .inl rfl⟩))) (hF _ (.inr (.inr ⟨p, hp, .inr rfl⟩))), h.inj, h.ok⟩
theorem CT.keptNo {w w' : World} {c pb : Nat} {v : Value} {bp bq : Nat → Nat} {s : SS} (h : CT w c pb v bp bq s) (K : Kept NoB w w') : CT w' c pb v bp bq s := h.kept K (fun _ _ h => h)
theorem CT.flt {w : World} {c pb : Nat} {v : Value} {bp bq : Nat → Nat} {s : SS} (h : CT w c pb v bp bq s) {b : Nat} (hb : CF c v bp bq s b) : b < w.heap.size := by
  rcases hb with rfl | hb | ⟨p, hp, rfl | rfl⟩
  · exact h.hc.lt
  · obtain ⟨cs, hcs⟩ := ownsRow_blk h.row hb; exact hcs.lt
  · exact (h.pg p hp).hp.lt
  · exact (h.pg p hp).hq.lt

/-- The slice's form, and its pages. -/
theorem CT.form {w : World} {c pb : Nat} {v : Value} {bp bq : Nat → Nat} {s : SS} (h : CT w c pb v bp bq s) : ∃ a cap, v = .slice a s.l.length cap ∧ PgAt w a bp s.l := by
  rcases h.row.2 with ⟨e, e0⟩ | ⟨g, cap, cur, e, h1, h2, h3, h4, h5, h6⟩
  · exact ⟨none, 0, by rw [e, e0], fun i hi => by omega⟩
  · refine ⟨some ⟨g, 0, none⟩, cap, e, fun i hi => ?_⟩
    have hb : Blk w g cur.toList TPg := by simpa [Blk] using h2
    have hlt : g < w.heap.size := hb.lt
    have hx : ∀ j x, (pcells bp s.l)[j]? = some x → w.cell? ⟨g, j, none⟩ = some x := fun j x hj => by
      have hj' : j < s.l.length * 2 := by rw [← pcells_length bp]; exact (List.getElem?_eq_some_iff.1 hj).1
      rw [hb.cell, ← hj, ← h6, List.getElem?_take, if_pos hj']
    exact ⟨g, rfl, hlt, hx _ _ (pcells_get bp s.l i hi).1, hx _ _ (pcells_get bp s.l i hi).2⟩

theorem slab_Many (c pb : Nat) (v : Value) (bp bq : Nat → Nat) (s : SS) (w : World) (h : CT w c pb v bp bq s) :
    Calls Tryz.prog 68 #[.pointer (some ⟨c, 0, none⟩)] w fun e w' => e = .returned (.int .i64 (960 / s.size : Nat)) ∧ w = w' := by
  have h1 := h.hc.cell 1
  have s0 := h.ok.s0
  have s1 := h.ok.s1
  go_enter Tryz.func68, Tryz.ntmps68
  go_wp2
  go_ret
  exact ⟨rfl, rfl⟩

theorem slab_place (c : Nat) (u v : Value) (s : SS) (x : Value) (a i : Nat) (w : World) (hc : Blk w c [u, .int .i64 (s.size : Nat), v] TCa) (ok : s.ok) (ha : a < 1073741824) (hi : i < 960 / s.size) :
    Calls Tryz.prog 66 #[.pointer (some ⟨c, 0, none⟩), .agg #[x, .int .i64 (a : Nat)], .int .i64 (i : Nat)] w fun e w' => e = .returned (.int .i64 (a + 64 + i * s.size : Nat)) ∧ Kept NoB w w' := by
  have h1 := (hc.alloc (.cells #[x, .int .i64 (a : Nat)] TPg)).cell 1
  have s0 := ok.s0
  have s1 := ok.s1
  have hlt := hc.lt
  have hm : i * s.size ≤ 960 := by
    have := Nat.div_mul_le_self 960 s.size
    have := Nat.mul_le_mul_right s.size (Nat.le_of_lt hi)
    omega
  have e1 : IntKind.i64.wrap ((a : Int) + 64) = (a : Int) + 64 := by rw [IntKind.wrap_i64]; omega
  have e2 : IntKind.i64.wrap ((i : Int) * (s.size : Int)) = (i : Int) * (s.size : Int) := by
    have : ((i : Int) * (s.size : Int)) = ((i * s.size : Nat) : Int) := by push_cast; rfl
    rw [this, IntKind.wrap_i64]; omega
  have e3 : IntKind.i64.wrap ((a : Int) + 64 + (i : Int) * (s.size : Int)) = ((a + 64 + i * s.size : Nat) : Int) := by
    have : ((a : Int) + 64 + (i : Int) * (s.size : Int)) = ((a + 64 + i * s.size : Nat) : Int) := by push_cast; rfl
    rw [this, IntKind.wrap_i64]; omega
  have H := Lib.hid hc
  clear hc hm
  go_enter Tryz.func66, Tryz.ntmps66
  go_wp2
  go_quiet (fail)
  go_wp2
  go_ret
  exact ⟨rfl, Kept.drewN (Kept.alloc (Kept.refl _ _) _) _⟩
end Go.Proofs.YtbkliamhignmfaaGreatDoor
