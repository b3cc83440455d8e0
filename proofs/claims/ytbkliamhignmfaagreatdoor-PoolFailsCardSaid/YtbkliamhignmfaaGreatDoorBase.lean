/- What a call leaves as it was: blocks, and sets of blocks that may turn. No program. -/
import Derived.WalkKit
import Derived.WalkSpells
import Derived.WalkLawsBesides
import Derived.Deep.QuietTactic
import Derived.BigQuiet
import Derived.Lib.Hide
namespace Go.Proofs.YtbkliamhignmfaaGreatDoor
open Go.RowKit

/-- Outside of the blocks of F the world w' is as w was; new blocks may have come. -/
structure Kept (F : Nat → Prop) (w w' : World) : Prop where
  os : w'.os = w.os
  tape : w'.tape = w.tape
  output : w'.output = w.output
  size : w.heap.size ≤ w'.heap.size
  block : ∀ k, k < w.heap.size → ¬ F k → w'.heap[k]? = w.heap[k]?

def NoB : Nat → Prop := fun _ => False

theorem Kept.refl (F : Nat → Prop) (w : World) : Kept F w w := ⟨rfl, rfl, rfl, Nat.le_refl _, fun _ _ _ => rfl⟩
theorem Kept.trans' {F G H : Nat → Prop} {a b c : World} (h : Kept F a b) (k : Kept G b c) (hF : ∀ x, x < a.heap.size → F x → H x) (hG : ∀ x, x < a.heap.size → G x → H x) : Kept H a c :=
  ⟨k.os.trans h.os, k.tape.trans h.tape, k.output.trans h.output, Nat.le_trans h.size k.size, fun i hi hn =>
    (k.block i (Nat.lt_of_lt_of_le hi h.size) (fun e => hn (hG i hi e))).trans (h.block i hi (fun e => hn (hF i hi e)))⟩
theorem Kept.trans {F : Nat → Prop} {a b c : World} (h : Kept F a b) (k : Kept F b c) : Kept F a c := h.trans' k (fun _ _ h => h) (fun _ _ h => h)
theorem Kept.mono {F G : Nat → Prop} {a b : World} (h : Kept F a b) (hF : ∀ x, F x → G x) : Kept G a b :=
  ⟨h.os, h.tape, h.output, h.size, fun i hi hn => h.block i hi (fun e => hn (hF i e))⟩
/-- A step behind which only new blocks turned. -/
theorem Kept.andNew {F G : Nat → Prop} {a b c : World} (h : Kept F a b) (k : Kept G b c) (hG : ∀ x, G x → F x ∨ a.heap.size ≤ x) : Kept F a c :=
  h.trans' k (fun _ _ h => h) (fun x hx h => (hG x h).resolve_right (by omega))
theorem Kept.drew {F : Nat → Prop} {a b : World} (h : Kept F a b) : Kept F a b.drew := ⟨h.os, h.tape, h.output, h.size, h.block⟩
theorem Kept.drewN {F : Nat → Prop} {a b : World} (h : Kept F a b) (n : Nat) : Kept F a (b.drewN n) := ⟨h.os, h.tape, h.output, h.size, h.block⟩
theorem Kept.alloc {F : Nat → Prop} {a b : World} (h : Kept F a b) (o : Obj) : Kept F a (b.alloc o) :=
  h.andNew (G := NoB) ⟨rfl, rfl, rfl, by simp, fun k hk _ => Below.heap_alloc _ _ _ hk⟩ (fun _ h => h.elim)
theorem Kept.setCell {F : Nat → Prop} {a b : World} (h : Kept F a b) (p : Addr) (u : Value) (hp : F p.block ∨ a.heap.size ≤ p.block) : Kept F a (b.setCell p u) :=
  h.andNew (G := fun x => x = p.block) ⟨rfl, rfl, rfl, by simp [World.setCell], fun k _ hn => Below.heap_setCell _ _ _ _ hn⟩ (fun x e => by subst e; exact hp)
theorem Kept.grown {F : Nat → Prop} {a b c : World} {row : Option Nat} (h : Kept F a b) (hg : b.grownBy c row) (hr : ∀ k, row = some k → F k ∨ a.heap.size ≤ k) : Kept F a c :=
  h.andNew (G := fun x => row = some x) ⟨hg.os, hg.tape, hg.output, hg.size, fun k hk hn => hg.block k hk (fun e => hn e.symm)⟩ hr
theorem Kept.below {F : Nat → Prop} {a b : World} (h : Kept F a b) (B : Nat) (hB : B ≤ a.heap.size) (hF : ∀ x, x < B → ¬ F x) : Below B a b :=
  ⟨h.os, h.tape, h.output, h.size, fun k hk => h.block k (by omega) (hF k hk)⟩
theorem Kept.some {F : Nat → Prop} {a b : World} (h : Kept F a b) {k : Nat} {o : Obj} (ho : a.heap[k]? = some o) (hn : ¬ F k) : b.heap[k]? = some o :=
  (h.block k (Array.getElem?_eq_some_iff.1 ho).1 hn).trans ho

/-- Block b holds these cells, and may be written. -/
def Blk (w : World) (b : Nat) (cs : List Value) (E : TypeId) : Prop := w.heap[b]? = some (.cells cs.toArray E (0, 0))

theorem Blk.lt {w : World} {b : Nat} {cs : List Value} {E : TypeId} (h : Blk w b cs E) : b < w.heap.size := (Array.getElem?_eq_some_iff.1 h).1
theorem Blk.cell {w : World} {b : Nat} {cs : List Value} {E : TypeId} (h : Blk w b cs E) (j : Nat) : w.cell? ⟨b, j, none⟩ = cs[j]? := by
  simp [World.cell?, show w.heap[b]? = _ from h]
theorem Blk.frozen {w : World} {b : Nat} {cs : List Value} {E : TypeId} (h : Blk w b cs E) (j : Nat) : w.frozen? ⟨b, j, none⟩ = false := by
  simp [World.frozen?, show w.heap[b]? = _ from h]
theorem Blk.kept {F : Nat → Prop} {w w' : World} {b : Nat} {cs : List Value} {E : TypeId} (h : Blk w b cs E) (k : Kept F w w') (hn : ¬ F b) : Blk w' b cs E := k.some h hn
theorem Blk.drew {w : World} {b : Nat} {cs : List Value} {E : TypeId} (h : Blk w b cs E) : Blk w.drew b cs E := h
theorem Blk.drewN {w : World} {b : Nat} {cs : List Value} {E : TypeId} (h : Blk w b cs E) (n : Nat) : Blk (w.drewN n) b cs E := h
theorem Blk.alloc {w : World} {b : Nat} {cs : List Value} {E : TypeId} (h : Blk w b cs E) (o : Obj) : Blk (w.alloc o) b cs E :=
  h.kept (Kept.alloc (Kept.refl NoB w) o) (fun e => e)
theorem Blk.new (w : World) (cs : List Value) (E : TypeId) : Blk (w.alloc (.cells cs.toArray E (0, 0))) w.heap.size cs E := by
  show (w.heap.push _)[w.heap.size]? = _
  rw [Array.getElem?_push, if_pos rfl]
theorem Blk.setCell {w : World} {b : Nat} {cs : List Value} {E : TypeId} (h : Blk w b cs E) (j : Nat) (v : Value) : Blk (w.setCell ⟨b, j, none⟩ v) b (cs.set j v) E := by
  unfold Blk at h ⊢
  simp [World.setCell, Array.getElem?_modify, h]
theorem Blk.setCell_ne {w : World} {b : Nat} {cs : List Value} {E : TypeId} (h : Blk w b cs E) (p : Addr) (v : Value) (hn : p.block ≠ b) : Blk (w.setCell p v) b cs E := by
  unfold Blk at h ⊢
  rw [Below.heap_setCell _ _ _ _ (fun e => hn e.symm), h]
theorem Blk.ne {w : World} {b c : Nat} {cs ds : List Value} {E F : TypeId} (h : Blk w b cs E) (k : Blk w c ds F) (hn : E ≠ F) : b ≠ c := by
  intro e; subst e
  unfold Blk at h k
  rw [h] at k
  simp at k
  exact hn k.2

end Go.Proofs.YtbkliamhignmfaaGreatDoor
