/- Rows of elements of k cells: copy, clear, append, at run. No program. -/
import Derived.Test.YtbkliamhignmfaaGreatDoorBase
import Derived.Deep.AppendSrc
import Derived.Lib.AppendZerosOnto
import Derived.Lib.SliceRun
import Derived.Lib.Overlaps
import Derived.Laws.CopyOwn
import Derived.Laws.IdiomCopy
namespace Go.Proofs.YtbkliamhignmfaaGreatDoor
open Go.RowKit
variable {P : Program}

theorem run_copy_k (w : World) (dT sT ty elem : TypeId) (k b o dLen dCap : Nat) (a : Addr) (sLen sCap m : Nat) (cs : List Value)
    (hu : P.underlying dT = some (.slice elem)) (hs : (P.info? elem).map (·.size) = some k) (hm : Nat.min sLen dLen = m) (hn : cs.length = m * k)
    (hsrc : ∀ j v, cs[j]? = some v → w.cell? (a.add j) = some v) (hc : ∀ j, j < cs.length → (w.cell? ⟨b, o + j, none⟩).isSome = true) (hf : ∀ j, j < cs.length → w.frozen? ⟨b, o + j, none⟩ = false) (h1 : ∀ v ∈ cs, v.oneCell' = true) :
    (Builtin.copy_ #[dT, sT] ty #[.slice (some ⟨b, o, none⟩) dLen dCap, .slice (some a) sLen sCap]).run P w = .ok (goInt m) (w.setCells b o cs) := by
  have hl := run_loadCells_list (P := P) w a cs hsrc
  have hst := run_storeCells_cells (P := P) b o cs 0 w (by simpa using hc) (by simpa using hf) h1
  cases hq : P.info? elem with
  | none => simp [hq] at hs
  | some i =>
    have hi : i.size = k := by simpa [hq] using hs
    simp [Builtin.copy_, run_underlying hu, Builtin.lenOf, Builtin.firstCells, sizeOf, typeInfo, hq, hi, hm, ← hn, hl, hst]

theorem Blk.setCells {b : Nat} {E : TypeId} : ∀ (vs : List Value) (o : Nat) {w : World} {cs : List Value}, Blk w b cs E → o + vs.length ≤ cs.length → Blk (w.setCells b o vs) b (splice cs o vs) E
  | [], o, w, cs, h, _ => by simpa [World.setCells, splice] using h
  | v :: r, o, w, cs, h, hl => by
    have := Blk.setCells r (o + 1) (h.setCell o v) (by simp at hl ⊢; omega)
    rw [World.setCells]
    have e : splice (cs.set o v) (o + 1) r = splice cs o (v :: r) := by
      unfold splice
      have := list_seg_step cs o v r (by simpa using hl)
      simp only [List.append_assoc] at this
      simpa [Nat.add_assoc, Nat.add_comm] using this
    rw [← e]; exact this

theorem setCells_other (b : Nat) : ∀ (vs : List Value) (o : Nat) (w : World) (k : Nat), k ≠ b → (w.setCells b o vs).heap[k]? = w.heap[k]?
  | [], _, _, _, _ => rfl
  | v :: r, o, w, k, h => by rw [World.setCells, setCells_other b r (o + 1) _ k h, Below.heap_setCell _ _ _ _ h]
theorem setCells_size (b : Nat) : ∀ (vs : List Value) (o : Nat) (w : World), (w.setCells b o vs).heap.size = w.heap.size
  | [], _, _ => rfl
  | v :: r, o, w => by rw [World.setCells, setCells_size b r]; simp [World.setCell]
theorem setCells_rest (b : Nat) : ∀ (vs : List Value) (o : Nat) (w : World), (w.setCells b o vs).os = w.os ∧ (w.setCells b o vs).tape = w.tape ∧ (w.setCells b o vs).output = w.output
  | [], _, _ => ⟨rfl, rfl, rfl⟩
  | v :: r, o, w => by rw [World.setCells]; exact setCells_rest b r _ _
theorem Kept.setCells {F : Nat → Prop} {a b : World} (h : Kept F a b) (g o : Nat) (vs : List Value) (hg : F g ∨ a.heap.size ≤ g) : Kept F a (b.setCells g o vs) :=
  h.andNew (G := fun x => x = g) ⟨(setCells_rest g vs o b).1, (setCells_rest g vs o b).2.1, (setCells_rest g vs o b).2.2, Nat.le_of_eq (setCells_size g vs o b).symm, fun k _ hn => setCells_other g vs o b k hn⟩ (fun x e => by subst e; exact hg)

theorem run_clear_k (w : World) (t e ty : TypeId) (z : Value) (k : Nat) (ht : P.underlying t = some (.slice e)) (hv : ∀ w, (zeroValue e).run P w = .ok z w) (hz : z.cells.size = k) (zs : List Value) (b o n c : Nat) (hn : 0 < n)
    (hzs : (Builtin.zeroCells z.cells n).toList = zs) (h1 : ∀ v ∈ zs, v.oneCell' = true)
    (hc : ∀ j, j < zs.length → (w.cell? ⟨b, o + j, none⟩).isSome = true) (hf : ∀ j, j < zs.length → w.frozen? ⟨b, o + j, none⟩ = false) :
    (Builtin.clear_ #[t] ty #[.slice (some ⟨b, o, none⟩) n c]).run P w = .ok (.tuple #[]) (w.setCells b o zs) := by
  have hst := run_storeCells_cells (P := P) b o zs 0 w (by simpa using hc) (by simpa using hf) h1
  simp only [Nat.add_zero] at hst
  obtain ⟨m, rfl⟩ : ∃ m, n = m + 1 := ⟨n - 1, by omega⟩
  simp [Builtin.clear_, run_underlying ht, hv, hzs, hst]

/-- copy, where its run is known by an equation. -/
theorem wp_copy_ran (w : World) {o : Oper} {a : Act} {K : Act → World → Prop} {Q : Exit → Act → World → Prop} (d s : Operand) (t t' : TypeId)
    (ho : o.op = .call { callee := .builtin .copy, args := #[d, s], argTypes := #[t, t'] }) (v u : Value) (hd : a.eval d = v) (hs : a.eval s = u) {v' : Value} {w' : World}
    (hr : (Builtin.copy_ #[t, t'] o.type #[v, u]).run P w = .ok v' w') (h : K (a.put o.dst v') w') : o.wp P a w K Q := by
  unfold Oper.wp execOp
  simp only [ho, resolve, invoke, builtin, Sem.run_bind, Sem.run_pure, Result.andThen_ok, List.map_toArray, List.map_cons, List.map_nil, hd, hs, hr]
  exact h
theorem wpList_copy_ran (w : World) {ops : Array Oper} {rest : List Oper} {o : Oper} {a : Act} {Q : Exit → Act → World → Prop} (hgd : o.guard = none) (d s : Operand) (t t' : TypeId)
    (ho : o.op = .call { callee := .builtin .copy, args := #[d, s], argTypes := #[t, t'] }) (v u : Value) (hd : a.eval d = v) (hs : a.eval s = u) {v' : Value} {w' : World}
    (hr : (Builtin.copy_ #[t, t'] o.type #[v, u]).run P w = .ok v' w') (h : wpList P ops Q rest (a.put o.dst v') w') : wpList P ops Q (o :: rest) a w :=
  wpList_plain hgd fun _ hK => wp_copy_ran w d s t t' ho v u hd hs hr (hK _ _ h)
theorem step_copy_ran {ops : Array Oper} {o : Oper} {a : Act} {w : World} {K : Act → World → Prop} {Q : Exit → Act → World → Prop} {E : Prop}
    (hg : o.guard = none) (d x : Operand) (dT sT : TypeId) (hop : o.op = Op.call { callee := Callee.builtin Builtin.copy, args := #[d, x], argTypes := #[dT, sT] })
    (v u : Value) (hd : a.eval d = v) (hx : a.eval x = u) {v' : Value} {w' : World} (hr : (Builtin.copy_ #[dT, sT] o.type #[v, u]).run P w = .ok v' w') (hK : K (a.put o.dst v') w') :
    if Region.wanted o (yielded ops a.tmps) = true then Oper.wp P o a w K Q else E := by
  have hw : Region.wanted o (yielded ops a.tmps) = true := by simp [Region.wanted, hg]
  rw [if_pos hw]
  exact wp_copy_ran w d x dT sT hop v u hd hx hr hK
theorem step_append_ran {ops : Array Oper} {o : Oper} {a : Act} {w : World} {K : Act → World → Prop} {Q : Exit → Act → World → Prop} {E : Prop}
    (hg : o.guard = none) (d x : Operand) (dT sT : TypeId) (hop : o.op = Op.call { callee := Callee.builtin Builtin.append, args := #[d, x], argTypes := #[dT, sT] })
    (v u : Value) (hd : a.eval d = v) (hx : a.eval x = u) {v' : Value} {w' : World} (hr : (Builtin.append_ #[dT, sT] o.type #[v, u]).run P w = .ok v' w') (hK : K (a.put o.dst v') w') :
    if Region.wanted o (yielded ops a.tmps) = true then Oper.wp P o a w K Q else E := by
  have hw : Region.wanted o (yielded ops a.tmps) = true := by simp [Region.wanted, hg]
  rw [if_pos hw]
  exact Lib.wp_append_run w d x dT sT hop v u hd hx _ _ hr hK

/-- Elements in a row: block g has room for c of k cells, the first n of which hold xs. -/
structure RowAt (w : World) (g c k : Nat) (E : TypeId) (xs all : List Value) : Prop where
  blk : Blk w g all E
  size : all.length = c * k
  le : xs.length ≤ all.length
  get : all.take xs.length = xs
theorem RowAt.cell {w : World} {g c k : Nat} {E : TypeId} {xs all : List Value} (h : RowAt w g c k E xs all) (j : Nat) (v : Value) (hv : xs[j]? = some v) : w.cell? ⟨g, j, none⟩ = some v := by
  rw [h.blk.cell, ← hv]
  have hj : j < xs.length := (List.getElem?_eq_some_iff.1 hv).1
  conv => rhs; rw [← h.get]
  rw [List.getElem?_take, if_pos hj]
theorem RowAt.isSome {w : World} {g c k : Nat} {E : TypeId} {xs all : List Value} (h : RowAt w g c k E xs all) (j : Nat) (hj : j < c * k) : (w.cell? ⟨g, j, none⟩).isSome = true := by
  rw [h.blk.cell, List.getElem?_eq_getElem (by rw [h.size]; exact hj)]; rfl
theorem ownsRow_form {w : World} {E : TypeId} {k : Nat} {v : Value} {n : Nat} {xs : List Value} (h : w.ownsRow 0 E k v n xs) (hn : 0 < n) :
    ∃ g c all, v = .slice (some ⟨g, 0, none⟩) n c ∧ RowAt w g c k E xs all ∧ n ≤ c ∧ c ≤ maxLen := by
  rcases h.2 with ⟨_, h0⟩ | ⟨g, cap, cur, hv, hb, hg, h1, h2, h3, h4⟩
  · omega
  · refine ⟨g, cap, cur.toList, hv, ⟨by simpa [Blk] using hg, by simpa using h3, ?_, ?_⟩, h1, h2⟩
    · rw [h.1, Array.length_toList, h3]; exact Nat.mul_le_mul_right k h1
    · rw [h.1]; exact h4
theorem RowAt.owns {w : World} {g c k : Nat} {E : TypeId} {xs all : List Value} (h : RowAt w g c k E xs all) (n : Nat) (hx : xs.length = n * k) (hn : n ≤ c) (hc : c ≤ maxLen) :
    w.ownsRow 0 E k (.slice (some ⟨g, 0, none⟩) n c) n xs :=
  ⟨hx, .inr ⟨g, c, all.toArray, rfl, Nat.zero_le _, h.blk, hn, hc, by simpa using h.size, by rw [← hx]; simpa using h.get⟩⟩
end Go.Proofs.YtbkliamhignmfaaGreatDoor
