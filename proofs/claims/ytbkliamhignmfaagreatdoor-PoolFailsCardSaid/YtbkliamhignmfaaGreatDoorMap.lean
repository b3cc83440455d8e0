/- Maps with int keys: what a look-up, a store and a delete do, of a list of keys and values. Over any program. -/
import Derived.Test.YtbkliamhignmfaaGreatDoorBase
import Derived.MapKept
import Derived.ChangeMaps4
namespace Go.Proofs.YtbkliamhignmfaaGreatDoor
open Go.RowKit

def aget (l : List (Int × Value)) (k : Int) : Option Value :=
  match l with
  | [] => none
  | (a, v) :: t => if a = k then some v else aget t k
def aput (l : List (Int × Value)) (k : Int) (v : Value) : List (Int × Value) :=
  match l with
  | [] => [(k, v)]
  | (a, u) :: t => if a = k then (k, v) :: t else (a, u) :: aput t k v
def adel (l : List (Int × Value)) (k : Int) : List (Int × Value) :=
  match l with
  | [] => []
  | (a, u) :: t => if a = k then t else (a, u) :: adel t k

/-- Block b is a map of these keys and values, in the order of their coming. -/
def MapAt (w : World) (b : Nat) (l : List (Int × Value)) : Prop :=
  ∃ es clock, w.heap[b]? = some (.map es clock) ∧ MapKept.Stamped es clock ∧ es.toList.map (fun e => (e.key, e.val)) = l.map (fun x => (Value.int .i64 x.1, x.2))

theorem MapAt.lt {w : World} {b : Nat} {l : List (Int × Value)} (h : MapAt w b l) : b < w.heap.size := by
  obtain ⟨es, c, h, _⟩ := h
  exact (Array.getElem?_eq_some_iff.1 h).1
theorem MapAt.kept {F : Nat → Prop} {w w' : World} {b : Nat} {l : List (Int × Value)} (h : MapAt w b l) (k : Kept F w w') (hn : ¬ F b) : MapAt w' b l := by
  obtain ⟨es, c, h, hs, he⟩ := h
  exact ⟨es, c, k.some h hn, hs, he⟩
theorem MapAt.setCell_ne {w : World} {b : Nat} {l : List (Int × Value)} (h : MapAt w b l) (p : Addr) (v : Value) (hn : p.block ≠ b) : MapAt (w.setCell p v) b l := by
  obtain ⟨es, c, h, hs, he⟩ := h
  exact ⟨es, c, by rw [Below.heap_setCell _ _ _ _ (fun e => hn e.symm), h], hs, he⟩
theorem MapAt.alloc {w : World} {b : Nat} {l : List (Int × Value)} (h : MapAt w b l) (o : Obj) : MapAt (w.alloc o) b l :=
  h.kept (Kept.alloc (Kept.refl NoB w) o) (fun e => e)
theorem MapAt.drew {w : World} {b : Nat} {l : List (Int × Value)} (h : MapAt w b l) : MapAt w.drew b l := h
theorem MapAt.new (w : World) : MapAt (w.alloc (.map #[] 0)) w.heap.size [] :=
  ⟨#[], 0, (MapKept.heap_alloc w _).1, MapKept.stamped_empty 0, rfl⟩
theorem MapAt.ne {w : World} {b c : Nat} {l : List (Int × Value)} {cs : List Value} {E : TypeId} (h : MapAt w b l) (k : Blk w c cs E) : b ≠ c := by
  obtain ⟨es, cl, h, _⟩ := h
  intro e; subst e
  unfold Blk at k
  rw [h] at k; cases k

theorem find_now (k : Int) : ∀ (es : List MapEntry) (l : List (Int × Value)) (i : Nat), es.map (fun e => (e.key, e.val)) = l.map (fun x => (Value.int .i64 x.1, x.2)) →
    (Instr.findNow (.int .i64) (.int .i64 k) es i = some none ∧ aget l k = none ∧ (∀ x ∈ es, x.key ≠ .int .i64 k)) ∨
    ∃ j v e, Instr.findNow (.int .i64) (.int .i64 k) es i = some (some (i + j, v)) ∧ aget l k = some v ∧ es[j]? = some e ∧ e.key = .int .i64 k ∧
      (∀ v', (es.modify j fun e => { e with key := .int .i64 k, val := v' }).map (fun e => (e.key, e.val)) = (aput l k v').map (fun x => (Value.int .i64 x.1, x.2))) ∧
      (es.eraseIdx j).map (fun e => (e.key, e.val)) = (adel l k).map (fun x => (Value.int .i64 x.1, x.2))
  | [], [], i, _ => .inl ⟨rfl, rfl, by simp⟩
  | [], _ :: _, _, h => by simp at h
  | _ :: _, [], _, h => by simp at h
  | e :: es, (a, v) :: l, i, h => by
    simp only [List.map_cons, List.cons.injEq, Prod.mk.injEq] at h
    obtain ⟨⟨h1, h2⟩, h3⟩ := h
    by_cases hk : a = k
    · subst hk
      refine .inr ⟨0, v, e, by simp [Instr.findNow, h1, Instr.sameNow, h2], by simp [aget], rfl, h1, fun v' => ?_, ?_⟩
      · simp [aput, h3]
      · simp [adel, h3]
    · have hne : ¬ k = a := fun q => hk q.symm
      have hnow : Instr.findNow (.int .i64) (.int .i64 k) (e :: es) i = Instr.findNow (.int .i64) (.int .i64 k) es (i + 1) := by
        have hb : (k == a) = false := by simp [hne]
        simp [Instr.findNow, h1, Instr.sameNow, hb]
      rw [hnow]
      rcases find_now k es l (i + 1) h3 with ⟨g1, g2, g3⟩ | ⟨j, v', e', g1, g2, g3, g4, g5, g6⟩
      · refine .inl ⟨g1, by simp [aget, hk, g2], fun x hx => ?_⟩
        rcases List.mem_cons.1 hx with rfl | hx
        · rw [h1]; simp [hk]
        · exact g3 x hx
      · refine .inr ⟨j + 1, v', e', by rw [g1]; congr 3; omega, by simp [aget, hk, g2], by simpa using g3, g4, fun u => ?_, ?_⟩
        · have := g5 u
          simp only [List.modify_succ_cons, List.map_cons, aput, hk, if_false, this, h1, h2]
        · simp only [List.eraseIdx_cons_succ, List.map_cons, adel, hk, if_false, g6, h1, h2]

theorem aput_new (l : List (Int × Value)) (k : Int) (v : Value) (h : aget l k = none) : aput l k v = l ++ [(k, v)] := by
  induction l with
  | nil => rfl
  | cons x t ih =>
    obtain ⟨a, u⟩ := x
    simp only [aget] at h
    split at h
    · cases h
    · rename_i hk
      simp only [aput, hk, if_false, ih h, List.cons_append]
theorem adel_none (l : List (Int × Value)) (k : Int) (h : aget l k = none) : adel l k = l := by
  induction l with
  | nil => rfl
  | cons x t ih =>
    obtain ⟨a, u⟩ := x
    simp only [aget] at h
    split at h
    · cases h
    · rename_i hk
      simp only [adel, hk, if_false, ih h]

section
variable {P : Program} {t kt et : TypeId} {w : World} {b : Nat} {l : List (Int × Value)}

/-- 'm[k]'. -/
theorem MapAt.lookup (h : MapAt w b l) (ht : P.underlying t = some (.map kt et)) (hk : P.underlying kt = some (.int .i64)) {z : Value} (hz : (zeroValue et).run P w = .ok z w) (k : Int) :
    (Instr.lookup t (.map (some b)) (.int .i64 k) false).run P w = .ok ((aget l k).getD z) w := by
  obtain ⟨es, c, hb, hs, he⟩ := h
  have hik : MapKept.IsKey (.int .i64) (.int .i64 k) := rfl
  rcases find_now k es.toList l 0 he with ⟨g1, g2, _⟩ | ⟨j, v, e, g1, g2, _⟩
  · simp [Instr.lookup, run_underlying ht, MapKept.run_getObj_map hb, MapKept.run_checkKey hk hik, MapKept.run_findKey hk g1, hz, Result.andThen, g2]
  · simp [Instr.lookup, run_underlying ht, MapKept.run_getObj_map hb, MapKept.run_checkKey hk hik, MapKept.run_findKey hk g1, Result.andThen, g2]
/-- 'v, ok := m[k]'. -/
theorem MapAt.lookup_ok (h : MapAt w b l) (ht : P.underlying t = some (.map kt et)) (hk : P.underlying kt = some (.int .i64)) {z : Value} (hz : (zeroValue et).run P w = .ok z w) (k : Int) :
    (Instr.lookup t (.map (some b)) (.int .i64 k) true).run P w = .ok (.tuple #[(aget l k).getD z, .bool (aget l k).isSome]) w := by
  obtain ⟨es, c, hb, hs, he⟩ := h
  have hik : MapKept.IsKey (.int .i64) (.int .i64 k) := rfl
  rcases find_now k es.toList l 0 he with ⟨g1, g2, _⟩ | ⟨j, v, e, g1, g2, _⟩
  · simp [Instr.lookup, run_underlying ht, MapKept.run_getObj_map hb, MapKept.run_checkKey hk hik, MapKept.run_findKey hk g1, hz, Result.andThen, g2]
  · simp [Instr.lookup, run_underlying ht, MapKept.run_getObj_map hb, MapKept.run_checkKey hk hik, MapKept.run_findKey hk g1, Result.andThen, g2]
/-- 'm[k] = v'. -/
theorem MapAt.update (h : MapAt w b l) (ht : P.underlying t = some (.map kt et)) (hk : P.underlying kt = some (.int .i64)) (k : Int) (v : Value) :
    ∃ w', (Instr.mapUpdate t (.map (some b)) (.int .i64 k) v).run P w = .ok () w' ∧ MapAt w' b (aput l k v) ∧ Kept (fun x => x = b) w w' ∧ w'.heap.size = w.heap.size := by
  obtain ⟨es, c, hb, hs, he⟩ := h
  have hik : MapKept.IsKey (.int .i64) (.int .i64 k) := rfl
  have hK : ∀ o : Obj, Kept (fun x => x = b) w (ChangeMaps.setBlock w b o) := fun o => ⟨rfl, rfl, rfl, by simp [ChangeMaps.setBlock], fun i _ hi => (MapKept.heap_set hb).2 i hi⟩
  rcases find_now k es.toList l 0 he with ⟨g1, g2, g3⟩ | ⟨j, v0, e, g1, g2, g3, g4, g5, _⟩
  · refine ⟨ChangeMaps.setBlock w b (.map (es.push { key := .int .i64 k, val := v, born := c }) (c + 1)), ?_, ⟨_, _, (MapKept.heap_set hb).1, MapKept.stamped_push hs g3, ?_⟩, hK _, by simp [ChangeMaps.setBlock]⟩
    · simp [Instr.mapUpdate, run_underlying ht, MapKept.run_getObj_map hb, MapKept.run_checkKey hk hik, MapKept.run_findKey hk g1, MapKept.run_setObj_map _ hb, Result.andThen, ChangeMaps.setBlock]
    · rw [aput_new _ _ _ g2]; simp [he]
  · have hj : es[j]? = some e := by simpa using g3
    refine ⟨ChangeMaps.setBlock w b (.map (es.modify j fun e => { e with key := .int .i64 k, val := v }) c), ?_, ⟨_, _, (MapKept.heap_set hb).1, MapKept.stamped_modify hs _ _ (fun _ _ => rfl) (fun e' _ he' => by rw [hj] at he'; cases he'; exact g4.symm), ?_⟩, hK _, by simp [ChangeMaps.setBlock]⟩
    · simp [Instr.mapUpdate, run_underlying ht, MapKept.run_getObj_map hb, MapKept.run_checkKey hk hik, MapKept.run_findKey hk g1, hj, g4, MapKept.run_keyThatStays hik, MapKept.run_setObj_map _ hb, Result.andThen, ChangeMaps.setBlock]
    · rw [← g5 v]; simp
/-- 'delete(m, k)'. -/
theorem MapAt.delete (h : MapAt w b l) (ht : P.underlying t = some (.map kt et)) (hk : P.underlying kt = some (.int .i64)) (k : Int) (ty kt' : TypeId) :
    ∃ w', (Builtin.delete_ #[t, kt'] ty #[.map (some b), .int .i64 k]).run P w = .ok (.tuple #[]) w' ∧ MapAt w' b (adel l k) ∧ Kept (fun x => x = b) w w' ∧ w'.heap.size = w.heap.size := by
  obtain ⟨es, c, hb, hs, he⟩ := h
  have hik : MapKept.IsKey (.int .i64) (.int .i64 k) := rfl
  have hK : ∀ o : Obj, Kept (fun x => x = b) w (ChangeMaps.setBlock w b o) := fun o => ⟨rfl, rfl, rfl, by simp [ChangeMaps.setBlock], fun i _ hi => (MapKept.heap_set hb).2 i hi⟩
  rcases find_now k es.toList l 0 he with ⟨g1, g2, g3⟩ | ⟨j, v0, e, g1, g2, g3, g4, _, g6⟩
  · refine ⟨ChangeMaps.setBlock w b (.map es c), ?_, ⟨_, _, (MapKept.heap_set hb).1, hs, ?_⟩, hK _, by simp [ChangeMaps.setBlock]⟩
    · simp [Builtin.delete_, run_underlying ht, MapKept.run_getObj_map hb, MapKept.run_checkKey hk hik, MapKept.run_findKey hk g1, MapKept.run_setObj_map _ hb, Result.andThen, ChangeMaps.setBlock]
    · rw [adel_none _ _ g2]; exact he
  · have hj : j < es.size := by
      have := (List.getElem?_eq_some_iff.1 g3).1
      simpa using this
    refine ⟨ChangeMaps.setBlock w b (.map (es.eraseIdxIfInBounds j) c), ?_, ⟨_, _, (MapKept.heap_set hb).1, MapKept.stamped_erase hs _, ?_⟩, hK _, by simp [ChangeMaps.setBlock]⟩
    · simp [Builtin.delete_, run_underlying ht, MapKept.run_getObj_map hb, MapKept.run_checkKey hk hik, MapKept.run_findKey hk g1, MapKept.run_setObj_map _ hb, Result.andThen, ChangeMaps.setBlock]
    · rw [← g6]
      simp [Array.eraseIdxIfInBounds, hj]
/-- 'len(m)'. -/
theorem MapAt.len (h : MapAt w b l) (ht : P.underlying t = some (.map kt et)) (ty : TypeId) :
    (Builtin.len_ #[t] ty #[.map (some b)]).run P w = .ok (.int .i64 (l.length : Nat)) w := by
  obtain ⟨es, c, hb, hs, he⟩ := h
  have hl : es.size = l.length := by have := congrArg List.length he; simpa using this
  simp [Builtin.len_, run_underlying ht, MapKept.run_getObj_map hb, Result.andThen, hl, goInt]
end

end Go.Proofs.YtbkliamhignmfaaGreatDoor
