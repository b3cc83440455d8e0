/- Layer 5: Ids. -/
import Derived.Test.YtbkliamhignmfaaGreatDoorProg
import Derived.Test.YtbkliamhignmfaaGreatDoorSortInt
import Derived.Test.YtbkliamhignmfaaGreatDoorQuotaV
import Derived.Test.YtbkliamhignmfaaGreatDoorSlabV
import Derived.Shelf.SlIterI.Nil
import Derived.Shelf.SortM.Plain
import Derived.Shelf.SortM.SortNone
namespace Go.Proofs.YtbkliamhignmfaaGreatDoor
open Go.RowKit Go.Maps Go.Sort Go.Shelf

theorem sortsInt (m : Nat) : AnyZI.SortsIn Tryz.prog sortedInt_ren Fence.wide m :=
  ⟨fun blk off cap ss W hH hblk hsz => callsIn_wide.2 (AnyM.slices_Sort_int sortInt blk off cap ss W hH hblk hsz),
   fun p cap W => callsIn_wide.2 (AnyM.slices_Sort_int_none sortInt p cap W)⟩

/-- How an element reads, where nobody asks. -/
def anyElem (v : Value) : Option (DataW Unit × List MemPlace) := some (.lit (.bool true), [])

theorem MapAt.owns {P : Program} {k : TypeId} {w : World} {b : Nat} {l : List (Int × Value)} (h : MapAt w b l) (hk : P.underlying k = some (.int .i64)) (hl : l.length ≤ maxLen) (hw : ∀ x ∈ l, (Lit.int .i64 x.1).wf = true) :
    ∃ D : DataW Unit, w.ownsMap P k anyElem b l.length D := by
  obtain ⟨es, clock, hb, hs, he⟩ := h
  have hlen : es.size = l.length := by have := congrArg List.length he; simpa using this
  refine ⟨_, es, clock, hb, ⟨by omega, hs, fun x hx => ?_⟩, by omega, rfl⟩
  have hm : (x.key, x.val) ∈ es.toList.map (fun e => (e.key, e.val)) := List.mem_map_of_mem hx
  rw [he] at hm
  obtain ⟨y, hy, e⟩ := List.mem_map.1 hm
  have e1 : x.key = .int .i64 y.1 := (congrArg Prod.fst e).symm
  have hkk : keyOf P k x.key = some (.int .i64 y.1) := by rw [e1]; exact Maps.keyOf_int_mk hk (hw y hy)
  refine ⟨(.int .i64 y.1, .lit (.bool true)), ?_⟩
  unfold Go.WideElems.rd
  rw [hkk]
  rfl

set_option maxRecDepth 100000 in
set_option maxHeartbeats 1000000 in
theorem quota_Ids_in (t mb : Nat) (bl : Int → Nat) (s : QS) (w : World) (h : QT w t mb bl s) (hx : s.next ≤ 1073741824) (hlen : s.fs.length ≤ 1073741824) :
    CallsIn Fence.wide 6 Tryz.prog 30 #[.pointer (some ⟨t, 0, none⟩)] w fun e w' => ∃ (v : Value) (ss : List Int), e = .returned v ∧ ss.length ≤ s.fs.length ∧
      w'.ownsRow w.heap.size 3 1 v ss.length (ss.map (Value.int .i64)) ∧ Below w.heap.size w w' := by
  have h0 : w.cell? ⟨t, 0, none⟩ = some (.map (some mb)) := h.ht.cell 0
  obtain ⟨D, hown⟩ := h.hm.owns (P := Tryz.prog) (k := 3) Tryz.underlying3 (by simp; unfold maxLen; omega) (fun x hx' => by
    obtain ⟨y, hy, rfl⟩ := List.mem_map.1 hx'
    have := h.ok.lt y hy
    have e1 : IntKind.i64.min = -9223372036854775808 := by decide
    have e2 : IntKind.i64.max = 9223372036854775807 := by decide
    simp only [Lit.wf, e1, e2, Bool.and_eq_true, decide_eq_true_eq]
    omega)
  rw [List.length_map] at hown
  have hlt := hown.lt
  have hmax : Maps.size D ≤ maxLen := by have := hown.size_le; unfold maxLen; omega
  have hbytes : Maps.size D * 8 ≤ 140737488355328 := by have := hown.size_le; omega
  have hsl := hown.size_le
  have hseq : SeqGives Fence.wide 2 Tryz.prog 91 #[.pointer (some ⟨w.heap.size, 0, none⟩)] encZ (fun ss => ss.Perm (intKeys D)) (Maps.size D) (w.alloc (.cells #[.map (some mb)] 99)) :=
    AnyZI.keys_gives (ρ := keysQ_ren) { keysQ with } Fence.wide _ trivial rfl (by omega) w.heap.size mb _ D _ (by simp) (by simp) (by
      obtain ⟨es, clock, hb, Ft, hs, hD⟩ := hown
      exact ⟨es, clock, (Below.heap_alloc _ _ mb hlt).trans hb, Ft, hs, hD⟩)
  have cK : ∀ b W, CallsIn Fence.wide 5 Tryz.prog 61 #[.map b] W fun e w' => e = .returned (.func (.func 91) #[] #[.pointer (some ⟨W.heap.size, 0, none⟩)]) ∧ w' = W.alloc (.cells #[.map b] 99) := fun b W => AnyZI.keys_in keysQ Fence.wide 5 trivial rfl b W
  have cS := AnyZI.sorted_in sortedInt Fence.wide 5 trivial trivial trivial trivial rfl (by omega) (sortsInt _) (enters_of Tryz.func90 (by kernel_rfl) rfl) 91 #[.pointer (some ⟨w.heap.size, 0, none⟩)] trivial (enters_of Tryz.func91 (by kernel_rfl) rfl) _ _ hmax hbytes _ hseq
  change CallsIn _ _ Tryz.prog 60 _ _ _ at cS
  have hfK : Fence.wide.fn 61 := trivial
  have hfS : Fence.wide.fn 60 := trivial
  have HSL := Lib.hid hsl
  have HOW := Lib.hid hown
  clear hown hsl h
  refine callsIn_of_wp Tryz.func30 rfl trivial ?_ rfl
  simp only [Tryz.ntmps30, List.size_toArray, List.length_cons, List.length_nil, Nat.reduceAdd, Nat.reduceSub, Array.replicate_succ, Array.replicate_zero, List.push_toArray, List.append_toArray, List.nil_append, List.cons_append]
  gi_wp2_with (first
    | (gi_at_call 61; refine (cK _ _).mono ?_; rintro e w' ⟨rfl, rfl⟩)
    | (gi_at_call 60; refine cS.mono ?_; rintro e w' ⟨v, ss, rfl, hS, hrow, hnil, hb⟩))
  refine bodyPost_ret (results_tmp rfl _ _ _) rfl ?_
  have hms : (ss.mergeSort fun x y => decide (x ≤ y)).length = ss.length := List.length_mergeSort ss
  refine ⟨v, ss.mergeSort fun x y => decide (x ≤ y), rfl, ?_, ?_, ((Below.refl _ w).alloc (Nat.le_refl _) _).trans (hb.mono (by simp))⟩
  · rw [hms, hS.length_eq]
    have : (intKeys D).length = Maps.size D := by
      obtain ⟨es, clock, hb, Ft, hs, hD⟩ := HOW.out
      rw [hD]; simp [intKeys, Maps.size]
    rw [this]; exact HSL.out
  · rw [hms]
    exact ownsRow_base_a hrow (by simp)

/-- All factories' numbers (how many: no more than there are). -/
theorem quota_Ids (t mb : Nat) (bl : Int → Nat) (s : QS) (w : World) (h : QT w t mb bl s) (hx : s.next ≤ 1073741824) (hlen : s.fs.length ≤ 1073741824) :
    Calls Tryz.prog 30 #[.pointer (some ⟨t, 0, none⟩)] w fun e w' => ∃ (v : Value) (ss : List Int), e = .returned v ∧ ss.length ≤ s.fs.length ∧
      w'.ownsRow w.heap.size 3 1 v ss.length (ss.map (Value.int .i64)) ∧ Kept NoB w w' :=
  (callsIn_wide.1 (quota_Ids_in t mb bl s w h hx hlen)).mono fun e w' ⟨v, ss, h1, h2, h3, h4⟩ => ⟨v, ss, h1, h2, h3, Kept.ofBelow h4⟩
end Go.Proofs.YtbkliamhignmfaaGreatDoor
