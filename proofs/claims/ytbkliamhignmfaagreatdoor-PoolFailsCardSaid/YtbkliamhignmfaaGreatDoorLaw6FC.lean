/- Law 6: PoolFails answers true for every limit, every list of acts and every last get and put, whatever they are; no conditions beyond the tables as their initialisers lay them. -/
import Derived.Test.YtbkliamhignmfaaGreatDoorCards
import Derived.Test.YtbkliamhignmfaaGreatDoorTie
import Derived.Test.YtbkliamhignmfaaGreatDoorLaw6F
import Derived.Test.YtbkliamhignmfaaGreatDoorLawK
import Derived.Test.YtbkliamhignmfaaGreatDoorLawG
import Derived.Deep.DeepHandedRow
namespace Go.Proofs.YtbkliamhignmfaaGreatDoor
open Go.ChangeShapes Go.WideShapes Go.ChangeAt Go.RowKit

theorem law6_acts {W : World} {n : Nat} {a : Option Addr} (hi : ∀ i, i < n → ∃ g o, a = some ⟨g, o, none⟩ ∧ g < W.heap.size ∧
      ∀ j, j < 4 → ∃ z : Int, W.cell? ⟨g, o + (i * 4 + j), none⟩ = some (.int .i64 z) ∧ -9223372036854775808 ≤ z ∧ z ≤ 9223372036854775807) : ∃ l : List Act6, l.length = n ∧ ActAt W a l := by
  obtain ⟨l, hl, h⟩ := list_of (Q := fun i (x : Act6) => (∃ g o, a = some ⟨g, o, none⟩ ∧ g < W.heap.size ∧ W.cell? ⟨g, o + i * 4, none⟩ = some (.int .i64 x.kind) ∧ W.cell? ⟨g, o + i * 4 + 1, none⟩ = some (.int .i64 x.f) ∧ W.cell? ⟨g, o + i * 4 + 2, none⟩ = some (.int .i64 x.c) ∧ W.cell? ⟨g, o + i * 4 + 3, none⟩ = some (.int .i64 x.n)) ∧ x.c ≤ 9223372036854775807 ∧ x.n ≤ 9223372036854775807 ∧ -9223372036854775808 ≤ x.n ∧ -9223372036854775808 ≤ x.c) (n := n) (fun i hin => by
    obtain ⟨g, o, e, hg, hc⟩ := hi i hin
    obtain ⟨k, c0, _⟩ := hc 0 (by omega)
    obtain ⟨f, c1, _⟩ := hc 1 (by omega)
    obtain ⟨c, c2, r1, r2⟩ := hc 2 (by omega)
    obtain ⟨m, c3, r3, r4⟩ := hc 3 (by omega)
    exact ⟨⟨k, f, c, m⟩, ⟨g, o, e, hg, c0, c1, c2, c3⟩, r2, r4, r3, r1⟩)
  refine ⟨l, hl, ⟨fun j hj => (h j hj).1, fun x hx => ?_⟩⟩
  obtain ⟨j, hj, rfl⟩ := List.mem_iff_getElem.1 hx
  exact (h j hj).2

namespace fnPoolFails
set_option maxRecDepth 100000 in
theorem contract (H : Type) (enc : TypeId × Value → H) (W : World) (base : Nat) (args : Array Value) (ds gs : List (DataW H)) (before : List MemPlace)
    (hval : ∀ (j : Nat) t v, Tryz.f4.params[j]? = some t → args[j]? = some v → Value.okWide Tryz.prog W .any base t v)
    (hW : DataW.Whole enc Tryz.prog Tryz.f4.params.toList Rows.poolFailsSpec.vars false W args.toList ds gs before) (hL : laidMetH Tryz.prog Rows.poolFailsRow.laid W) :
    Calls Tryz.prog 4 args W fun e W' => ∃ v, e = .returned v ∧ Rows.poolFailsSpec.post enc Tryz.prog Tryz.f4 false true false false W args v W' := by
  have hW' := hW
  obtain ⟨p, q, hA0, hV, rfl, hfz, hnd⟩ := hW
  have hA : DataW.TrodAll enc Tryz.prog W 0 (fun _ => true) true Tryz.f4.params.toList args.toList ds p := hA0
  rw [Tryz.params4] at hA hval
  have hA1 := hA
  obtain ⟨v0, vs0, d0, ds0, p0, q0, hargs, rfl, rfl, h0, r0⟩ := trodAll_cons hA
  obtain ⟨v1, vs1, d1, ds1, p1, q1, hargs1, rfl, rfl, h1, r1⟩ := trodAll_cons r0
  obtain ⟨v2, vs2, d2, ds2, p2, q2, hargs2, rfl, rfl, h2, r2⟩ := trodAll_cons r1
  obtain ⟨v3, vs3, d3, ds3, p3, q3, hargs3, rfl, rfl, h3, r3⟩ := trodAll_cons r2
  obtain ⟨v4, vs4, d4, ds4, p4, q4, hargs4, rfl, rfl, h4, r4⟩ := trodAll_cons r3
  obtain ⟨rfl, rfl, rfl⟩ := trodAll_nil r4
  subst hargs1 hargs2 hargs3 hargs4
  obtain rfl : args = #[v0, v1, v2, v3, v4] := by cases args; simp_all
  obtain ⟨rfl, rfl⟩ := trodVars_none hV
  obtain ⟨lim, rfl, rfl, rfl, w0⟩ := open_int Tryz.underlying68 (hval 0 _ v0 rfl rfl) h0
  obtain ⟨f, rfl, rfl, rfl, w2⟩ := open_int Tryz.underlying3 (hval 2 _ v2 rfl rfl) h2
  obtain ⟨c, rfl, rfl, rfl, w3⟩ := open_int Tryz.underlying3 (hval 3 _ v3 rfl rfl) h3
  obtain ⟨x, rfl, rfl, rfl, w4⟩ := open_int Tryz.underlying3 (hval 4 _ v4 rfl rfl) h4
  obtain ⟨a, len, cap, rfl, hlen, hi⟩ := open_rows (e := 42) Tryz.underlying22 Tryz.underlying42 (by kernel_rfl) (by kernel_rfl) (by decide) (fun j f hj => by
    match j, hj with
    | 0, hj => cases hj; exact Tryz.underlying3
    | 1, hj => cases hj; exact Tryz.underlying3
    | 2, hj => cases hj; exact Tryz.underlying3
    | 3, hj => cases hj; exact Tryz.underlying3
    | _ + 4, hj => simp at hj) (hval 1 _ v1 rfl rfl) h1
  obtain ⟨l, rfl, hl⟩ := law6_acts hi
  simp [Lit.wf] at w0 w2 w3 w4
  have walk := law6_PoolFails lim w0.1 w0.2 a cap l f c x w3.2 w4.2 W (laid_glob hL) hl hlen
  refine walk.mono fun e W' ⟨he, hk⟩ => ?_
  subst he
  have hB : Below W.heap.size W W' := hk.below _ (Nat.le_refl _) (fun _ _ h => h)
  refine ⟨_, rfl, post_of_below hW' (pa := _) (pv := []) (fun _ _ _ => trodAll_cons_mk (shut_bool Tryz.underlying4 _) trodAll_mk0) (fun sp hsp => ?_) (fun _ _ => rfl) rfl hB (ok_one (by kernel_rfl) rfl (okWide_bool_mk Tryz.underlying4 _))⟩
  exact trodAll_stays (by kernel_rfl) (by decide +kernel) hA1 (fun p hp => hB.same (hW'.lt p (by simpa using hp))) (fun p hp => hsp p (by simpa using hp))

theorem reads (os : Os) {H : Type} (enc : TypeId × Value → H) : ∃ places, DataW.whole enc Tryz.prog ((laidWorld os).forCall (fun _ _ => 0) ⟨#[], #[.int .u16 0, .slice none 0 0, .int .i64 0, .int .i64 0, .int .i64 0], []⟩).memory Tryz.f4.params.toList Rows.poolFailsSpec.vars false #[Value.int .u16 0, .slice none 0 0, .int .i64 0, .int .i64 0, .int .i64 0].toList 8 = some ([.lit (.int .u16 0), .nil, .lit (.int .i64 0), .lit (.int .i64 0), .lit (.int .i64 0)], [], places) :=
  ⟨[], by kernel_rfl⟩

set_option maxRecDepth 100000 in
theorem lifted (os : Os) (started : os.Started) (H : Type) (enc : TypeId × Value → H) (F : Stop.Interp) :
    ReturnsInHanded {} Tryz.checked os 4 .any ((OpenSpec.ofChange Rows.poolFailsSpec).preRow enc Tryz.prog Tryz.f4 Rows.poolFailsRow.domain false Rows.poolFailsRow.laid) (((OpenSpec.ofChange Rows.poolFailsSpec).at F).post enc Tryz.prog Tryz.f4 false true false false) := by
  obtain ⟨places, hx⟩ := reads os enc
  refine returnsInHanded_of_row (C := Tryz.checked) (s := OpenSpec.ofChange Rows.poolFailsSpec) own started (by kernel_rfl) Tryz.func4
    (witness_row_at (enc := enc) (C := Tryz.checked) false (laidWorld os) #[.int .u16 0, .slice none 0 0, .int .i64 0, .int .i64 0, .int .i64 0] rfl (by kernel_rfl) (by kernel_rfl) (by kernel_rfl)
      (OpenSpec.preRow_of_cond 8 hx (by kernel_rfl) (fun k hk => by cases hk) (by kernel_rfl) (laid_met os _))) ?_
  intro W base args ds gs before hval hW _ _ _ hL _ _
  exact contract H enc W base args ds gs before hval hW hL

theorem said : Rows.PoolFailsSaid :=
  OpenClaim.holds_of_cond 4 Tryz.f4 rfl rfl rfl rfl rfl rfl rfl ⟨rfl, rfl, rfl, rfl, rfl⟩ rfl rfl rfl rfl rfl (by kernel_rfl) Tryz.func4 (by kernel_rfl)
    (of_decide_eq_true (by kernel_rfl)) (by unfold Func.isWrapper; first | (rw [if_pos (by decide +kernel)]; kernel_rfl) | (rw [if_neg (by decide +kernel)]; exact ⟨rfl, rfl⟩))
    (fun os started H enc _ F => by rw [OpenClaim.pre_eq_preRow]; exact lifted os started H enc F)

theorem plain (f : FuncId) (fn : Func) (hf : Tryz.pinned.checked.prog.funcNamed "quartermaster/quartermasterlaw06.PoolFails" = some f) (hfn : Tryz.pinned.checked.prog.funcs[f]? = some fn) :
    false = Tryz.pinned.checked.prog.looks [] ∧ ∀ (j : Nat) t, fn.params[j]? = some t → Tryz.pinned.checked.prog.wantsStandIn t = false := by
  obtain rfl : f = 4 := Option.some.inj ((show Tryz.prog.funcNamed "quartermaster/quartermasterlaw06.PoolFails" = some 4 by kernel_rfl).symm.trans hf) |>.symm
  obtain rfl : fn = Tryz.f4 := (Option.some.inj (Tryz.func4.symm.trans hfn)).symm
  refine ⟨by kernel_rfl, fun j t ht => ?_⟩
  have key : ∀ t ∈ Tryz.f4.params, Tryz.pinned.checked.prog.wantsStandIn t = false := by decide +kernel
  exact key t (Array.mem_of_getElem? ht)

theorem card : Rows.PoolFailsCardSaid :=
  Claim7.holds_tied_plain_at .later [] _ _ _ _ said (fun _ h => by cases h) (by kernel_rfl) (fun _ h => by cases h) poolFails_row_tie rfl ⟨rfl, rfl⟩ (by kernel_rfl) rfl plain (by kernel_rfl)
end fnPoolFails
end Go.Proofs.YtbkliamhignmfaaGreatDoor
