/- Law 6: alive. -/
import Derived.Test.YtbkliamhignmfaaGreatDoorProg
import Derived.Test.YtbkliamhignmfaaGreatDoorPoolN
import Derived.Test.YtbkliamhignmfaaGreatDoorPoolP
import Derived.Test.YtbkliamhignmfaaGreatDoorBuddyL
namespace Go.Proofs.YtbkliamhignmfaaGreatDoor
open Go.RowKit

theorem pool_Store (h : PH) (F : Nat → Prop) (S : PS) (at_ : Int) (s : Option Addr) (l : List Nat) (c : Nat) (w : World) (H : PoolAt w h F S) (hw : WordsAt w s l h.aq) (hi : inA S.N at_ (8 * l.length)) (ha : at_ % 8 = 0) :
    Calls Tryz.prog 31 #[.pointer (some ⟨h.ap, 0, none⟩), .int .i64 at_, .slice s l.length c] w fun e w' =>
      e = .returned (.int .i64 0) ∧ PoolAt w' h F { S with m := stm S.m at_.toNat l } ∧ Kept F w w' := by
  obtain ⟨bl, v, cp, cq, P, hF⟩ := H.ex
  refine (arena_Store h.ap h.aq S.N S.m at_ s l c w P.a hw hi ha).mono ?_
  rintro e w' ⟨he, hA, K⟩
  exact ⟨he, H.mem hA K⟩
theorem PoolAt.aq {w : World} {h : PH} {F : Nat → Prop} {S : PS} (H : PoolAt w h F S) : h.aq < w.heap.size := by
  obtain ⟨bl, v, cp, cq, P, hF⟩ := H.ex
  exact P.a.hq.lt
theorem PoolAt.aqF {w : World} {h : PH} {F : Nat → Prop} {S : PS} (H : PoolAt w h F S) : F h.aq := by
  obtain ⟨bl, v, cp, cq, P, hF⟩ := H.ex
  exact hF 3 _ (.inr rfl)
theorem pool_Left (h : PH) (F : Nat → Prop) (S : PS) (w : World) (H : PoolAt w h F S) :
    Calls Tryz.prog 32 #[.pointer (some ⟨h.pb, 0, none⟩)] w fun e w' => e = .returned (.int .i64 (leftL S.bs.freeL : Nat)) ∧ Kept NoB w w' := by
  obtain ⟨bl, v, cp, cq, P, hF⟩ := H.ex
  exact buddy_Left h.pb h.um h.bp h.bq S.bs w P.b H.gl
theorem pool_Free (h : PH) (F : Nat → Prop) (S : PS) (w : World) (H : PoolAt w h F S) :
    Calls Tryz.prog 27 #[.pointer (some ⟨h.pb, 0, none⟩)] w fun e w' =>
      ∃ v l, e = .returned v ∧ l.Perm S.bs.freeL ∧ l.Pairwise (fun x y => x.1 ≤ y.1) ∧ w'.ownsRow 0 TBk 2 v l.length (bks l) ∧ (∀ b, v.ownBlock = some b → w.heap.size ≤ b) ∧ Kept NoB w w' := by
  obtain ⟨bl, v, cp, cq, P, hF⟩ := H.ex
  exact buddy_Free h.pb h.um h.bp h.bq S.bs w P.b H.gl

def A0 : PS := PS.new 16 100
def A2 : PS := (A0.get 0 1).2.2
def A3 : PS := { A2 with m := stm A2.m 64 [7] }
def A4 : PS := (A3.put 0 1 64).2
def A5 : PS := (A4.get 0 1).2.2
set_option maxRecDepth 100000
theorem a1 : (A0.get 0 2).2.1 = 5 := by decide +kernel
theorem a2 : (A0.get 0 1).2.1 = 0 ∧ (A0.get 0 1).1 = 64 := by decide +kernel
theorem a4 : (A3.put 0 1 64).1 = 0 := by decide +kernel
theorem a5 : (A4.get 0 1).2.1 = 0 ∧ (A4.get 0 1).1 = 64 := by decide +kernel
theorem a6 : ldw A5.m 64 = 0 ∧ A5.has 1 64 = true ∧ (A5.used 1).length = 1 ∧ A5.qs.use 0 = 64 ∧ leftL A5.bs.freeL = 64512 := by decide +kernel

theorem ownsRow_slice {w : World} {base : Nat} {E : TypeId} {k : Nat} {v : Value} {n : Nat} {xs : List Value} (h : w.ownsRow base E k v n xs) : ∃ a cap, v = .slice a n cap := by
  rcases h.2 with ⟨e, e0⟩ | ⟨g, cap, cur, e, _⟩
  · exact ⟨none, 0, by rw [e, e0]⟩
  · exact ⟨_, _, e⟩
theorem words7 (w : World) (q : Nat) (hq : q < w.heap.size) : WordsAt (w.alloc (.cells #[.int .u64 7] 45)) (some ⟨w.heap.size, 0, none⟩) [7] q := by
  refine ⟨fun j hj => ?_, fun x hx => by simp at hx; subst hx; omega⟩
  obtain rfl : j = 0 := by simpa using hj
  exact ⟨w.heap.size, 0, rfl, by omega, by simp, (Blk.new w [.int .u64 7] 45).cell 0⟩

/-- What may turn beside G, of what came since w0. -/
def Out (w0 : World) (G : Nat → Prop) (b : Nat) : Prop := w0.heap.size ≤ b ∧ ¬ G b
/-- A pool that came since w0, apart from G. -/
def LP (w0 : World) (G : Nat → Prop) (w : World) (h : PH) (S : PS) : Prop := ∃ F, PoolAt w h F S ∧ (∀ b, F b → Out w0 G b) ∧ ∀ b, G b → b < w.heap.size
theorem LP.at {w0 : World} {G : Nat → Prop} {w : World} {h : PH} {S : PS} (H : LP w0 G w h S) : ∃ F, PoolAt w h F S := ⟨H.choose, H.choose_spec.1⟩
theorem LP.gl {w0 : World} {G : Nat → Prop} {w : World} {h : PH} {S : PS} (H : LP w0 G w h S) : Glob w := H.choose_spec.1.gl
theorem LP.call {P : Program} {f : FuncId} {args : Array Value} {R : Ending → Prop} {w0 : World} {G : Nat → Prop} {w : World} {h : PH} {S S' : PS} (H : LP w0 G w h S) (h0 : w0.heap.size ≤ w.heap.size)
    (hc : ∀ F, PoolAt w h F S → Calls P f args w fun e w' => R e ∧ PoolAt w' h (grow F w w') S' ∧ Kept F w w') : Calls P f args w fun e w' => R e ∧ LP w0 G w' h S' ∧ Kept (Out w0 G) w w' := by
  obtain ⟨F, hp, h1, h2⟩ := H
  refine (hc F hp).mono ?_
  rintro e w' ⟨he, hp', K⟩
  refine ⟨he, ⟨_, hp', fun b hb => ?_, fun b hb => Nat.lt_of_lt_of_le (h2 b hb) K.size⟩, K.mono h1⟩
  rcases hb with hb | hb
  · exact h1 b hb
  · exact ⟨by omega, fun hg => by have := h2 b hg; omega⟩
theorem LP.callF {P : Program} {f : FuncId} {args : Array Value} {R : Ending → Prop} {w0 : World} {G : Nat → Prop} {w : World} {h : PH} {S S' : PS} (H : LP w0 G w h S)
    (hc : ∀ F, PoolAt w h F S → Calls P f args w fun e w' => R e ∧ PoolAt w' h F S' ∧ Kept F w w') : Calls P f args w fun e w' => R e ∧ LP w0 G w' h S' ∧ Kept (Out w0 G) w w' := by
  obtain ⟨F, hp, h1, h2⟩ := H
  refine (hc F hp).mono ?_
  rintro e w' ⟨he, hp', K⟩
  exact ⟨he, ⟨_, hp', h1, fun b hb => Nat.lt_of_lt_of_le (h2 b hb) K.size⟩, K.mono h1⟩
/-- Steps that turn G alone, or nothing: what is new is G's. -/
theorem LP.kept {w0 : World} {G : Nat → Prop} {w w' : World} {h : PH} {S : PS} (H : LP w0 G w h S) (K : Kept G w w') (hn : ∀ b, G b → NotGlob b) : LP w0 (grow G w w') w' h S := by
  obtain ⟨F, hp, h1, h2⟩ := H
  refine ⟨F, hp.kept K (fun b hb => (h1 b hb).2) hn, fun b hb => ⟨(h1 b hb).1, fun hg => ?_⟩, fun b hb => ?_⟩
  · rcases hg with hg | hg
    · exact (h1 b hb).2 hg
    · have := hp.lt b hb; omega
  · rcases hb with hb | hb
    · exact Nat.lt_of_lt_of_le (h2 b hb) K.size
    · exact hb.2
theorem LP.keptNo {w0 : World} {G : Nat → Prop} {w w' : World} {h : PH} {S : PS} (H : LP w0 G w h S) (K : Kept NoB w w') : LP w0 G w' h S := by
  obtain ⟨F, hp, h1, h2⟩ := H
  exact ⟨F, hp.keptNo K, h1, fun b hb => Nat.lt_of_lt_of_le (h2 b hb) K.size⟩
theorem LP.keptG {w0 : World} {G : Nat → Prop} {w w' : World} {h : PH} {S : PS} (H : LP w0 G w h S) (K : Kept NoB w w') : LP w0 (grow G w w') w' h S := by
  obtain ⟨F, hp, h1, h2⟩ := H
  refine ⟨F, hp.keptNo K, fun b hb => ⟨(h1 b hb).1, fun hg => ?_⟩, fun b hb => ?_⟩
  · rcases hg with hg | hg
    · exact (h1 b hb).2 hg
    · have := hp.lt b hb; omega
  · rcases hb with hb | hb
    · exact Nat.lt_of_lt_of_le (h2 b hb) K.size
    · exact hb.2

set_option maxHeartbeats 4000000 in
theorem law6_alive (w : World) (hg : Glob w) :
    Calls Tryz.prog 5 #[] w fun e w' => e = .returned (.bool true) ∧ Kept NoB w w' := by
  have HG := Lib.hid hg
  have HN := Lib.hid (fun w' (hg' : Glob w') => pool_New_ok (2 ^ 16) 16 100 rfl (by omega) (by omega) (by omega) (by omega) w' hg')
  rw [show (((2 : Nat) ^ 16 : Nat) : Int) = 65536 from rfl] at HN
  have HM := Lib.hid (fun w' (hg' : Glob w') => pool_New_more 65536 65537 (by omega) w' hg' ⟨16, by omega, by omega, by decide⟩ (by omega) (by omega) (by omega))
  have x1 := a1
  have x2 := a2
  have x4 := a4
  have x5 := a5
  have x6 := a6
  have hgf : ∀ w1 h, LP w NoB w1 h A0 → (A0.get 0 2).1 = 0 ∧ (A0.get 0 2).2.2 = A0 := fun w1 h H => by
    obtain ⟨F, hp⟩ := H.at
    exact get_fails hp.qok (by rw [a1]; omega)
  have C1 := Lib.hid (fun w1 h (H : LP w NoB w1 h A0) (hs : w.heap.size ≤ w1.heap.size) => (by
    have c := H.call hs (fun F hp => pool_Get h F A0 0 2 (by omega) w1 hp)
    rw [x1, (hgf w1 h H).1, (hgf w1 h H).2] at c
    exact c : Calls Tryz.prog 8 #[.pointer (some ⟨h.p, 0, none⟩), .int .i64 0, .int .i64 2] w1 fun e w' => e = .returned (.tuple #[.int .i64 0, .int .i64 5]) ∧ LP w NoB w' h A0 ∧ Kept (Out w NoB) w1 w'))
  have C2 := Lib.hid (fun w1 h (H : LP w NoB w1 h A0) (hs : w.heap.size ≤ w1.heap.size) => (by
    have c := H.call hs (fun F hp => pool_Get h F A0 0 1 (by omega) w1 hp)
    rw [x2.1, x2.2] at c
    exact c : Calls Tryz.prog 8 #[.pointer (some ⟨h.p, 0, none⟩), .int .i64 0, .int .i64 1] w1 fun e w' => e = .returned (.tuple #[.int .i64 64, .int .i64 0]) ∧ LP w NoB w' h A2 ∧ Kept (Out w NoB) w1 w'))
  have C3 := Lib.hid (fun w1 h (H : LP w NoB w1 h A2) => (H.keptNo (Kept.alloc (Kept.refl _ _) (.cells #[.int .u64 7] 45))).callF (fun F hp => pool_Store h F A2 64 (some ⟨w1.heap.size, 0, none⟩) [7] 1 _ hp (words7 w1 h.aq (by
    obtain ⟨F', hp'⟩ := H.at
    exact hp'.aq)) (by unfold inA; decide +kernel) (by decide)))
  have C4 := Lib.hid (fun w1 h (H : LP w NoB w1 h A3) (hs : w.heap.size ≤ w1.heap.size) => (by
    have c := H.call hs (fun F hp => pool_Put h F A3 0 1 64 (by omega) (by omega) w1 hp)
    rw [x4] at c
    exact c : Calls Tryz.prog 9 #[.pointer (some ⟨h.p, 0, none⟩), .int .i64 0, .int .i64 1, .int .i64 64] w1 fun e w' => e = .returned (.int .i64 0) ∧ LP w NoB w' h A4 ∧ Kept (Out w NoB) w1 w'))
  have C5 := Lib.hid (fun w1 h (H : LP w NoB w1 h A4) (hs : w.heap.size ≤ w1.heap.size) => (by
    have c := H.call hs (fun F hp => pool_Get h F A4 0 1 (by omega) w1 hp)
    rw [x5.1, x5.2] at c
    exact c : Calls Tryz.prog 8 #[.pointer (some ⟨h.p, 0, none⟩), .int .i64 0, .int .i64 1] w1 fun e w' => e = .returned (.tuple #[.int .i64 64, .int .i64 0]) ∧ LP w NoB w' h A5 ∧ Kept (Out w NoB) w1 w'))
  clear hg x1 x2 x4 x5 x6 hgf
  go_enter Tryz.func5, Tryz.ntmps5
  go_wp2_with (go_at_call 6; go_loud (refine (HN.out _ HG.out).mono ?_; rintro e w1 ⟨h, F, rfl, hp1, hk1, hf1⟩; have L1 := Lib.hid (show LP w NoB w1 h A0 from ⟨F, hp1, fun b hb => ⟨hf1 b hb, fun e => e⟩, fun b e => e.elim⟩); have K1 := Lib.hid hk1; clear hp1 hk1 hf1))
  refine (C1.out _ _ L1.out K1.out.size).mono ?_
  rintro e w2 ⟨rfl, l2, k2⟩
  have L2 := Lib.hid l2
  have K2 := Lib.hid (K1.out.andNew k2 (fun b hb => .inr hb.1))
  clear l2 k2
  go_wp2_with fail
  refine (C2.out _ _ L2.out K2.out.size).mono ?_
  rintro e w3 ⟨rfl, l3, k3⟩
  have L3 := Lib.hid l3
  have K3 := Lib.hid (K2.out.andNew k3 (fun b hb => .inr hb.1))
  clear l3 k3
  go_wp2_with (go_at_call 11; go_loud (obtain ⟨Fx, hx⟩ := L3.out.at; refine (pool_Arena h Fx A2 _ hx).mono ?_; rintro e w' ⟨rfl, rfl⟩))
  refine (C3.out _ _ L3.out).mono ?_
  rintro e w4 ⟨rfl, l4, k4⟩
  have L4 := Lib.hid l4
  have K4 := Lib.hid (((K3.out.alloc (.cells #[.int .u64 7] 45))).andNew k4 (fun b hb => .inr hb.1))
  clear l4 k4
  go_wp2_with fail
  refine (C4.out _ _ L4.out K4.out.size).mono ?_
  rintro e w5 ⟨rfl, l5, k5⟩
  have L5 := Lib.hid l5
  have K5 := Lib.hid (K4.out.andNew k5 (fun b hb => .inr hb.1))
  clear l5 k5
  go_wp2_with fail
  refine (C5.out _ _ L5.out K5.out.size).mono ?_
  rintro e w6 ⟨rfl, l6, k6⟩
  have L6 := Lib.hid l6
  have K6 := Lib.hid (K5.out.andNew k6 (fun b hb => .inr hb.1))
  clear l6 k6
  have x6 := a6
  have hld : Hid (∀ F, PoolAt w6 h F A5 → Calls Tryz.prog 17 #[.pointer (some ⟨h.ap, 0, none⟩), .int .i64 64] w6 fun e w' => e = .returned (.tuple #[.int .u64 0, .int .i64 0]) ∧ w6 = w') := fun F hp => by
    have c := pool_Load h F A5 64 w6 hp (by unfold inA; decide +kernel) (by decide)
    rw [show ((64 : Int)).toNat = 64 from rfl, x6.1] at c
    exact c
  have X6 := Lib.hid x6
  have hc3 : Hid (∀ w', Glob w' → Calls Tryz.prog 19 #[.int .i64 3] w' fun e w'' => e = .returned (.int .i64 256) ∧ w' = w'') := fun w' hg' => pool_Cost 3 (by omega) w' hg'
  clear x6
  go_wp2_with (first
    | (go_at_call 11; go_loud (obtain ⟨Fx, hx⟩ := L6.out.at; refine (pool_Arena h Fx A5 _ hx).mono ?_; rintro e w' ⟨rfl, rfl⟩; clear hx))
    | (go_at_call 17; go_loud (obtain ⟨Fx, hx⟩ := L6.out.at; refine (hld.out Fx hx).mono ?_; rintro e w' ⟨rfl, rfl⟩; clear hx))
    | (go_at_call 19; go_loud (refine (hc3.out _ L6.out.gl).mono ?_; rintro e w' ⟨rfl, rfl⟩))
    | (go_at_call 10; go_loud (obtain ⟨Fx, hx⟩ := L6.out.at; refine (pool_Has h Fx A5 1 64 (by omega) (by omega) _ hx).mono ?_; rw [X6.out.2.1]; rintro e w7 ⟨rfl, k7⟩; have K7 := Lib.hid (K6.out.trans k7); have L7 := Lib.hid (L6.out.keptNo k7); clear hx k7))
    | (go_at_call 14; go_loud (obtain ⟨Fx, hx⟩ := L7.out.at; refine (pool_Used h Fx A5 1 (by omega) _ hx).mono ?_; rintro e w8 ⟨v, rfl, hv, k8⟩; rw [X6.out.2.2.1] at hv; obtain ⟨ua, uc, rfl⟩ := ownsRow_slice hv; have K8 := Lib.hid (K7.out.trans k8); have L8 := Lib.hid (L7.out.keptNo k8); clear hx k8 hv))
    | (go_at_call 12; go_loud (obtain ⟨Fx, hx⟩ := L8.out.at; refine (pool_Quota h Fx A5 _ hx).mono ?_; rintro e w' ⟨rfl, rfl⟩; clear hx))
    | (go_at_call 25; go_loud (obtain ⟨Fx, hx⟩ := L8.out.at; refine (pool_Use h Fx A5 0 _ hx).mono ?_; rw [X6.out.2.2.2.1]; rintro e w9 ⟨rfl, k9⟩; have K9 := Lib.hid (K8.out.trans k9); have L9 := Lib.hid (L8.out.keptNo k9); clear hx k9))
    | (go_at_call 13; go_loud (obtain ⟨Fx, hx⟩ := L9.out.at; refine (pool_Blocks h Fx A5 _ hx).mono ?_; rintro e w' ⟨rfl, rfl⟩; clear hx))
    | (go_at_call 32; go_loud (obtain ⟨Fx, hx⟩ := L9.out.at; refine (pool_Left h Fx A5 _ hx).mono ?_; rw [X6.out.2.2.2.2]; rintro e w10 ⟨rfl, k10⟩; have K10 := Lib.hid (K9.out.trans k10); have L10 := Lib.hid (L9.out.keptNo k10); clear hx k10))
    | (go_at_call 6; go_loud (refine (HM.out _ L10.out.gl).mono ?_; rintro e w11 ⟨rfl, k11⟩; have K11 := Lib.hid (K10.out.trans k11); clear k11)))
  go_ret
  exact ⟨rfl, K11.out⟩
end Go.Proofs.YtbkliamhignmfaaGreatDoor
