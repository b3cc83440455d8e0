/- Layer 4: Give. -/
import Derived.Test.YtbkliamhignmfaaGreatDoorProg
import Derived.Test.YtbkliamhignmfaaGreatDoorSlabU
namespace Go.Proofs.YtbkliamhignmfaaGreatDoor
open Go.RowKit

theorem spot_some {s : SS} {a : Int} {k i : Nat} (hr : rising s.l) (h : s.spot a = some (k, i)) : ∃ hk : k < s.l.length, bit s.l[k].bits i = true := by
  unfold SS.spot at h
  by_cases h0 : a < 0
  · rw [if_pos h0] at h; cases h
  · rw [if_neg h0] at h
    unfold SS.spotN at h
    split at h
    · rename_i hc
      simp only [Bool.and_eq_true] at hc
      obtain ⟨⟨⟨h1, h2⟩, h3⟩, h4⟩ := hc
      obtain ⟨hl, _⟩ := hasAt_lt hr h1
      injection h with h
      injection h with e1 e2
      subst e1; subst e2
      refine ⟨hl, ?_⟩
      rw [List.getD_eq_getElem?_getD, List.getElem?_eq_getElem hl] at h4
      exact h4
    · cases h

theorem slab_Give_none (c pb : Nat) (v : Value) (bp bq : Nat → Nat) (s : SS) (a : Int) (w : World) (h : CT w c pb v bp bq s) (ha : a ≤ 9223372036854775807) (hs : s.spot a = none) :
    Calls Tryz.prog 41 #[.pointer (some ⟨c, 0, none⟩), .int .i64 a] w fun e w' => e = .returned (.int .i64 6) ∧ Kept NoB w w' := by
  have hsp := slab_spot c pb v bp bq s a w h ha
  rw [hs] at hsp
  have HS := Lib.hid hsp
  clear hsp hs h
  go_enter Tryz.func41, Tryz.ntmps41
  go_wp2_with (go_at_call 71; refine HS.out.mono ?_; rintro e w1 ⟨rfl, hk⟩; unfold spotV)
  go_ret
  exact ⟨rfl, hk⟩

theorem map_set_at (l : List Pg) (k : Nat) (hk : k < l.length) (bits : List Bool) : (l.set k ⟨l[k].at_, bits⟩).map (·.at_) = l.map (·.at_) := by
  apply List.ext_getElem
  · simp
  · intro i h1 h2
    simp only [List.getElem_map, List.getElem_set]
    split
    · rename_i e; subst e; rfl
    · rfl
theorem pcells_map (bp : Nat → Nat) : ∀ l m : List Pg, l.map (·.at_) = m.map (·.at_) → pcells bp l = pcells bp m
  | [], [], _ => rfl
  | [], b :: m, h => by simp at h
  | a :: l, [], h => by simp at h
  | a :: l, b :: m, h => by
    simp only [List.map_cons, List.cons.injEq] at h
    have e : ∀ (q : Pg) (t : List Pg), pcells bp (q :: t) = pcell bp q ++ pcells bp t := fun _ _ => rfl
    rw [e, e, pcells_map bp l m h.2]
    unfold pcell
    rw [h.1]
theorem rising_map (l : List Pg) : rising l ↔ (l.map (·.at_)).Pairwise (· < ·) := by
  unfold rising; rw [List.pairwise_map]
theorem mem_setPg {l : List Pg} {k : Nat} {x p : Pg} (h : p ∈ l.set k x) : p ∈ l ∨ p = x := List.mem_or_eq_of_mem_set h

/-- One page's bits turn. -/
theorem CT.turn {w w' : World} {c pb : Nat} {v : Value} {bp bq : Nat → Nat} {s : SS} (h : CT w c pb v bp bq s) (k : Nat) (hk : k < s.l.length) (bits : List Bool) (hl : bits.length = s.l[k].bits.length)
    (hb : BM w' (bp s.l[k].at_) (bq s.l[k].at_) bits) (K : Kept (fun x => x = bq s.l[k].at_) w w') : CT w' c pb v bp bq { s with l := s.l.set k ⟨s.l[k].at_, bits⟩ } := by
  have hmem := List.getElem_mem hk
  have hpg := h.pg _ hmem
  have hat : ∀ p ∈ s.l.set k ⟨s.l[k].at_, bits⟩, ∃ q ∈ s.l, q.at_ = p.at_ := fun p hp => by
    rcases mem_setPg hp with hp | rfl
    · exact ⟨p, hp, rfl⟩
    · exact ⟨_, hmem, rfl⟩
  refine ⟨h.hc.kept K (fun e => h.hc.ne hpg.hq (by decide) e), ?_, ?_, ?_, ?_⟩
  · show w'.ownsRow 0 TPg 2 v (s.l.set k _).length (pcells bp (s.l.set k _))
    rw [List.length_set, pcells_map bp _ _ (map_set_at s.l k hk bits)]
    exact ownsRow_kept h.row K (fun b hb e => by obtain ⟨cs, hcs⟩ := ownsRow_blk h.row hb; exact hcs.ne hpg.hq (by decide) e)
  · intro p hp
    obtain ⟨i, hi, rfl⟩ := List.getElem_of_mem hp
    have hi' : i < s.l.length := by simpa using hi
    show BM w' (bp (s.l.set k ⟨s.l[k].at_, bits⟩)[i].at_) (bq (s.l.set k ⟨s.l[k].at_, bits⟩)[i].at_) (s.l.set k ⟨s.l[k].at_, bits⟩)[i].bits
    rw [List.getElem_set]
    split
    · exact hb
    · rename_i e
      have hpi := h.pg _ (List.getElem_mem hi')
      refine hpi.kept K (fun e2 => hpi.hp.ne hpg.hq (by decide) e2) (fun e2 => ?_)
      have hat2 := h.inj _ (List.getElem_mem hi') _ hmem e2
      rcases Nat.lt_trichotomy i k with hlt | he | hlt
      · have := rising_get h.ok.rise hk hlt; omega
      · exact e he.symm
      · have := rising_get h.ok.rise hi' hlt; omega
  · intro p hp q hq e
    obtain ⟨p', hp', e1⟩ := hat p hp
    obtain ⟨q', hq', e2⟩ := hat q hq
    rw [← e1, ← e2] at e ⊢
    exact h.inj p' hp' q' hq' e
  · refine ⟨h.ok.s0, h.ok.s1, fun p hp => ?_, (rising_map _).2 (by rw [map_set_at]; exact (rising_map _).1 h.ok.rise), fun p hp => ?_⟩
    · rcases mem_setPg hp with hp | rfl
      · exact h.ok.many p hp
      · exact hl.trans (h.ok.many _ hmem)
    · obtain ⟨q, hq, e⟩ := hat p hp
      rw [← e]; exact h.ok.al q hq

theorem give_Set (c pb : Nat) (v : Value) (bp bq : Nat → Nat) (s : SS) (P0 Q0 A0 i : Nat) (B0 : List Bool) (w1 : World) (hc : CT w1 c pb v bp bq s) (hb : BM w1 P0 Q0 B0) :
    Calls Tryz.prog 65 #[.pointer (some ⟨P0, 0, none⟩), .bool false, .slice (some ⟨w1.heap.size + 1, 0, none⟩) 1 1]
      ((w1.alloc (.cells #[.pointer (some ⟨P0, 0, none⟩), .int .i64 (A0 : Nat)] TPg)).alloc (.cells #[.int .i64 (i : Nat)] 3)) fun e w3 =>
        e = .returned (.int .i64 (one (turns B0 false (i : Nat)))) ∧ w3.cell? ⟨w1.heap.size, 0, none⟩ = some (.pointer (some ⟨P0, 0, none⟩)) ∧ w3.cell? ⟨w1.heap.size, 1, none⟩ = some (.int .i64 (A0 : Nat)) ∧
        Hid (Blk w3 w1.heap.size [.pointer (some ⟨P0, 0, none⟩), .int .i64 (A0 : Nat)] TPg) ∧ Hid (BM w3 P0 Q0 (setI B0 false (i : Nat))) ∧ Hid (Kept (fun x => x = Q0) w1 w3) := by
  have hq0 := hb.hq.lt
  refine (bitmap_Set P0 Q0 (w1.heap.size + 1) B0 false i _ ((hb.alloc _).alloc _) (by simp)).mono ?_
  rintro e w3 ⟨rfl, hb3, hk3⟩
  have hp3 : Blk w3 w1.heap.size [.pointer (some ⟨P0, 0, none⟩), .int .i64 (A0 : Nat)] TPg := ((Blk.new w1 [.pointer (some ⟨P0, 0, none⟩), .int .i64 (A0 : Nat)] TPg).alloc _).kept hk3 (by show ¬ w1.heap.size = Q0; omega)
  exact ⟨rfl, hp3.cell 0, hp3.cell 1, hp3, hb3, (((Kept.refl NoB w1).alloc _).alloc _).trans' hk3 (fun _ _ e => e.elim) (fun _ _ e => e)⟩

set_option maxRecDepth 100000 in
set_option maxHeartbeats 2000000 in
theorem slab_Give_keep (c pb : Nat) (v : Value) (bp bq : Nat → Nat) (s : SS) (a : Int) (w : World) (h : CT w c pb v bp bq s) (ha : a ≤ 9223372036854775807) (k i : Nat) (hs : s.spot a = some (k, i)) (hk : k < s.l.length) (hc : cnt (s.l[k].bits.set i false) ≠ 0) (hi : i < s.l[k].bits.length) :
    Calls Tryz.prog 41 #[.pointer (some ⟨c, 0, none⟩), .int .i64 a] w fun e w' =>
      e = .returned (.int .i64 0) ∧ CT w' c pb v bp bq { s with l := s.l.set k ⟨s.l[k].at_, s.l[k].bits.set i false⟩ } ∧ Kept (fun x => x = bq s.l[k].at_) w w' := by
  have hsp := slab_spot c pb v bp bq s a w h ha
  rw [hs] at hsp
  have HS := Lib.hid hsp
  have H : Hid (CT w c pb v bp bq s) := h
  obtain ⟨ad, cap, hv, hp⟩ := h.form
  obtain ⟨g, e1, hgl, c1, c2⟩ := hp k hk
  subst e1
  have hbm := h.pg _ (List.getElem_mem hk)
  have hset : setI s.l[k].bits false (i : Nat) = s.l[k].bits.set i false := by unfold setI; rw [if_pos ⟨by omega, by omega⟩]; rfl
  obtain ⟨P0, hP0⟩ : ∃ P0, P0 = bp s.l[k].at_ := ⟨_, rfl⟩
  obtain ⟨Q0, hQ0⟩ : ∃ Q0, Q0 = bq s.l[k].at_ := ⟨_, rfl⟩
  obtain ⟨B0, hB0⟩ : ∃ B0, B0 = s.l[k].bits := ⟨_, rfl⟩
  obtain ⟨A0, hA0⟩ : ∃ A0, A0 = s.l[k].at_ := ⟨_, rfl⟩
  obtain ⟨L, hL⟩ : ∃ L, L = s.l.length := ⟨_, rfl⟩
  rw [← hP0] at c1
  rw [← hA0] at c2
  rw [← hP0, ← hQ0, ← hB0] at hbm
  rw [← hB0] at hc hset
  rw [← hL] at hv
  have hkL : k < L := by omega
  have HF : Hid (∀ w', Kept NoB w w' → w'.cell? ⟨c, 2, none⟩ = some (.slice (some ⟨g, 0, none⟩) L cap) ∧ w'.cell? ⟨g, k * 2, none⟩ = some (.pointer (some ⟨P0, 0, none⟩)) ∧ w'.cell? ⟨g, k * 2 + 1, none⟩ = some (.int .i64 (A0 : Nat)) ∧ Hid (BM w' P0 Q0 B0)) := by
    refine Lib.hid (fun w1 (kk : Kept NoB w w1) => ⟨?_, ?_, ?_, hbm.kept kk (fun e => e) (fun e => e)⟩)
    · rw [← hv]; exact (h.hc.kept kk (fun e => e)).cell 2
    · exact (World.cell?_of_block (w := w) (kk.block g hgl (fun e => e))).trans c1
    · exact (World.cell?_of_block (w := w) (kk.block g hgl (fun e => e))).trans c2
  obtain ⟨N, hN⟩ : ∃ N, N = cnt (B0.set i false) := ⟨_, rfl⟩
  have hN0 : ((N : Int) == 0) = false := by rw [hN]; simp; exact hc
  have HN := Lib.hid hN
  have HEQ := Lib.hid (And.intro hP0 (And.intro hQ0 (And.intro hB0 hA0)))
  have HSET := Lib.hid hset
  clear hsp hs h hv hp c1 c2 hgl hbm hP0 hQ0 hB0 hA0 hL hN hc hset hi
  go_enter Tryz.func41, Tryz.ntmps41
  go_wp2_with (first
    | (go_at_call 71; refine HS.out.mono ?_; rintro e w1 ⟨rfl, hk1⟩; unfold spotV; obtain ⟨y0, y1, y2, HB1⟩ := HF.out _ hk1; have HK1 := Lib.hid hk1; clear hk1)
    | (go_at_call 65; go_loud (refine (give_Set c pb v bp bq s P0 Q0 A0 i B0 w1 (H.out.keptNo HK1.out) HB1.out).mono ?_; rintro e w3 ⟨rfl, x0, x1, HX3, HB3, HK3⟩))
    | (go_at_call 72; go_loud (refine (bitmap_Count P0 Q0 _ w3 HB3.out).mono ?_; rw [HSET.out, ← HN.out]; rintro e w' ⟨rfl, rfl⟩)))
  go_ret
  obtain ⟨e1, e2, e3, e4⟩ := HEQ.out
  have K := HK1.out.trans' HK3.out (H := fun x => x = Q0) (fun _ _ e => e.elim) (fun _ _ e => e)
  have hb := HB3.out
  rw [HSET.out, e1, e2, e3] at hb
  rw [e2] at K
  exact ⟨rfl, H.out.turn k hk _ (by simp) hb K, K⟩
theorem CF_set {c : Nat} {v : Value} {bp bq : Nat → Nat} {s : SS} {k : Nat} (hk : k < s.l.length) {bits : List Bool} {b : Nat} (h : CF c v bp bq { s with l := s.l.set k ⟨s.l[k].at_, bits⟩ } b) : CF c v bp bq s b := by
  rcases h with h | h | ⟨p, hp, h⟩
  · exact .inl h
  · exact .inr (.inl h)
  · rcases mem_setPg hp with hp | rfl
    · exact .inr (.inr ⟨p, hp, h⟩)
    · exact .inr (.inr ⟨_, List.getElem_mem hk, h⟩)

theorem del_Delete (c pb : Nat) (v : Value) (bp bq : Nat → Nat) (s : SS) (k : Nat) (w4 : World) (hc : CT w4 c pb v bp bq s) (hk : k < s.l.length) :
    Calls Tryz.prog 74 #[v, .int .i64 k, .int .i64 ((k : Int) + 1)] w4 fun e w5 =>
      ∃ ad n cap, e = .returned (.slice ad n cap) ∧ w5.cell? ⟨c, 2, none⟩ = some v ∧ w5.frozen? ⟨c, 2, none⟩ = false ∧
        Hid (∀ w6, Kept NoB (w5.setCell ⟨c, 2, none⟩ (.slice ad n cap)) w6 → CT w6 c pb (.slice ad n cap) bp bq { s with l := s.l.eraseIdx k } ∧ (Value.slice ad n cap).ownBlock = v.ownBlock ∧ Kept (fun x => x = c ∨ some x = v.ownBlock) w4 w6) := by
  obtain ⟨ad, cap, hv, _⟩ := hc.form
  obtain ⟨n, hn⟩ : ∃ n, s.l.length = n + 1 := ⟨s.l.length - 1, by omega⟩
  have hlen := hc.ok.len
  have hrow := hc.row
  rw [hn] at hv hrow
  have hd := pages_Delete v ad n cap k (pcells bp s.l) w4 hv (by omega) (by omega) hrow (pcells_one _ _)
  rw [show ((k + 1 : Nat) : Int) = (k : Int) + 1 from rfl] at hd
  refine hd.mono ?_
  rintro e w5 ⟨rfl, hr5, hk5⟩
  have hcv : v.ownBlock ≠ some c := fun e => by obtain ⟨cs, h⟩ := ownsRow_blk hc.row e; exact hc.hc.ne h (by decide) rfl
  have hc5 := hc.hc.kept hk5 (fun e => hcv e.symm)
  have hov : (Value.slice ad n cap).ownBlock = v.ownBlock := by rw [hv]; cases ad <;> rfl
  have hxs : (pcells bp s.l).take (k * 2) ++ (pcells bp s.l).drop ((k + 1) * 2) = pcells bp (s.l.eraseIdx k) := by
    rw [pcells_take, pcells_drop, ← pcells_append, List.eraseIdx_eq_take_drop_succ]
  rw [hxs] at hr5
  have hel : (s.l.eraseIdx k).length = n := by rw [List.length_eraseIdx, if_pos hk]; omega
  refine ⟨ad, n, cap, rfl, hc5.cell 2, hc5.frozen 2, fun w6 k6 => ?_⟩
  have k56 : Kept (fun x => x = c) w5 w6 := (Kept.setCell (F := fun x => x = c) (Kept.refl _ _) ⟨c, 2, none⟩ _ (.inl rfl)).trans' k6 (fun _ _ h => h) (fun _ _ h => h.elim)
  have k46 : Kept (fun x => x = c ∨ some x = v.ownBlock) w4 w6 := (hk5.mono (fun _ h => .inr h)).trans' k56 (fun _ _ h => h) (fun _ _ h => .inl h)
  refine ⟨⟨(hc5.setCell 2 _).kept k6 (fun e => e), ?_, ?_, ?_, ?_⟩, hov, k46⟩
  · show w6.ownsRow 0 TPg 2 _ (s.l.eraseIdx k).length (pcells bp (s.l.eraseIdx k))
    rw [hel]
    exact ownsRow_kept hr5 k56 (fun b hb e => by rw [hov] at hb; rw [e] at hb; exact hcv hb)
  · intro p hp
    have hp' := List.mem_of_mem_eraseIdx hp
    have hpg := hc.pg p hp'
    refine hpg.kept k46 ?_ ?_
    · rintro (e | e)
      · exact hc.hc.ne hpg.hp (by decide) e.symm
      · obtain ⟨cs, h⟩ := ownsRow_blk hc.row e.symm
        exact h.ne hpg.hp (by decide) rfl
    · rintro (e | e)
      · exact hc.hc.ne hpg.hq (by decide) e.symm
      · obtain ⟨cs, h⟩ := ownsRow_blk hc.row e.symm
        exact h.ne hpg.hq (by decide) rfl
  · intro p hp q hq
    exact hc.inj p (List.mem_of_mem_eraseIdx hp) q (List.mem_of_mem_eraseIdx hq)
  · exact ⟨hc.ok.s0, hc.ok.s1, fun p hp => hc.ok.many p (List.mem_of_mem_eraseIdx hp), List.Pairwise.sublist (List.eraseIdx_sublist _ _) hc.ok.rise, fun p hp => hc.ok.al p (List.mem_of_mem_eraseIdx hp)⟩

set_option maxRecDepth 100000 in
set_option maxHeartbeats 2000000 in
theorem slab_Give_last (c pb um : Nat) (v : Value) (bp bq bp' bq' : Nat → Nat) (s : SS) (bs : BS) (a : Int) (w : World) (h : CT w c pb v bp bq s) (hB : BT w pb um bp' bq' bs) (hsep : ∀ b, CF c v bp bq s b → ¬ BF pb um bs.top bp' bq' b) (ha : a ≤ 9223372036854775807) (k i : Nat) (hs : s.spot a = some (k, i)) (hk : k < s.l.length) (hc : cnt (s.l[k].bits.set i false) = 0) (hi : i < s.l[k].bits.length) :
    Calls Tryz.prog 41 #[.pointer (some ⟨c, 0, none⟩), .int .i64 a] w fun e w' =>
      e = .returned (.int .i64 0) ∧ (∃ v', CT w' c pb v' bp bq { s with l := s.l.eraseIdx k } ∧ (∀ b, CF c v' bp bq { s with l := s.l.eraseIdx k } b → CF c v bp bq s b)) ∧ BT w' pb um bp' bq' (bs.give s.l[k].at_).2 ∧
        Kept (fun x => CF c v bp bq s x ∨ BF pb um bs.top bp' bq' x) w w' := by
  have hsp := slab_spot c pb v bp bq s a w h ha
  rw [hs] at hsp
  have HS := Lib.hid hsp
  have HBT := Lib.hid hB
  have HSEP := Lib.hid hsep
  have H : Hid (CT w c pb v bp bq s) := h
  obtain ⟨ad, cap, hv, hp⟩ := h.form
  obtain ⟨g, e1, hgl, c1, c2⟩ := hp k hk
  subst e1
  have hbm := h.pg _ (List.getElem_mem hk)
  have hset : setI s.l[k].bits false (i : Nat) = s.l[k].bits.set i false := by unfold setI; rw [if_pos ⟨by omega, by omega⟩]; rfl
  obtain ⟨P0, hP0⟩ : ∃ P0, P0 = bp s.l[k].at_ := ⟨_, rfl⟩
  obtain ⟨Q0, hQ0⟩ : ∃ Q0, Q0 = bq s.l[k].at_ := ⟨_, rfl⟩
  obtain ⟨B0, hB0⟩ : ∃ B0, B0 = s.l[k].bits := ⟨_, rfl⟩
  obtain ⟨A0, hA0⟩ : ∃ A0, A0 = s.l[k].at_ := ⟨_, rfl⟩
  obtain ⟨L, hL⟩ : ∃ L, L = s.l.length := ⟨_, rfl⟩
  rw [← hP0] at c1
  rw [← hA0] at c2
  rw [← hP0, ← hQ0, ← hB0] at hbm
  rw [← hB0] at hc hset
  rw [← hL] at hv
  have hkL : k < L := by omega
  have HF : Hid (∀ w', Kept NoB w w' → w'.cell? ⟨c, 2, none⟩ = some (.slice (some ⟨g, 0, none⟩) L cap) ∧ w'.cell? ⟨g, k * 2, none⟩ = some (.pointer (some ⟨P0, 0, none⟩)) ∧ w'.cell? ⟨g, k * 2 + 1, none⟩ = some (.int .i64 (A0 : Nat)) ∧ Hid (BM w' P0 Q0 B0)) := by
    refine Lib.hid (fun w1 (kk : Kept NoB w w1) => ⟨?_, ?_, ?_, hbm.kept kk (fun e => e) (fun e => e)⟩)
    · rw [← hv]; exact (h.hc.kept kk (fun e => e)).cell 2
    · exact (World.cell?_of_block (w := w) (kk.block g hgl (fun e => e))).trans c1
    · exact (World.cell?_of_block (w := w) (kk.block g hgl (fun e => e))).trans c2
  obtain ⟨N, hN⟩ : ∃ N, N = cnt (B0.set i false) := ⟨_, rfl⟩
  have hN0 : ((N : Int) == 0) = true := by rw [hN]; simp; exact hc
  have HN := Lib.hid hN
  have HEQ := Lib.hid (And.intro hP0 (And.intro hQ0 (And.intro hB0 hA0)))
  have HSET := Lib.hid hset
  clear hB hsep hsp hs h hv hp c1 c2 hgl hbm hP0 hQ0 hB0 hA0 hL hN hc hset hi
  go_enter Tryz.func41, Tryz.ntmps41
  go_wp2_with (first
    | (go_at_call 71; refine HS.out.mono ?_; rintro e w1 ⟨rfl, hk1⟩; unfold spotV; obtain ⟨y0, y1, y2, HB1⟩ := HF.out _ hk1; have HK1 := Lib.hid hk1; clear hk1)
    | (go_at_call 65; go_loud (refine (give_Set c pb v bp bq s P0 Q0 A0 i B0 w1 (H.out.keptNo HK1.out) HB1.out).mono ?_; rintro e w3 ⟨rfl, x0, x1, HX3, HB3, HK3⟩))
    | (go_at_call 72; go_loud (refine (bitmap_Count P0 Q0 _ w3 HB3.out).mono ?_; rw [HSET.out, ← HN.out]; rintro e w' ⟨rfl, rfl⟩)))
  obtain ⟨e1, e2, e3, e4⟩ := HEQ.out
  have K13 : Hid (Kept (fun x => x = Q0) w w3) := HK1.out.trans' HK3.out (fun _ _ e => e.elim) (fun _ _ e => e)
  have hb3 := HB3.out
  rw [HSET.out] at hb3
  rw [e1, e2, e3] at hb3
  have HC3 : Hid (CT w3 c pb v bp bq { s with l := s.l.set k ⟨s.l[k].at_, s.l[k].bits.set i false⟩ }) := H.out.turn k hk _ (by simp) hb3 (by rw [← e2]; exact K13.out)
  have HQ : Hid (CF c v bp bq s Q0) := .inr (.inr ⟨_, List.getElem_mem hk, .inr e2⟩)
  have HB4 : Hid (BT w3 pb um bp' bq' bs) := HBT.out.kept K13.out (fun b hb e => HSEP.out Q0 HQ.out (by rw [← e]; exact hb))
  have HX := Lib.hid e4
  have z0 := HC3.out.hc.cell 0
  clear e1 e2 e3 e4 hb3
  have HGIVE := Lib.hid (buddy_Give pb um bp' bq' bs A0 w3.drew (HB4.out.keptNo (Kept.drew (Kept.refl _ _))))
  go_region_with (go_at_call 73; go_loud (refine HGIVE.out.mono ?_; rintro e w4 ⟨rfl, HB5, HK5⟩))
  all_goals
    have HC4 : Hid (CT w4 c pb v bp bq { s with l := s.l.set k ⟨s.l[k].at_, s.l[k].bits.set i false⟩ }) := (HC3.out.keptNo (Kept.drew (Kept.refl _ _))).kept HK5 (fun b hb => HSEP.out b (CF_set hk hb))
    have HDEL := Lib.hid (del_Delete c pb v bp bq _ k w4 HC4.out (by simpa using hk))
    have q2 := HC4.out.hc.cell 2
    have hk40 : k < 9223372036854775806 := by have := H.out.ok.len; omega
    have HB6 := Lib.hid HB5
    have HK6 := Lib.hid HK5
    clear HB5 HK5
    go_wp2_with (go_at_call 74; go_loud (refine HDEL.out.mono ?_; rintro e w5 ⟨ad, n, cap', rfl, d2, df, HD5⟩))
    go_ret
    obtain ⟨C6, ho6, K6⟩ := HD5.out _ (Kept.refl _ _)
    rw [List.eraseIdx_set_eq] at C6
    have htop : (bs.give (A0 : Int)).2.top = bs.top := by unfold BS.give; split <;> rfl
    have hQ := HQ.out
    have hX := HX.out
    refine ⟨rfl, ⟨_, C6, fun b hb => ?_⟩, ?_, ?_⟩
    · rcases hb with h | h | ⟨p, hp, h⟩
      · exact .inl h
      · exact .inr (.inl (by rw [← ho6]; exact h))
      · exact .inr (.inr ⟨p, List.mem_of_mem_eraseIdx hp, h⟩)
    · rw [← hX]
      refine HB6.out.kept K6 (fun b hb e => ?_)
      rw [htop] at hb
      rcases e with rfl | e
      · exact HSEP.out _ (.inl rfl) hb
      · exact HSEP.out b (.inr (.inl e.symm)) hb
    · refine ((K13.out.drew.trans' HK6.out (H := fun x => CF c v bp bq s x ∨ BF pb um bs.top bp' bq' x) (fun x _ e => .inl (by rw [show x = Q0 from e]; exact hQ)) (fun _ _ e => .inr e)).trans' K6 (fun _ _ e => e) (fun x _ e => .inl ?_))
      rcases e with e | e
      · exact .inl e
      · exact .inr (.inl e.symm)
end Go.Proofs.YtbkliamhignmfaaGreatDoor
