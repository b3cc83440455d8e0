/- Layer 1: what each function of package arena does, of bytes by their numbers. -/
import Derived.Test.YtbkliamhignmfaaGreatDoorProg
import Derived.Test.YtbkliamhignmfaaGreatDoorBase
import Derived.LoopTactic
namespace Go.Proofs.YtbkliamhignmfaaGreatDoor
open Go.RowKit

def bcells (N : Nat) (m : Nat → Nat) : List Value := (List.range N).map fun j => .int .u8 (m j : Nat)
theorem bcells_length (N : Nat) (m : Nat → Nat) : (bcells N m).length = N := by simp [bcells]
theorem bcells_get (N : Nat) (m : Nat → Nat) (j : Nat) (h : j < N) : (bcells N m)[j]? = some (.int .u8 (m j : Nat)) := by simp [bcells, h]
theorem bcells_set (N : Nat) (m : Nat → Nat) (j x : Nat) : (bcells N m).set j (.int .u8 (x : Nat)) = bcells N (fun i => if i = j then x else m i) := by
  apply List.ext_getElem?
  intro i
  by_cases hi : i < N
  · rw [bcells_get _ _ _ hi]
    by_cases e : j = i
    · subst e
      rw [List.getElem?_set_self (by rw [bcells_length]; exact hi), if_pos rfl]
    · rw [List.getElem?_set_ne e, bcells_get _ _ _ hi, if_neg (fun h => e h.symm)]
  · rw [List.getElem?_eq_none (by rw [List.length_set, bcells_length]; omega), List.getElem?_eq_none (by rw [bcells_length]; omega)]

/-- At block p lies an arena of N bytes, which lie at block q. -/
structure AR (w : World) (p q N : Nat) (m : Nat → Nat) : Prop where
  pos : 65536 ≤ N
  le : N ≤ 1073741824
  lt : ∀ j, m j < 256
  hp : Blk w p [.slice (some ⟨q, 0, none⟩) N N] 127
  hq : Blk w q (bcells N m) 5
theorem AR.kept {F : Nat → Prop} {w w' : World} {p q N : Nat} {m : Nat → Nat} (h : AR w p q N m) (k : Kept F w w') (hp : ¬ F p) (hq : ¬ F q) : AR w' p q N m :=
  ⟨h.pos, h.le, h.lt, h.hp.kept k hp, h.hq.kept k hq⟩

/-- Is a range in an arena? -/
def inA (N : Nat) (at_ n : Int) : Prop := 0 ≤ at_ ∧ 0 ≤ n ∧ at_ ≤ N ∧ n ≤ N - at_

set_option maxRecDepth 100000 in
set_option maxHeartbeats 800000 in
theorem arena_part (p q N : Nat) (m : Nat → Nat) (at_ n : Int) (w : World) (h : AR w p q N m) (hi : inA N at_ n) :
    Calls Tryz.prog 50 #[.pointer (some ⟨p, 0, none⟩), .int .i64 at_, .int .i64 n] w fun e w' =>
      (∃ a, (0 < n → a = ⟨q, at_.toNat, none⟩) ∧ e = .returned (.tuple #[.slice (some a) n.toNat (N - at_.toNat), .int .i64 0])) ∧ w = w' := by
  have h0 := h.hp.cell 0
  have hle := h.le
  obtain ⟨i1, i2, i3, i4⟩ := hi
  go_enter Tryz.func50, Tryz.ntmps50
  go_wp2
  · go_ret2
    exact ⟨⟨_, fun hn => by omega, congrArg (fun k => Ending.returned (.tuple #[.slice (some _) k 0, .int .i64 0])) (show (at_ + n).toNat - at_.toNat = n.toNat by omega)⟩, rfl⟩
  · go_ret2
    exact ⟨⟨_, fun _ => rfl, congrArg (fun k => Ending.returned (.tuple #[.slice (some _) k (N - at_.toNat), .int .i64 0])) (show (at_ + n).toNat - at_.toNat = n.toNat by omega)⟩, rfl⟩

set_option maxRecDepth 100000 in
set_option maxHeartbeats 800000 in
theorem arena_part_bad (p q N : Nat) (m : Nat → Nat) (at_ n : Int) (w : World) (h : AR w p q N m) (hi : ¬ inA N at_ n) :
    Calls Tryz.prog 50 #[.pointer (some ⟨p, 0, none⟩), .int .i64 at_, .int .i64 n] w fun e w' =>
      e = .returned (.tuple #[.slice none 0 0, .int .i64 2]) ∧ w = w' := by
  have h0 := h.hp.cell 0
  have hle := h.le
  unfold inA at hi
  by_cases i1 : 0 ≤ at_
  · by_cases i2 : 0 ≤ n
    · by_cases i3 : at_ ≤ N
      · have i4 : ¬ n ≤ N - at_ := fun e => hi ⟨i1, i2, i3, e⟩
        clear hi
        go_enter Tryz.func50, Tryz.ntmps50
        go_wp2
        go_ret2
        exact ⟨rfl, rfl⟩
      · clear hi
        go_enter Tryz.func50, Tryz.ntmps50
        go_wp2
        go_ret2
        exact ⟨rfl, rfl⟩
    · clear hi
      go_enter Tryz.func50, Tryz.ntmps50
      go_wp2
      go_ret2
      exact ⟨rfl, rfl⟩
  · clear hi
    go_enter Tryz.func50, Tryz.ntmps50
    go_wp2
    go_ret2
    exact ⟨rfl, rfl⟩

set_option maxRecDepth 100000 in
set_option maxHeartbeats 800000 in
theorem arena_words (p q N : Nat) (m : Nat → Nat) (at_ : Int) (n : Nat) (hn : n ≤ 1152921504606846975) (w : World) (h : AR w p q N m) (hi : inA N at_ (8 * n)) (ha : at_ % 8 = 0) :
    Calls Tryz.prog 49 #[.pointer (some ⟨p, 0, none⟩), .int .i64 at_, .int .i64 n] w fun e w' =>
      (∃ a, (0 < n → a = ⟨q, at_.toNat, none⟩) ∧ e = .returned (.tuple #[.slice (some a) (8 * n) (N - at_.toNat), .int .i64 0])) ∧ w = w' := by
  have hle := h.le
  have h1 : at_ ≤ N := hi.2.2.1
  have h2 : 0 ≤ at_ := hi.1
  have hd : (at_ % 8 == 0) = true := by simp [ha]
  have e1 : ((n : Int) * 8).toNat = 8 * n := by omega
  have E1 := Lib.hid e1
  have HA := Lib.hid ha
  clear ha e1
  go_enter Tryz.func49, Tryz.ntmps49
  go_wp2_with fail
  refine (arena_part p q N m at_ _ _ h (by have := hi; unfold inA at *; omega)).mono ?_
  rintro e w' ⟨⟨a, h3, rfl⟩, rfl⟩
  have h3' : 0 < n → a = ⟨q, at_.toNat, none⟩ := fun hh => h3 (by omega)
  have H3 := Lib.hid h3'
  clear h3 h3'
  go_wp2
  go_ret2
  exact ⟨⟨a, H3.out, congrArg (fun k => Ending.returned (.tuple #[.slice (some a) k (N - at_.toNat), .int .i64 0])) E1.out⟩, rfl⟩

set_option maxRecDepth 100000 in
set_option maxHeartbeats 800000 in
theorem arena_words_mis (p q N : Nat) (m : Nat → Nat) (at_ : Int) (n : Nat) (hn : n ≤ 1152921504606846975) (w : World) (h : AR w p q N m) (hi : inA N at_ (8 * n)) (ha : at_ % 8 ≠ 0) :
    Calls Tryz.prog 49 #[.pointer (some ⟨p, 0, none⟩), .int .i64 at_, .int .i64 n] w fun e w' =>
      e = .returned (.tuple #[.slice none 0 0, .int .i64 3]) ∧ w = w' := by
  have hle := h.le
  have h1 : at_ ≤ N := hi.2.2.1
  have h2 : 0 ≤ at_ := hi.1
  have hd : (at_ % 8 != 0) = true := by simp [ha]
  have HA := Lib.hid ha
  clear ha
  go_enter Tryz.func49, Tryz.ntmps49
  go_wp2_with fail
  refine (arena_part p q N m at_ _ _ h (by have := hi; unfold inA at *; omega)).mono ?_
  rintro e w' ⟨⟨a, h3, rfl⟩, rfl⟩
  clear h3
  go_wp2
  go_ret2
  exact ⟨rfl, rfl⟩

set_option maxRecDepth 100000 in
set_option maxHeartbeats 800000 in
theorem arena_words_bad (p q N : Nat) (m : Nat → Nat) (at_ : Int) (n : Nat) (hn : n ≤ 1152921504606846975) (w : World) (h : AR w p q N m) (hi : ¬ inA N at_ (8 * n)) :
    Calls Tryz.prog 49 #[.pointer (some ⟨p, 0, none⟩), .int .i64 at_, .int .i64 n] w fun e w' =>
      e = .returned (.tuple #[.slice none 0 0, .int .i64 2]) ∧ w = w' := by
  go_enter Tryz.func49, Tryz.ntmps49
  go_wp2_with fail
  refine (arena_part_bad p q N m at_ _ _ h (by unfold inA at *; omega)).mono ?_
  rintro e w' ⟨rfl, rfl⟩
  go_wp2
  go_ret2
  exact ⟨rfl, rfl⟩

/-- n bytes, the first one the least. -/
def ldb (m : Nat → Nat) (a : Nat) : Nat → Nat
  | 0 => 0
  | n + 1 => ldb m a n + m (a + n) * 2 ^ (8 * n)
theorem ldb_lt (m : Nat → Nat) (a : Nat) (h : ∀ j, m j < 256) : ∀ n, ldb m a n < 2 ^ (8 * n)
  | 0 => by simp [ldb]
  | n + 1 => by
    have h1 := ldb_lt m a h n
    have h2 := h (a + n)
    have h3 : m (a + n) * 2 ^ (8 * n) ≤ 255 * 2 ^ (8 * n) := Nat.mul_le_mul_right _ (by omega)
    have e : 2 ^ (8 * (n + 1)) = 256 * 2 ^ (8 * n) := by rw [Nat.mul_add, Nat.pow_add]; omega
    rw [e]; unfold ldb; omega
/-- A word. -/
def ldw (m : Nat → Nat) (a : Nat) : Nat := ldb m a 8
theorem ldw_lt (m : Nat → Nat) (a : Nat) (h : ∀ j, m j < 256) : ldw m a < 18446744073709551616 := by
  have := ldb_lt m a h 8
  exact Nat.lt_of_lt_of_le this (by decide)

theorem ld_or (x c k : Nat) (hx : x < 2 ^ (8 * k)) (hc : c < 256) (hk : k < 8) :
    bits BinOp.or IntKind.u64 (x : Int) (IntKind.u64.wrap ((c : Int) * 2 ^ (8 * k))) = ((x + c * 2 ^ (8 * k) : Nat) : Int) := by
  have hp : c * 2 ^ (8 * k) < 18446744073709551616 := by
    have h1 : (c + 1) * 2 ^ (8 * k) ≤ 256 * 2 ^ (8 * k) := Nat.mul_le_mul_right _ (by omega)
    have h2 : 256 * 2 ^ (8 * k) = 2 ^ (8 * (k + 1)) := by rw [Nat.mul_add, Nat.pow_add]; omega
    have h3 : 2 ^ (8 * (k + 1)) ≤ 2 ^ 64 := Nat.pow_le_pow_right (by omega) (by omega)
    have h4 : 0 < 2 ^ (8 * k) := Nat.two_pow_pos _
    have h5 : (2 : Nat) ^ 64 = 18446744073709551616 := by decide
    rw [Nat.add_mul] at h1
    omega
  have h6 : x < 18446744073709551616 := by
    have h3 : 2 ^ (8 * k) ≤ 2 ^ 64 := Nat.pow_le_pow_right (by omega) (by omega)
    have h5 : (2 : Nat) ^ 64 = 18446744073709551616 := by decide
    omega
  have e : IntKind.u64.wrap ((c : Int) * 2 ^ (8 * k)) = ((c * 2 ^ (8 * k) : Nat) : Int) := by
    rw [IntKind.wrap_u64]
    have : ((c : Int) * 2 ^ (8 * k)) = ((c * 2 ^ (8 * k) : Nat) : Int) := by simp
    rw [this]; omega
  rw [e, bits_or_u64_nat _ _ h6 hp, Nat.or_comm, Nat.mul_comm c, ← Nat.two_pow_add_eq_or_of_lt hx]
  congr 1
  omega

set_option maxRecDepth 100000 in
set_option maxHeartbeats 800000 in
theorem arena_Load (p q N : Nat) (m : Nat → Nat) (at_ : Int) (w : World) (h : AR w p q N m) (hi : inA N at_ 8) (ha : at_ % 8 = 0) :
    Calls Tryz.prog 17 #[.pointer (some ⟨p, 0, none⟩), .int .i64 at_] w fun e w' =>
      e = .returned (.tuple #[.int .u64 (ldw m at_.toNat : Nat), .int .i64 0]) ∧ w = w' := by
  have hle := h.le
  have h1 : at_ ≤ N := hi.2.2.1
  have h2 : 0 ≤ at_ := hi.1
  have h3 : 8 ≤ N - at_ := hi.2.2.2
  have HC := Lib.hid (arena_words p q N m at_ 1 (by omega) w h hi ha)
  clear ha
  go_enter Tryz.func17, Tryz.ntmps17
  go_wp2_with fail
  refine HC.out.mono ?_
  rintro e w' ⟨⟨a, h4, rfl⟩, rfl⟩
  obtain rfl := h4 (by omega)
  clear h4 HC
  go_wp2
  go_loop [8, 9, 10, 19] (fun x _ _ i => ∃ k : Nat, k ≤ 8 ∧ i = .int .i64 k ∧ x = .int .u64 (ldb m at_.toNat k : Nat)) (fun _ _ _ i => 8 - (intOf i).toNat)
  case atStart => exact ⟨0, by omega, rfl, rfl⟩
  case round =>
    obtain ⟨k, hk, rfl, rfl⟩ := hrel
    by_cases hlt : k < 8
    · have hx := h.hq.cell (at_.toNat + k)
      rw [bcells_get _ _ _ (by omega)] at hx
      have hm := h.lt (at_.toNat + k)
      have hb := ldb_lt m at_.toNat h.lt k
      have e := ld_or (ldb m at_.toNat k) (m (at_.toNat + k)) k hb hm hlt
      have E := Lib.hid e
      clear e hb
      go_wp2
      go_round
      case rel => exact ⟨k + 1, by omega, by go_num, by rw [E.out]; rfl⟩
      case measure => simp [intOf]; omega
    · have e : k = 8 := by omega
      have E : Hid (ldb m at_.toNat k = ldw m at_.toNat) := by rw [e]; rfl
      clear e
      go_wp2
      go_ret2
      exact ⟨by rw [← E.out]; rfl, rfl⟩

set_option maxRecDepth 100000 in
theorem arena_Load_mis (p q N : Nat) (m : Nat → Nat) (at_ : Int) (w : World) (h : AR w p q N m) (hi : inA N at_ 8) (ha : at_ % 8 ≠ 0) :
    Calls Tryz.prog 17 #[.pointer (some ⟨p, 0, none⟩), .int .i64 at_] w fun e w' =>
      e = .returned (.tuple #[.int .u64 0, .int .i64 3]) ∧ w = w' := by
  have HC := Lib.hid (arena_words_mis p q N m at_ 1 (by omega) w h hi ha)
  clear ha
  go_enter Tryz.func17, Tryz.ntmps17
  go_wp2_with fail
  refine HC.out.mono ?_
  rintro e w' ⟨rfl, rfl⟩
  go_wp2
  refine wp_loop_rounds 1 ?_
  rw [rounds_succ]
  go_wp2
  go_ret2
  exact ⟨rfl, rfl⟩

set_option maxRecDepth 100000 in
theorem arena_Load_bad (p q N : Nat) (m : Nat → Nat) (at_ : Int) (w : World) (h : AR w p q N m) (hi : ¬ inA N at_ 8) :
    Calls Tryz.prog 17 #[.pointer (some ⟨p, 0, none⟩), .int .i64 at_] w fun e w' =>
      e = .returned (.tuple #[.int .u64 0, .int .i64 2]) ∧ w = w' := by
  have HC := Lib.hid (arena_words_bad p q N m at_ 1 (by omega) w h hi)
  go_enter Tryz.func17, Tryz.ntmps17
  go_wp2_with fail
  refine HC.out.mono ?_
  rintro e w' ⟨rfl, rfl⟩
  go_wp2
  refine wp_loop_rounds 1 ?_
  rw [rounds_succ]
  go_wp2
  go_ret2
  exact ⟨rfl, rfl⟩

/-- Bytes a to a + n are c. -/
def fillm (m : Nat → Nat) (a n c : Nat) : Nat → Nat := fun j => if a ≤ j ∧ j < a + n then c else m j

theorem AR.setB {w : World} {p q N : Nat} {m : Nat → Nat} (h : AR w p q N m) (j c : Nat) (hc : c < 256) :
    AR (w.setCell ⟨q, j, none⟩ (.int .u8 (c : Nat))) p q N (fun i => if i = j then c else m i) := by
  have hpq : p ≠ q := h.hp.ne h.hq (by decide)
  refine ⟨h.pos, h.le, fun i => ?_, h.hp.setCell_ne _ _ (fun e => hpq e.symm), ?_⟩
  · show (if i = j then c else m i) < 256
    split
    · exact hc
    · exact h.lt i
  · rw [← bcells_set]; exact h.hq.setCell _ _

set_option maxRecDepth 100000 in
set_option maxHeartbeats 800000 in
theorem arena_Fill (p q N : Nat) (m : Nat → Nat) (at_ n : Int) (c : Nat) (hc : c < 256) (w : World) (h : AR w p q N m) (hi : inA N at_ n) :
    Calls Tryz.prog 18 #[.pointer (some ⟨p, 0, none⟩), .int .i64 at_, .int .i64 n, .int .u8 c] w fun e w' =>
      e = .returned (.int .i64 0) ∧ AR w' p q N (fillm m at_.toNat n.toNat c) ∧ Kept (fun x => x = q) w w' := by
  have hle := h.le
  have h1 : at_ ≤ N := hi.2.2.1
  have h2 : 0 ≤ at_ := hi.1
  have h3 : 0 ≤ n := hi.2.1
  have h5 : n ≤ N - at_ := hi.2.2.2
  have HC := Lib.hid (arena_part p q N m at_ n w h hi)
  go_enter Tryz.func18, Tryz.ntmps18
  go_wp2_with fail
  refine HC.out.mono ?_
  rintro e w' ⟨⟨a, h4, rfl⟩, rfl⟩
  have H4 := Lib.hid h4
  clear h4 HC
  go_wp2
  go_loopw [11, 21] (fun _ i wr => ∃ k : Nat, k ≤ n.toNat ∧ i = .int .i64 k ∧ AR wr p q N (fillm m at_.toNat k c) ∧ Kept (fun x => x = q) w wr) (fun _ i _ => n.toNat - (intOf i).toNat)
  case atStart => exact ⟨0, by omega, rfl, by have e : fillm m at_.toNat 0 c = m := by funext j; simp only [fillm]; rw [if_neg (by omega)]
                                              rw [e]; exact h, Kept.refl _ _⟩
  case round =>
    obtain ⟨k, hk, rfl, hr, hK⟩ := hrel
    by_cases hlt : k < n.toNat
    · obtain rfl := H4.out (by omega)
      have hx := hr.hq.cell (at_.toNat + k)
      rw [bcells_get _ _ _ (by omega)] at hx
      have hfz := hr.hq.frozen (at_.toNat + k)
      go_wp2
      go_roundw
      case rel =>
        refine ⟨k + 1, by omega, by go_num, ?_, Kept.setCell hK _ _ (Or.inl rfl)⟩
        have e : fillm m at_.toNat (k + 1) c = fun i => if i = at_.toNat + k then c else fillm m at_.toNat k c i := by
          funext j; simp only [fillm]
          by_cases e1 : j = at_.toNat + k
          · rw [if_pos e1, if_pos (by omega)]
          · rw [if_neg e1]
            by_cases e2 : at_.toNat ≤ j ∧ j < at_.toNat + k
            · rw [if_pos e2, if_pos (by omega)]
            · rw [if_neg e2, if_neg (by omega)]
        rw [e]
        exact hr.setB _ _ hc
      case measure => simp [intOf]; omega
    · have e : k = n.toNat := by omega
      have E := Lib.hid e
      clear e H4
      go_wp2
      go_ret
      exact ⟨rfl, by rw [← E.out]; exact hr, hK⟩

set_option maxRecDepth 100000 in
theorem arena_Fill_bad (p q N : Nat) (m : Nat → Nat) (at_ n : Int) (c : Nat) (w : World) (h : AR w p q N m) (hi : ¬ inA N at_ n) :
    Calls Tryz.prog 18 #[.pointer (some ⟨p, 0, none⟩), .int .i64 at_, .int .i64 n, .int .u8 c] w fun e w' =>
      e = .returned (.int .i64 2) ∧ w = w' := by
  have HC := Lib.hid (arena_part_bad p q N m at_ n w h hi)
  go_enter Tryz.func18, Tryz.ntmps18
  go_wp2_with fail
  refine HC.out.mono ?_
  rintro e w' ⟨rfl, rfl⟩
  go_wp2
  refine wp_loop_rounds 1 ?_
  rw [rounds_succ]
  go_wp2
  go_ret
  exact ⟨rfl, rfl⟩

/-- k bytes of words, from a on. -/
def stb (m : Nat → Nat) (a : Nat) (l : List Nat) (k : Nat) : Nat → Nat := fun j => if a ≤ j ∧ j < a + k then l.getD ((j - a) / 8) 0 / 2 ^ (8 * ((j - a) % 8)) % 256 else m j
/-- Words are stored. -/
def stm (m : Nat → Nat) (a : Nat) (l : List Nat) : Nat → Nat := stb m a l (8 * l.length)

/-- A slice's words, as they lie, out of block q. -/
def WordsAt (w : World) (s : Option Addr) (l : List Nat) (q : Nat) : Prop :=
  (∀ (j : Nat) (h : j < l.length), ∃ b o, s = some ⟨b, o, none⟩ ∧ b ≠ q ∧ b < w.heap.size ∧ w.cell? ⟨b, o + j, none⟩ = some (.int .u64 (l[j] : Nat))) ∧ ∀ x ∈ l, x < 18446744073709551616

theorem stb_zero (m : Nat → Nat) (a : Nat) (l : List Nat) : stb m a l 0 = m := by
  funext j; simp only [stb]; rw [if_neg (by omega)]
theorem stb_succ (m : Nat → Nat) (a : Nat) (l : List Nat) (k : Nat) : stb m a l (k + 1) = fun i => if i = a + k then l.getD (k / 8) 0 / 2 ^ (8 * (k % 8)) % 256 else stb m a l k i := by
  funext j; simp only [stb]
  by_cases e1 : j = a + k
  · subst e1
    rw [if_pos rfl, if_pos (by omega), Nat.add_sub_cancel_left]
  · rw [if_neg e1]
    by_cases e2 : a ≤ j ∧ j < a + k
    · rw [if_pos e2, if_pos (by omega)]
    · rw [if_neg e2, if_neg (by omega)]

set_option maxRecDepth 100000 in
set_option maxHeartbeats 800000 in
theorem arena_Store (p q N : Nat) (m : Nat → Nat) (at_ : Int) (s : Option Addr) (l : List Nat) (c : Nat) (w : World) (h : AR w p q N m) (hw : WordsAt w s l q)
    (hi : inA N at_ (8 * l.length)) (ha : at_ % 8 = 0) :
    Calls Tryz.prog 31 #[.pointer (some ⟨p, 0, none⟩), .int .i64 at_, .slice s l.length c] w fun e w' =>
      e = .returned (.int .i64 0) ∧ AR w' p q N (stm m at_.toNat l) ∧ Kept (fun x => x = q) w w' := by
  have hle := h.le
  have h1 : at_ ≤ N := hi.2.2.1
  have h2 : 0 ≤ at_ := hi.1
  have h5 : 8 * (l.length : Int) ≤ N - at_ := hi.2.2.2
  have HC := Lib.hid (arena_words p q N m at_ l.length (by omega) w h hi ha)
  clear ha
  obtain ⟨hw, hx⟩ := hw
  have HW := Lib.hid hw
  have HX := Lib.hid hx
  clear hw hx
  go_enter Tryz.func31, Tryz.ntmps31
  go_wp2_with fail
  refine HC.out.mono ?_
  rintro e w' ⟨⟨a, h4, rfl⟩, rfl⟩
  have H4 := Lib.hid h4
  clear h4 HC
  go_wp2
  go_loopw [9, 20] (fun _ i wr => ∃ k : Nat, k ≤ 8 * l.length ∧ i = .int .i64 k ∧ AR wr p q N (stb m at_.toNat l k) ∧ Kept (fun x => x = q) w wr) (fun _ i _ => 8 * l.length - (intOf i).toNat)
  case atStart => exact ⟨0, by omega, rfl, by rw [stb_zero]; exact h, Kept.refl _ _⟩
  case round =>
    obtain ⟨k, hk, rfl, hr, hK⟩ := hrel
    by_cases hlt : k < 8 * l.length
    · obtain rfl := H4.out (by omega)
      obtain ⟨b, o, hs, hb, hbl, hcl⟩ := HW.out (k / 8) (by omega)
      subst hs
      have hx := hr.hq.cell (at_.toNat + k)
      rw [bcells_get _ _ _ (by omega)] at hx
      have hfz := hr.hq.frozen (at_.toNat + k)
      have hcl' : wr.cell? ⟨b, o + k / 8, none⟩ = some (.int .u64 (l[k / 8] : Nat)) := (World.cell?_of_block (w := w) (hK.block b hbl hb)).trans hcl
      have hxl := HX.out l[k / 8] (List.getElem_mem _)
      generalize hv : l[k / 8] = x at *
      have HV := Lib.hid hv
      clear hcl hv
      go_wp2
      go_roundw
      case rel =>
        have e : ((x : Int) / 2 ^ (8 * (k % 8)) % 256) = ((x / 2 ^ (8 * (k % 8)) % 256 : Nat) : Int) := by simp
        have e2 : l.getD (k / 8) 0 = x := by rw [← HV.out]; simp [List.getD_eq_getElem?_getD, show k / 8 < l.length by omega]
        rw [e]
        refine ⟨k + 1, by omega, by go_num, ?_, Kept.setCell hK _ _ (Or.inl rfl)⟩
        rw [stb_succ, e2]
        exact hr.setB _ _ (Nat.mod_lt _ (by omega))
      case measure => simp [intOf]; omega
    · have e : k = 8 * l.length := by omega
      have E := Lib.hid e
      clear e H4
      go_wp2
      go_ret
      exact ⟨rfl, by unfold stm; rw [← E.out]; exact hr, hK⟩

set_option maxRecDepth 100000 in
theorem arena_Store_mis (p q N : Nat) (m : Nat → Nat) (at_ : Int) (s : Option Addr) (l : List Nat) (c : Nat) (hl : l.length ≤ 1152921504606846975) (w : World) (h : AR w p q N m) (hi : inA N at_ (8 * l.length)) (ha : at_ % 8 ≠ 0) :
    Calls Tryz.prog 31 #[.pointer (some ⟨p, 0, none⟩), .int .i64 at_, .slice s l.length c] w fun e w' =>
      e = .returned (.int .i64 3) ∧ w = w' := by
  have HC := Lib.hid (arena_words_mis p q N m at_ l.length hl w h hi ha)
  go_enter Tryz.func31, Tryz.ntmps31
  go_wp2_with fail
  refine HC.out.mono ?_
  rintro e w' ⟨rfl, rfl⟩
  go_wp2
  refine wp_loop_rounds 1 ?_
  rw [rounds_succ]
  go_wp2
  go_ret
  exact ⟨rfl, rfl⟩

set_option maxRecDepth 100000 in
theorem arena_Store_bad (p q N : Nat) (m : Nat → Nat) (at_ : Int) (s : Option Addr) (l : List Nat) (c : Nat) (hl : l.length ≤ 1152921504606846975) (w : World) (h : AR w p q N m) (hi : ¬ inA N at_ (8 * l.length)) :
    Calls Tryz.prog 31 #[.pointer (some ⟨p, 0, none⟩), .int .i64 at_, .slice s l.length c] w fun e w' =>
      e = .returned (.int .i64 2) ∧ w = w' := by
  have HC := Lib.hid (arena_words_bad p q N m at_ l.length hl w h hi)
  go_enter Tryz.func31, Tryz.ntmps31
  go_wp2_with fail
  refine HC.out.mono ?_
  rintro e w' ⟨rfl, rfl⟩
  go_wp2
  refine wp_loop_rounds 1 ?_
  rw [rounds_succ]
  go_wp2
  go_ret
  exact ⟨rfl, rfl⟩

end Go.Proofs.YtbkliamhignmfaaGreatDoor
