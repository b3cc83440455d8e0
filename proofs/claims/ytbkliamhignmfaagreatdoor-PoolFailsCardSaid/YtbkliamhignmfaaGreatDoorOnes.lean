/- math/bits: how many bits are on. -/
import Derived.Test.YtbkliamhignmfaaGreatDoorProg
import Derived.Test.YtbkliamhignmfaaGreatDoorBase
import Derived.Test.YtbkliamhignmfaaGreatDoorPop
namespace Go.Proofs.YtbkliamhignmfaaGreatDoor
open Go.RowKit

theorem and_step (w n x m : Nat) (hx : x < 18446744073709551616) (hm : fmask w n = m) (hm2 : m < 18446744073709551616) (hp : pstep w n x < 18446744073709551616) (q : Nat) (hq : 2 ^ w = q) :
    IntKind.u64.wrap (bits BinOp.and IntKind.u64 ((x : Int) / (q : Nat)) (m : Nat) + bits BinOp.and IntKind.u64 (x : Int) (m : Nat)) = ((pstep w n x : Nat) : Int) := by
  have e : ((x : Int) / (q : Nat)) = ((x / q : Nat) : Int) := by simp
  rw [e, bits_and_u64_nat _ _ (Nat.lt_of_le_of_lt (Nat.div_le_self _ _) hx) hm2, bits_and_u64_nat _ _ hx hm2, IntKind.wrap_u64]
  unfold pstep at hp ⊢
  rw [hm, hq] at hp ⊢
  omega

theorem ones_last (f : Nat) (hf : f < 18446744073709551616) : bits BinOp.and IntKind.i64 (IntKind.i64.wrap (f : Int)) 127 = ((f % 128 : Nat) : Int) := by
  have h1 : (BitVec.ofInt 64 (IntKind.i64.wrap (f : Int))).toNat = f := by
    rw [BitVec.toNat_ofInt]
    simp [IntKind.wrap, IntKind.signed, IntKind.bits]
    split <;> omega
  show IntKind.i64.wrap ((BitVec.ofInt 64 (IntKind.i64.wrap (f : Int)) &&& BitVec.ofInt 64 127).toNat : Int) = _
  rw [BitVec.toNat_and, h1]
  have h2 : (BitVec.ofInt 64 127).toNat = 2 ^ 7 - 1 := by decide
  rw [h2, Nat.and_two_pow_sub_one_eq_mod]
  simp [IntKind.wrap, IntKind.signed, IntKind.bits]
  omega

theorem ones64_walk (x : Nat) (w : World) (hx : x < 18446744073709551616) :
    Calls Tryz.prog 93 #[.int .u64 x] w fun e w' => e = .returned (.int .i64 (ones64 x : Nat)) ∧ w = w' := by
  have pa := pstep_lt 1 32 x (by omega)
  obtain ⟨a, ea⟩ : ∃ a, a = pstep 1 32 x := ⟨_, rfl⟩
  rw [← ea] at pa
  simp only [Nat.reduceMul, Nat.reducePow] at pa
  have h1 := and_step 1 32 x 6148914691236517205 hx (by decide +kernel) (by decide) (by rw [← ea]; exact pa) 2 rfl
  rw [← ea] at h1
  have pb := pstep_lt 2 16 a (by omega)
  obtain ⟨b, eb⟩ : ∃ b, b = pstep 2 16 a := ⟨_, rfl⟩
  rw [← eb] at pb
  simp only [Nat.reduceMul, Nat.reducePow] at pb
  have h2 := and_step 2 16 a 3689348814741910323 pa (by decide +kernel) (by decide) (by rw [← eb]; exact pb) 4 rfl
  rw [← eb] at h2
  obtain ⟨c, ec⟩ : ∃ c, c = (b + b / 16) &&& fmask 4 8 := ⟨_, rfl⟩
  have fm : fmask 4 8 = 1085102592571150095 := by decide +kernel
  have pc : c < 18446744073709551616 := by rw [ec, fm]; exact Nat.lt_of_le_of_lt Nat.and_le_right (by decide)
  have h3 : bits BinOp.and IntKind.u64 (IntKind.u64.wrap ((b : Int) / 16 + (b : Int))) 1085102592571150095 = ((c : Nat) : Int) := by
    have e : IntKind.u64.wrap ((b : Int) / 16 + (b : Int)) = (((b + b / 16) % 18446744073709551616 : Nat) : Int) := by rw [IntKind.wrap_u64]; omega
    rw [e]
    have := bits_and_u64_nat ((b + b / 16) % 18446744073709551616) 1085102592571150095 (Nat.mod_lt _ (by decide)) (by decide)
    rw [show (1085102592571150095 : Int) = ((1085102592571150095 : Nat) : Int) from rfl, this, ec, fm]
    congr 1
    apply Nat.eq_of_testBit_eq
    intro i
    rw [Nat.testBit_and, Nat.testBit_and, show (18446744073709551616 : Nat) = 2 ^ 64 from by decide, Nat.testBit_mod_two_pow]
    by_cases hi : i < 64
    · simp [hi]
    · have : (1085102592571150095 : Nat).testBit i = false := Nat.testBit_lt_two_pow (Nat.lt_of_lt_of_le (show 1085102592571150095 < 2 ^ 64 by decide) (Nat.pow_le_pow_right (by omega) (by omega)))
      simp [this]
  obtain ⟨d, ed⟩ : ∃ d, d = (c + c / 256) % 18446744073709551616 := ⟨_, rfl⟩
  have pd : d < 18446744073709551616 := by omega
  have h4 : IntKind.u64.wrap ((c : Int) + (c : Int) / 256) = ((d : Nat) : Int) := by rw [IntKind.wrap_u64]; omega
  obtain ⟨g, eg⟩ : ∃ g, g = (d + d / 65536) % 18446744073709551616 := ⟨_, rfl⟩
  have pg : g < 18446744073709551616 := by omega
  have h5 : IntKind.u64.wrap ((d : Int) + (d : Int) / 65536) = ((g : Nat) : Int) := by rw [IntKind.wrap_u64]; omega
  obtain ⟨f, ef⟩ : ∃ f, f = (g + g / 4294967296) % 18446744073709551616 := ⟨_, rfl⟩
  have pf : f < 18446744073709551616 := by omega
  have h6 : IntKind.u64.wrap ((g : Int) + (g : Int) / 4294967296) = ((f : Nat) : Int) := by rw [IntKind.wrap_u64]; omega
  have h7 := ones_last f pf
  have fin : ones64 x = f % 128 := by unfold ones64; simp only [← ea, ← eb, ← ec, ← ed, ← eg, ← ef]
  have FIN := Lib.hid fin
  clear fin ea eb ec ed eg ef fm
  simp only [Int.cast_ofNat_Int] at h1 h2
  go_enter Tryz.func93, Tryz.ntmps93
  go_wp2
  go_ret
  rw [FIN.out]
  exact ⟨congrArg (fun z => Ending.returned (.int .i64 z)) (show bits BinOp.and IntKind.i64 (wrap64 (f : Int)) 127 = _ from by
    have e : IntKind.i64.wrap (f : Int) = wrap64 (f : Int) := by simp [IntKind.wrap, IntKind.signed, IntKind.bits, wrap64]; omega
    rw [← e]; exact h7), rfl⟩

theorem ones64_pop (x : Nat) (w : World) (hx : x < 18446744073709551616) :
    Calls Tryz.prog 93 #[.int .u64 x] w fun e w' => e = .returned (.int .i64 (popc 64 x : Nat)) ∧ w = w' := by
  have h := ones64_walk x w hx
  rw [ones64_eq x hx] at h
  exact h

/-- .. of an uint. -/
theorem ones_walk (x : Nat) (w : World) (hx : x < 18446744073709551616) :
    Calls Tryz.prog 62 #[.int .u64 x] w fun e w' => e = .returned (.int .i64 (popc 64 x : Nat)) ∧ w = w' := by
  have h := ones64_walk x w hx
  rw [ones64_eq x hx] at h
  go_enter Tryz.func62, Tryz.ntmps62
  go_wp2_with (go_at_call 93; refine h.mono ?_; rintro e w' ⟨rfl, rfl⟩)
  go_ret
  exact ⟨rfl, rfl⟩
end Go.Proofs.YtbkliamhignmfaaGreatDoor
