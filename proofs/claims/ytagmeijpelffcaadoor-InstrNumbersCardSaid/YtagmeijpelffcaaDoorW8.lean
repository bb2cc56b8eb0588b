/- Walks of layer 16: Signed, Unsigned, bit of the reference; the plain facts that Calculate of the reference wants. -/
import Derived.Test.YtagmeijpelffcaaDoorW7
namespace Go.Proofs.YtagmeijpelffcaaDoor
open Go.RowKit
set_option linter.unusedSimpArgs false
set_option linter.unusedVariables false
theorem refSigned_any (x : Int) (w : World) (h0 : 0 ≤ x) (h1 : x < 4294967296) :
    Calls Tryd.prog 21 #[.int .u32 x] w fun e w' => e = .returned (.int .i64 (sgn x)) ∧ w = w' := by
  go_enter Tryd.func21, Tryd.ntmps21
  go_wp2
  all_goals
    go_ret
    exact ⟨ret_int (by unfold sgn; split <;> omega), rfl⟩
theorem tmod_mod (n : Int) : (if n.tmod 4294967296 < 0 then n.tmod 4294967296 + 4294967296 else n.tmod 4294967296) = n % 4294967296 := by
  have h := Int.tmod_eq_emod (a := n) (b := 4294967296)
  rw [h]
  split <;> split <;> (try split at *) <;> omega
theorem tmod_bd (n : Int) : -4294967296 < n.tmod 4294967296 ∧ n.tmod 4294967296 < 4294967296 := by
  have h := Int.tmod_eq_emod (a := n) (b := 4294967296)
  rw [h]
  split <;> omega
theorem refUnsigned_any (n : Int) (w : World) :
    Calls Tryd.prog 22 #[.int .i64 n] w fun e w' => e = .returned (.int .u32 (n % 4294967296)) ∧ w = w' := by
  obtain ⟨b1, b2⟩ := tmod_bd n
  have hm := Lib.hid (tmod_mod n)
  go_enter Tryd.func22, Tryd.ntmps22
  go_wp2
  · go_ret
    have h := hm.out
    rw [if_pos (by assumption)] at h
    exact ⟨ret_int h, rfl⟩
  · go_ret
    have h := hm.out
    rw [if_neg (by omega)] at h
    exact ⟨ret_int h, rfl⟩
theorem and_one (z : Int) (h0 : 0 ≤ z) (h1 : z < 4294967296) : wrap64 (bits .and .u32 z 1) = z % 2 := by
  rw [u32_and z 1 h0 h1 (by omega) (by omega)]
  have : ((1 : Int).toNat) = 2 ^ 1 - 1 := rfl
  rw [this, Nat.and_two_pow_sub_one_eq_mod]
  unfold wrap64
  omega
theorem shr_bd (x : Int) (k : Nat) (h0 : 0 ≤ x) (h1 : x < 4294967296) : 0 ≤ x / 2 ^ k ∧ x / 2 ^ k < 4294967296 := by
  have hp : (0 : Int) < 2 ^ k := Int.pow_pos (by decide)
  refine ⟨Int.ediv_nonneg h0 (by omega), ?_⟩
  have := Int.ediv_le_self (2 ^ k) h0
  omega
/-- The bit i of a word. -/
def bitI (x i : Int) : Int := x / 2 ^ i.toNat % 2
theorem bitI_01 (x i : Int) : bitI x i = 0 ∨ bitI x i = 1 := by unfold bitI; omega
/-- The bits of z above i. -/
def upper (z : Nat) (i : Int) : Int := ((z / 2 ^ (i + 1).toNat : Nat) : Int)
theorem bit_any (x i : Int) (w : World) (h0 : 0 ≤ x) (h1 : x < 4294967296) (h2 : 0 ≤ i) (h3 : i < 32) :
    Calls Tryd.prog 55 #[.int .u32 x, .int .i64 i] w fun e w' => e = .returned (.int .i64 (bitI x i)) ∧ w = w' := by
  have he := Lib.hid (and_one (x / 2 ^ i.toNat) (shr_bd x i.toNat h0 h1).1 (shr_bd x i.toNat h0 h1).2)
  go_enter Tryd.func55, Tryd.ntmps55
  go_wp2
  go_ret
  exact ⟨ret_int he.out, rfl⟩
/-- One bit more: the bits from k on are twice those from k + 1 on and the bit k. -/
theorem step_div (z k : Nat) : z / 2 ^ k = 2 * (z / 2 ^ (k + 1)) + z / 2 ^ k % 2 := by
  rw [Nat.pow_succ, ← Nat.div_div_eq_div_mul]
  omega
theorem bit_eq (z k : Nat) : z / 2 ^ k % 2 = (z.testBit k).toNat := by
  rw [Nat.testBit_eq_decide_div_mod_eq]
  have : z / 2 ^ k % 2 < 2 := Nat.mod_lt _ (by decide)
  by_cases h : z / 2 ^ k % 2 = 1
  · simp [h]
  · have h0 : z / 2 ^ k % 2 = 0 := by omega
    simp [h0]
theorem cast_bit (z k : Nat) : ((z : Int) / 2 ^ k % 2) = ((z / 2 ^ k % 2 : Nat) : Int) := by simp
theorem bit_and (x y k : Nat) : (x &&& y) / 2 ^ k % 2 = if x / 2 ^ k % 2 + y / 2 ^ k % 2 = 2 then 1 else 0 := by
  rw [bit_eq, bit_eq, bit_eq, Nat.testBit_and]
  cases x.testBit k <;> cases y.testBit k <;> rfl
theorem bit_or (x y k : Nat) : (x ||| y) / 2 ^ k % 2 = if 0 < x / 2 ^ k % 2 + y / 2 ^ k % 2 then 1 else 0 := by
  rw [bit_eq, bit_eq, bit_eq, Nat.testBit_or]
  cases x.testBit k <;> cases y.testBit k <;> rfl
theorem bit_xor (x y k : Nat) : (x ^^^ y) / 2 ^ k % 2 = if x / 2 ^ k % 2 + y / 2 ^ k % 2 = 1 then 1 else 0 := by
  rw [bit_eq, bit_eq, bit_eq, Nat.testBit_xor]
  cases x.testBit k <;> cases y.testBit k <;> rfl
theorem upper_step (z : Nat) (i : Int) (h : 0 ≤ i) : upper z (i - 1) = 2 * upper z i + ((z / 2 ^ i.toNat % 2 : Nat) : Int) := by
  unfold upper
  have e1 : (i - 1 + 1).toNat = i.toNat := by omega
  have e2 : (i + 1).toNat = i.toNat + 1 := by omega
  have := step_div z i.toNat
  rw [e1, e2]
  omega
theorem upper_bd (z : Nat) (i : Int) (h : z < 4294967296) : 0 ≤ upper z i ∧ upper z i < 4294967296 := by
  unfold upper
  have := Nat.div_le_self z (2 ^ (i + 1).toNat)
  generalize z / 2 ^ (i + 1).toNat = q at *
  omega
theorem upper_top (z : Nat) (h : z < 4294967296) : upper z 31 = 0 := by
  unfold upper
  have : (31 + 1 : Int).toNat = 32 := rfl
  rw [this, Nat.div_eq_of_lt (by simpa using h)]; rfl
theorem upper_all (z : Nat) : upper z (-1) = z := by
  unfold upper
  simp
theorem bitI_cast (m : Nat) (i : Int) : bitI m i = ((m / 2 ^ i.toNat % 2 : Nat) : Int) := by unfold bitI; simp
theorem upper_and (m n : Nat) (i : Int) (h : 0 ≤ i) : upper (m &&& n) (i - 1) = 2 * upper (m &&& n) i + (if bitI m i + bitI n i = 2 then 1 else 0) := by
  rw [upper_step _ _ h, bit_and, bitI_cast, bitI_cast]
  split <;> split <;> omega
theorem upper_or (m n : Nat) (i : Int) (h : 0 ≤ i) : upper (m ||| n) (i - 1) = 2 * upper (m ||| n) i + (if 0 < bitI m i + bitI n i then 1 else 0) := by
  rw [upper_step _ _ h, bit_or, bitI_cast, bitI_cast]
  split <;> split <;> omega
theorem upper_xor (m n : Nat) (i : Int) (h : 0 ≤ i) : upper (m ^^^ n) (i - 1) = 2 * upper (m ^^^ n) i + (if bitI m i + bitI n i = 1 then 1 else 0) := by
  rw [upper_step _ _ h, bit_xor, bitI_cast, bitI_cast]
  split <;> split <;> omega
theorem mul_halves (x y : Int) : (x % 65536 * y % 4294967296 + x / 65536 * y % 65536 * 65536) % 4294967296 = x * y % 4294967296 := by
  have e1 : x * y = x % 65536 * y + x / 65536 * y * 65536 := by
    have h : x = x % 65536 + x / 65536 * 65536 := by omega
    have := congrArg (· * y) h
    simp only [Int.add_mul] at this
    rw [this, Int.mul_right_comm]
  have e2 : x / 65536 * y % 65536 * 65536 = x / 65536 * y * 65536 % 4294967296 := by
    generalize x / 65536 * y = q
    omega
  rw [e1, e2, ← Int.add_emod]
theorem mul_halves' (x y : Int) : (x % 65536 * y + x / 65536 * y % 65536 * 65536) % 4294967296 = x * y % 4294967296 := by
  rw [← mul_halves x y]
  generalize x % 65536 * y = p
  generalize x / 65536 * y = q
  omega
theorem wrap_sub (a b : Int) : wrap64 (a - wrap64 b) % 4294967296 = (a - b) % 4294967296 := by unfold wrap64; omega
theorem mul_bds (x y : Int) (h0 : 0 ≤ x) (h1 : x < 4294967296) (h2 : 0 ≤ y) (h3 : y < 4294967296) : 0 ≤ x % 65536 * y ∧ x % 65536 * y ≤ 281474976710656 ∧ 0 ≤ x / 65536 * y ∧ x / 65536 * y ≤ 281474976710656 := by
  have a1 : x % 65536 * y ≤ 65536 * 4294967296 := Int.mul_le_mul (by omega) (by omega) h2 (by omega)
  have a2 : x / 65536 * y ≤ 65536 * 4294967296 := Int.mul_le_mul (by omega) (by omega) h2 (by omega)
  exact ⟨Int.mul_nonneg (by omega) h2, by omega, Int.mul_nonneg (by omega) h2, by omega⟩
theorem tmod_sub (p q : Int) : p - q * p.tdiv q = p.tmod q := by
  have := Int.mul_tdiv_add_tmod p q
  omega
theorem shl_step (x : Int) (k : Nat) : x * 2 ^ k % 4294967296 * 2 % 4294967296 = x * 2 ^ (k + 1) % 4294967296 := by
  rw [Int.pow_succ, ← Int.mul_assoc]
  generalize x * 2 ^ k = q
  omega
theorem shr_step (x : Int) (k : Nat) (h0 : 0 ≤ x) : x / 2 ^ k / 2 = x / 2 ^ (k + 1) := by
  rw [Int.pow_succ, Int.ediv_ediv_of_nonneg (Int.pow_nonneg (by decide))]
end Go.Proofs.YtagmeijpelffcaaDoor
