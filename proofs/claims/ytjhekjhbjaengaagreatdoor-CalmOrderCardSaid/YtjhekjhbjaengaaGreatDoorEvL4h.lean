/- The numbers out of which a network is made. -/
import Derived.Test.YtjhekjhbjaengaaGreatDoorEvLh
namespace Go.Proofs.YtjhekjhbjaengaaGreatDoor.Ev
open Go
def sumE (f : FuncId) : Bool := Nat.beq f 49
def mOf (n : Int) : Nat := (BitVec.ofInt 64 n &&& BitVec.ofInt 64 65535).toNat
theorem mOf_lt (n : Int) : mOf n < 65536 := by
  unfold mOf
  rw [BitVec.toNat_and]
  exact Nat.lt_of_le_of_lt Nat.and_le_right (by decide)
abbrev rN (n : Int) : Int := IntKind.i64.wrap ↑(BitVec.ofInt IntKind.i64.bits n &&& BitVec.ofInt IntKind.i64.bits 65535).toNat
theorem mW (n : Int) : rN n = (mOf n : Int) := by
  have := mOf_lt n
  show IntKind.i64.wrap ((mOf n : Nat) : Int) = _
  exact w64 (by omega) (by omega)
theorem band_ {m k : Nat} {M : Nat} (hm : m < 65536) (hM : M = 2 ^ k - 1) (hk : k ≤ 16) : (BitVec.ofInt 64 (m : Int) &&& BitVec.ofInt 64 (M : Int)).toNat = m % 2 ^ k := by
  have h1 : 2 ^ k ≤ 65536 := Nat.pow_le_pow_right (n := 2) (by decide) hk
  have h2 : 0 < 2 ^ k := Nat.pow_pos (by decide)
  have e1 : (BitVec.ofInt 64 (m : Int)).toNat = m := by simp; omega
  have e2 : (BitVec.ofInt 64 (M : Int)).toNat = M := by simp; omega
  rw [BitVec.toNat_and, e1, e2, hM, Nat.and_two_pow_sub_one_eq_mod]
theorem band1 {m : Nat} (hm : m < 65536) : (BitVec.ofInt IntKind.i64.bits (m : Int) &&& BitVec.ofInt IntKind.i64.bits 1).toNat = m % 2 := band_ (k := 1) (M := 1) hm rfl (by decide)
theorem band3 {m : Nat} (hm : m < 65536) : (BitVec.ofInt IntKind.i64.bits (m : Int) &&& BitVec.ofInt IntKind.i64.bits 3).toNat = m % 4 := band_ (k := 2) (M := 3) hm rfl (by decide)
theorem band7 {m : Nat} (hm : m < 65536) : (BitVec.ofInt IntKind.i64.bits (m : Int) &&& BitVec.ofInt IntKind.i64.bits 7).toNat = m % 8 := band_ (k := 3) (M := 7) hm rfl (by decide)
theorem fd_ (m k : Nat) (hk : k ≤ 64) : (m : Int).fdiv (2 ^ min k 64) = ((m / 2 ^ k : Nat) : Int) := by
  rw [Nat.min_eq_left hk, Int.fdiv_eq_ediv_of_nonneg _ (Int.pow_nonneg (by decide))]
  have : (2 : Int) ^ k = ((2 ^ k : Nat) : Int) := by simp
  rw [this, Int.natCast_ediv]
theorem fd2 (m : Nat) : (m : Int).fdiv (2 ^ min (Int.toNat 2) IntKind.i64.bits) = ((m / 4 : Nat) : Int) := fd_ m 2 (by decide)
theorem fd4 (m : Nat) : (m : Int).fdiv (2 ^ min (Int.toNat 4) IntKind.i64.bits) = ((m / 16 : Nat) : Int) := fd_ m 4 (by decide)
theorem fd7 (m : Nat) : (m : Int).fdiv (2 ^ min (Int.toNat 7) IntKind.i64.bits) = ((m / 128 : Nat) : Int) := fd_ m 7 (by decide)
theorem fd10 (m : Nat) : (m : Int).fdiv (2 ^ min (Int.toNat 10) IntKind.i64.bits) = ((m / 1024 : Nat) : Int) := fd_ m 10 (by decide)
theorem fd11 (m : Nat) : (m : Int).fdiv (2 ^ min (Int.toNat 11) IntKind.i64.bits) = ((m / 2048 : Nat) : Int) := fd_ m 11 (by decide)
theorem fd13 (m : Nat) : (m : Int).fdiv (2 ^ min (Int.toNat 13) IntKind.i64.bits) = ((m / 8192 : Nat) : Int) := fd_ m 13 (by decide)
def mC (n : Int) : Int := 20000 + 1000 * ((mOf n / 16 % 8 : Nat) : Int)
def mD (n : Int) : Int := 20 * ((mOf n / 128 % 8 : Nat) : Int)
def mLo (n : Int) : Int := ((mOf n / 1024 % 2 : Nat) : Int)
def mA (p n : Int) : Int := (p - 1) * (mLo n + 1) + 1 + ((mOf n / 2048 % 4 : Nat) : Int)
def mSp (p n : Int) : Int := p * (mLo n + 1) + 2
def mLi (p n : Int) : Int := mSp p n + ((mOf n / 8192 % 2 : Nat) : Int)
def mE1 (n : Int) : Int := ceilM (2 * mD n * mC n)
def mE2 (n : Int) : Int := ceilM (mD n * mC n)
theorem mul_small (x y : Nat) (hx : x < 8) (hy : y < 8) : ∃ z, z = x * y ∧ (20 * (x : Int)) * (20000 + 1000 * (y : Int)) = 400000 * x + 20000 * (z : Int) ∧ z ≤ 49 := by
  refine ⟨x * y, rfl, ?_, ?_⟩
  · rw [Int.natCast_mul]
    have : (20 * (x : Int)) * (20000 + 1000 * (y : Int)) = 400000 * x + 20000 * (x * y) := by
      rw [Int.mul_add]
      have e1 : 20 * (x : Int) * 20000 = 400000 * x := by omega
      have e2 : 20 * (x : Int) * (1000 * (y : Int)) = 20000 * (x * y) := by
        rw [Int.mul_assoc, Int.mul_left_comm (x : Int), ← Int.mul_assoc]
        rfl
      rw [e1, e2]
    exact this
  · exact Nat.le_trans (Nat.mul_le_mul (Nat.le_of_lt_succ hx) (Nat.le_of_lt_succ hy)) (by decide)
theorem ceilM_le {n b : Int} (h0 : 0 ≤ n) (h1 : n ≤ b * 1000000) : 0 ≤ ceilM n ∧ ceilM n ≤ b := by
  unfold ceilM
  rw [Int.tdiv_eq_ediv_of_nonneg h0, Int.tmod_eq_emod_of_nonneg h0]
  split <;> omega
theorem num_made (p n : Int) (h1 : 1 ≤ p) (h4 : p ≤ 4) : Num p (mC n) (3 * (mE1 n + 1)) (mD n) (mA p n) (mLo n) (mLi p n) (mSp p n) (mE1 n) (mE2 n) := by
  have hC : 20000 ≤ mC n ∧ mC n ≤ 27000 := by unfold mC; omega
  have hD : 0 ≤ mD n ∧ mD n ≤ 140 := by unfold mD; omega
  have hL : 0 ≤ mLo n ∧ mLo n ≤ 1 := by unfold mLo; omega
  obtain ⟨z, _, hz, hz'⟩ := mul_small (mOf n / 128 % 8) (mOf n / 16 % 8) (Nat.mod_lt _ (by decide)) (Nat.mod_lt _ (by decide))
  have hDC : 0 ≤ mD n * mC n ∧ mD n * mC n ≤ 3780000 := by unfold mD mC; omega
  have h2 : 2 * mD n * mC n = 2 * (mD n * mC n) := Int.mul_assoc _ _ _
  have he1 := ceilM_le (n := 2 * mD n * mC n) (b := 8) (by omega) (by omega)
  have he2 := ceilM_le (n := mD n * mC n) (b := 4) (by omega) (by omega)
  have hp : p = 1 ∨ p = 2 ∨ p = 3 ∨ p = 4 := by omega
  have hA : 0 ≤ mA p n ∧ mA p n ≤ 12 := by unfold mA; rcases hp with rfl | rfl | rfl | rfl <;> omega
  have e3 : 2 * (mE1 n + 1) * (300000 + mD n) = 600000 * (mE1 n + 1) + 2 * ((mE1 n + 1) * mD n) := by
    rw [Int.mul_add, Int.mul_assoc 2 _ (mD n)]
    omega
  have hm : 0 ≤ (mE1 n + 1) * mD n ∧ (mE1 n + 1) * mD n ≤ 9 * 140 :=
    ⟨Int.mul_nonneg (by unfold mE1; omega) (by omega), Int.mul_le_mul (by unfold mE1; omega) hD.2 (by omega) (by decide)⟩
  have hs : 0 ≤ 2 * (2 * (mE1 n + 1)) + 2 * mE2 n + 2 ∧ 2 * (2 * (mE1 n + 1)) + 2 * mE2 n + 2 ≤ 46 := by unfold mE1 mE2; omega
  have hj : 0 ≤ 2 * mA p n * (2 * (2 * (mE1 n + 1)) + 2 * mE2 n + 2) ∧ 2 * mA p n * (2 * (2 * (mE1 n + 1)) + 2 * mE2 n + 2) ≤ 24 * 46 :=
    ⟨Int.mul_nonneg (by omega) hs.1, Int.mul_le_mul (by omega) hs.2 hs.1 (by decide)⟩
  refine ⟨hC.1, hC.2, hD.1, hD.2, by omega, by omega, hDC.1, hDC.2, rfl, rfl, he1.1, he1.2, he2.1, he2.2, rfl, hL.1, hL.2, ?_, ?_, ?_, ?_, rfl, ?_, ?_, hj.1, by omega, ?_⟩
  · unfold mA; omega
  · unfold mA; omega
  · unfold mLi mSp; omega
  · unfold mLi mSp; omega
  · have : 0 ≤ mE1 n := he1.1
    omega
  · have : mE1 n ≤ 8 := he1.2
    omega
  · have : 4 * (mE1 n + 1) + 2 * mE2 n + 2 = 2 * (2 * (mE1 n + 1)) + 2 * mE2 n + 2 := by omega
    rw [this]
end Go.Proofs.YtjhekjhbjaengaaGreatDoor.Ev
