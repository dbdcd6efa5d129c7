/- Plain lemmas on whole numbers modulo 2^32, for the statements of the layer word: no program in sight. -/
import Derived.Test.YtmaokblceahgjaaWMore
namespace Go.Proofs.Ytmaokblceahgjaa.Num
open Go.RowKit Go.Proofs.YtmaokblceahgjaaW.PrintWords

theorem w32_64 (n : Int) : wrap32 (wrap64 n) = wrap32 n := by unfold wrap32 wrap64; omega
theorem w64_32 (n : Int) : wrap64 (wrap32 n) = wrap32 n := by unfold wrap32 wrap64; omega
theorem w32_32 (n : Int) : wrap32 (wrap32 n) = wrap32 n := by unfold wrap32; omega
theorem w64_id {n : Int} (h0 : -9223372036854775808 ≤ n) (h1 : n ≤ 9223372036854775807) : wrap64 n = n := by unfold wrap64; omega
theorem w32_id {n : Int} (h0 : -2147483648 ≤ n) (h1 : n ≤ 2147483647) : wrap32 n = n := by unfold wrap32; omega
theorem w32_range (n : Int) : -2147483648 ≤ wrap32 n ∧ wrap32 n ≤ 2147483647 := by unfold wrap32; omega
theorem w32_ex (n : Int) : ∃ k, wrap32 n = n + 4294967296 * k := ⟨-((n + 2147483648) / 4294967296), by unfold wrap32; omega⟩
theorem w32_eq {a b k : Int} (h : a = b + 4294967296 * k) : wrap32 a = wrap32 b := by rw [h]; unfold wrap32; omega
theorem w32_mul (a b : Int) : wrap32 (wrap32 a * wrap32 b) = wrap32 (a * b) := by
  obtain ⟨k, hk⟩ := w32_ex a
  obtain ⟨l, hl⟩ := w32_ex b
  rw [hk, hl]
  exact w32_eq (k := a * l + k * b + 4294967296 * k * l) (by grind)
theorem w32_mul1 (a b : Int) : wrap32 (wrap32 a * b) = wrap32 (a * b) := by
  obtain ⟨k, hk⟩ := w32_ex a
  rw [hk]
  exact w32_eq (k := k * b) (by grind)
theorem w32_mul2 (a b : Int) : wrap32 (a * wrap32 b) = wrap32 (a * b) := by rw [Int.mul_comm, w32_mul1, Int.mul_comm]
theorem w32_add1 (a b : Int) : wrap32 (wrap32 a + b) = wrap32 (a + b) := by unfold wrap32; omega
theorem w32_add2 (a b : Int) : wrap32 (a + wrap32 b) = wrap32 (a + b) := by unfold wrap32; omega
theorem w32_sub1 (a b : Int) : wrap32 (wrap32 a - b) = wrap32 (a - b) := by unfold wrap32; omega
theorem w32_sub2 (a b : Int) : wrap32 (a - wrap32 b) = wrap32 (a - b) := by unfold wrap32; omega

/-- What is left over, cut towards 0, as omega reads it. -/
theorem tmod_lit (a b : Int) : Int.tmod a b = if 0 ≤ a then a % b else -((-a) % b) := by
  split
  · rename_i h; exact Int.tmod_eq_emod_of_nonneg h
  · rename_i h
    have e : Int.tmod a b = -(Int.tmod (-a) b) := by rw [Int.neg_tmod]; omega
    rw [e, Int.tmod_eq_emod_of_nonneg (by omega)]
theorem tdiv_lit (a b : Int) : Int.tdiv a b = if 0 ≤ a then a / b else -((-a) / b) := by
  split
  · rename_i h; exact Int.tdiv_eq_ediv_of_nonneg h
  · rename_i h
    have e : Int.tdiv a b = -(Int.tdiv (-a) b) := by rw [Int.neg_tdiv]; omega
    rw [e, Int.tdiv_eq_ediv_of_nonneg (by omega)]

theorem i32_wrap (n : Int) : IntKind.wrap .i32 n = wrap32 n := by
  unfold IntKind.wrap wrap32
  simp only [IntKind.bits, IntKind.signed, Bool.true_and, decide_eq_true_eq, show ((2 : Int) ^ 32) = 4294967296 from by decide, show ((2 : Int) ^ (32 - 1)) = 2147483648 from by decide]
  split <;> omega
theorem i64_wrap (n : Int) : IntKind.wrap .i64 n = wrap64 n := by
  unfold IntKind.wrap wrap64
  simp only [IntKind.bits, IntKind.signed, Bool.true_and, decide_eq_true_eq, show ((2 : Int) ^ 64) = 18446744073709551616 from by decide, show ((2 : Int) ^ (64 - 1)) = 9223372036854775808 from by decide]
  split <;> omega

theorem wf_i64 {n : Int} (h : (Lit.int .i64 n).wf = true) : -9223372036854775808 ≤ n ∧ n ≤ 9223372036854775807 := by
  simp only [Lit.wf, IntKind.min, IntKind.max, IntKind.signed, IntKind.bits, Bool.and_eq_true, decide_eq_true_eq, if_true] at h
  omega
theorem wf_i32 {n : Int} (h : (Lit.int .i32 n).wf = true) : -2147483648 ≤ n ∧ n ≤ 2147483647 := by
  simp only [Lit.wf, IntKind.min, IntKind.max, IntKind.signed, IntKind.bits, Bool.and_eq_true, decide_eq_true_eq, if_true] at h
  omega
theorem wf_u8 {n : Int} (h : (Lit.int .u8 n).wf = true) : 0 ≤ n ∧ n ≤ 255 := by
  simp [Lit.wf, IntKind.min, IntKind.max, IntKind.signed, IntKind.bits] at h
  omega

/-- The reference's Wrap. -/
theorem ref_wrap (a : Int) : (if (Int.tmod a 4294967296) < 0 then (if (wrap64 ((Int.tmod a 4294967296) + 4294967296)) > 2147483647 then (some (wrap64 ((wrap64 ((Int.tmod a 4294967296) + 4294967296)) - 4294967296))) else (some (wrap64 ((Int.tmod a 4294967296) + 4294967296)))) else (if (Int.tmod a 4294967296) > 2147483647 then (some (wrap64 ((Int.tmod a 4294967296) - 4294967296))) else (some (Int.tmod a 4294967296)))) = some (wrap32 a) := by
  rw [tmod_lit a 4294967296]
  unfold wrap64 wrap32
  repeat' split
  all_goals (congr 1; omega)

/-! ## powers of 2 -/
theorem two_pow_pos (n : Nat) : (0 : Int) < 2 ^ n := Int.pow_pos (by decide)
theorem pow_split (b : Nat) (h0 : 1 ≤ b) (h1 : b ≤ 32) : (2 : Int) ^ b = 2 * 2 ^ (b - 1) ∧ (2 : Int) ^ b * 2 ^ (32 - b) = 4294967296 := by
  refine ⟨?_, ?_⟩
  · rw [show b = (b - 1) + 1 from by omega, Int.pow_succ]; simp; omega
  · rw [← Int.pow_add, show b + (32 - b) = 32 from by omega]; decide

/-- The number that fits b bits whose lowest ones are n's: by two shifts. -/
def ext (n : Int) (b : Nat) : Int := wrap32 (n * 2 ^ (32 - b)) / 2 ^ (32 - b)

theorem ext_spec (n : Int) (b : Nat) (h0 : 1 ≤ b) (h1 : b ≤ 32) : (∃ k, ext n b = n + 2 ^ b * k) ∧ -(2 ^ (b - 1)) ≤ ext n b ∧ ext n b < 2 ^ (b - 1) := by
  obtain ⟨e1, e2⟩ := pow_split b h0 h1
  obtain ⟨k, hk⟩ := w32_ex (n * 2 ^ (32 - b))
  have hr := w32_range (n * 2 ^ (32 - b))
  have hq := two_pow_pos (32 - b)
  have hp := two_pow_pos (b - 1)
  generalize hQ : (2 : Int) ^ (32 - b) = Q at *
  generalize hP : (2 : Int) ^ (b - 1) = P at *
  have e3 : wrap32 (n * Q) = Q * (n + 2 ^ b * k) := by rw [hk, ← e2]; grind
  have e4 : ext n b = n + 2 ^ b * k := by
    unfold ext; rw [hQ, e3]; exact Int.mul_ediv_cancel_left _ (by omega)
  refine ⟨⟨k, e4⟩, ?_, ?_⟩
  · rw [e4]
    rw [e3] at hr
    generalize n + 2 ^ b * k = e at *
    have h2 : Q * (2 * P) = 4294967296 := by rw [← e2, e1]; grind
    have h3 : Q * P = 2147483648 := by grind
    have h4 : Q * (-P) ≤ Q * e := by rw [Int.mul_neg, h3]; exact hr.1
    exact Int.le_of_mul_le_mul_left h4 hq
  · rw [e4]
    rw [e3] at hr
    generalize n + 2 ^ b * k = e at *
    have h2 : Q * (2 * P) = 4294967296 := by rw [← e2, e1]; grind
    have h3 : Q * P = 2147483648 := by grind
    have h4 : Q * e < Q * P := by rw [h3]; omega
    exact Int.lt_of_mul_lt_mul_left h4 (by omega)

/-- Two numbers of b bits that are so many times 2^b apart are one. -/
theorem bits_one {e f k : Int} {P : Int} (h : e = f + 2 * P * k) (e0 : -P ≤ e) (e1 : e < P) (f0 : -P ≤ f) (f1 : f < P) : e = f := by
  have hk : k = 0 := by
    rcases Int.lt_trichotomy k 0 with hk | hk | hk
    · exfalso
      have : P * k ≤ P * (-1) := Int.mul_le_mul_of_nonneg_left (by omega) (by omega)
      rw [Int.mul_assoc] at h; omega
    · exact hk
    · exfalso
      have : P * 1 ≤ P * k := Int.mul_le_mul_of_nonneg_left (by omega) (by omega)
      rw [Int.mul_assoc] at h; omega
  rw [h, hk]; simp

theorem ext_uniq {n e k : Int} {b : Nat} (h0 : 1 ≤ b) (h1 : b ≤ 32) (h : e = n + 2 ^ b * k) (e0 : -(2 ^ (b - 1)) ≤ e) (e1 : e < 2 ^ (b - 1)) : ext n b = e := by
  obtain ⟨⟨l, hl⟩, l0, l1⟩ := ext_spec n b h0 h1
  obtain ⟨g, _⟩ := pow_split b h0 h1
  exact bits_one (k := l - k) (by rw [hl, h, g]; grind) l0 l1 e0 e1

theorem ext_congr {n m k : Int} {b : Nat} (h0 : 1 ≤ b) (h1 : b ≤ 32) (h : m = n + 2 ^ b * k) : ext m b = ext n b := by
  obtain ⟨⟨l, hl⟩, l0, l1⟩ := ext_spec n b h0 h1
  exact ext_uniq (k := l - k) h0 h1 (by rw [hl, h]; grind) l0 l1

theorem ext_fit {n : Int} {b : Nat} (h0 : 1 ≤ b) (h1 : b ≤ 32) (e0 : -(2 ^ (b - 1)) ≤ n) (e1 : n < 2 ^ (b - 1)) : ext n b = n :=
  ext_uniq (k := 0) h0 h1 (by simp) e0 e1

theorem pow_le {a b : Nat} (h : a ≤ b) : (2 : Int) ^ a ≤ 2 ^ b := by
  have := Nat.pow_le_pow_right (n := 2) (by decide) h
  exact_mod_cast this
theorem pow_min (b : Nat) (k : Nat) (h : b ≤ k) : (2 : Int) ^ min b k = 2 ^ b := by rw [Nat.min_eq_left h]

/-- word.Extend, as it is printed. -/
theorem word_ext (n : Int) (b : Nat) (h0 : 1 ≤ b) (h1 : b ≤ 32) :
    (if (b : Int) < 1 then (some 0) else (if (b : Int) > 32 then (some 0) else (if 0 ≤ (wrap64 (32 - (b : Int))) then (some (wrap64 (shr .i32 (shl .i32 (wrap32 n) (wrap64 (32 - (b : Int)))) (wrap64 (32 - (b : Int)))))) else (none)))) = some (ext n b) := by
  rw [if_neg (by omega), if_neg (by omega), w64_id (by omega) (by omega), if_pos (by omega)]
  have e : ((32 : Int) - (b : Int)).toNat = 32 - b := by omega
  have hr := (ext_spec n b h0 h1).2
  have hP : (2 : Int) ^ (b - 1) ≤ 2 ^ 31 := pow_le (by omega)
  have e31 : (2 : Int) ^ 31 = 2147483648 := by decide
  have e2 : shr .i32 (shl .i32 (wrap32 n) (32 - (b : Int))) (32 - (b : Int)) = ext n b := by
    unfold shr shl
    rw [i32_wrap, e, pow_min _ _ (show 32 - b ≤ IntKind.bits .i32 by simp [IntKind.bits]), w32_mul1]
    rfl
  rw [e2, w64_id (by omega) (by omega)]

/-- word.Fits, as it is printed, for few bits. -/
theorem word_fits (n : Int) (b : Nat) (h0 : 1 ≤ b) (h1 : b ≤ 32) :
    (if (b : Int) < 1 then (some false) else (if (b : Int) > 62 then (some false) else (if 0 ≤ (wrap64 ((b : Int) - 1)) then (if n ≥ (wrap64 (-(shl .i64 1 (wrap64 ((b : Int) - 1))))) then (some (decide (n < (shl .i64 1 (wrap64 ((b : Int) - 1)))))) else (some false)) else (none)))) = some (decide (-(2 ^ (b - 1)) ≤ n ∧ n < 2 ^ (b - 1))) := by
  rw [if_neg (by omega), if_neg (by omega), w64_id (show -9223372036854775808 ≤ (b : Int) - 1 by omega) (by omega), if_pos (by omega)]
  have e : ((b : Int) - 1).toNat = b - 1 := by omega
  have hP : (2 : Int) ^ (b - 1) ≤ 2 ^ 31 := pow_le (by omega)
  have hp := two_pow_pos (b - 1)
  have e31 : (2 : Int) ^ 31 = 2147483648 := by decide
  have e2 : shl .i64 1 ((b : Int) - 1) = 2 ^ (b - 1) := by
    unfold shl
    rw [i64_wrap, e, pow_min _ _ (show b - 1 ≤ IntKind.bits .i64 by simp [IntKind.bits]; omega), Int.one_mul, w64_id (by omega) (by omega)]
  rw [e2, w64_id (by omega) (by omega)]
  generalize (2 : Int) ^ (b - 1) = P at *
  by_cases h : n ≥ -P
  · rw [if_pos h]; simp [h]
  · rw [if_neg h]; simp [h]

end Go.Proofs.Ytmaokblceahgjaa.Num
