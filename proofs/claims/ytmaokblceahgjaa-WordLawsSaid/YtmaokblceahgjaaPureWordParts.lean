/- A word is its lowest 16 bits, and 2^16 times what stands above them: for every int32, no further condition. -/
import Derived.Test.YtmaokblceahgjaaPWordPartsx1
import Derived.Test.YtmaokblceahgjaaNum
namespace Go.Proofs.Ytmaokblceahgjaa.Pure
open Go.RowKit Go.Proofs.Ytmaokblceahgjaa.PWordParts Go.Proofs.YtmaokblceahgjaaW.PrintWords Go.Proofs.YtmaokblceahgjaaW.PrintLast
open Go.Proofs.Ytmaokblceahgjaa.Num

theorem wp_wrap (a : Int) : word_Wrap.f a = some (wrap32 a) := by unfold word_Wrap.f; rw [w64_32]
theorem wp_add (a b : Int) : word_Add.f a b = some (wrap32 (a + b)) := by unfold word_Add.f; rw [wp_wrap]; simp only [Option.bind_some]; rw [w32_64]
theorem wp_sub (a b : Int) : word_Sub.f a b = some (wrap32 (a - b)) := by unfold word_Sub.f; rw [wp_wrap]; simp only [Option.bind_some]; rw [w32_64]
theorem wp_mul (a b : Int) : word_Mul.f a b = some (wrap32 (a * b)) := by unfold word_Mul.f; simp only [wp_wrap, Option.bind_some]; rw [w32_64, w32_mul]
theorem wp_div (a b : Int) (h : wrap32 b ≠ 0) : word_Div.f a b = some (wrap32 (Int.tdiv (wrap32 a) (wrap32 b)), Int.tmod (wrap32 a) (wrap32 b), true) := by
  unfold word_Div.f; simp only [wp_wrap, Option.bind_some]; rw [if_neg h, w32_64]
theorem wp_div0 (a b : Int) (h : wrap32 b = 0) : word_Div.f a b = some (0, 0, false) := by
  unfold word_Div.f; simp only [wp_wrap, Option.bind_some]; rw [if_pos h]
theorem wp_ext (n : Int) (b : Nat) (h0 : 1 ≤ b) (h1 : b ≤ 32) : word_Extend.f n b = some (ext n b) := by unfold word_Extend.f; exact word_ext n b h0 h1
theorem wp_fits (n : Int) (b : Nat) (h0 : 1 ≤ b) (h1 : b ≤ 32) : word_Fits.f n b = some (decide (-(2 ^ (b - 1)) ≤ n ∧ n < 2 ^ (b - 1))) := by unfold word_Fits.f; exact word_fits n b h0 h1
theorem wp_awake : delayslotlaw01_awake.f = some true := by
  unfold delayslotlaw01_awake.f
  rw [wp_div (-7) 2 (by decide +kernel), wp_add]
  simp only [Option.bind_some]
  rw [if_pos (by decide +kernel), if_pos (by decide +kernel), if_pos (by decide +kernel), if_true, show (16 : Int) = ((16 : Nat) : Int) from rfl, wp_ext 65535 16 (by decide +kernel) (by decide +kernel), wp_fits (-32768) 16 (by decide +kernel) (by decide +kernel), wp_fits 32768 16 (by decide +kernel) (by decide +kernel)]
  simp only [Option.bind_some]
  rw [if_pos (by decide +kernel), if_pos (by decide +kernel)]
  decide +kernel

theorem and1 (n : Int) : Go.bits .and .i64 n 1 = n % 2 := by
  have h1 : (BitVec.ofInt 64 1).toNat = 2 ^ 1 - 1 := by decide
  have key : (BitVec.ofInt 64 n &&& BitVec.ofInt 64 1).toNat = (n % ((2 ^ 64 : Nat) : Int)).toNat % 2 ^ 1 := by
    rw [BitVec.toNat_and, BitVec.toNat_ofInt, h1, Nat.and_two_pow_sub_one_eq_mod]
  show IntKind.i64.wrap ((BitVec.ofInt 64 n &&& BitVec.ofInt 64 1).toNat : Nat) = n % 2
  rw [key, i64_wrap]
  unfold wrap64
  omega
theorem ext16 (n : Int) : ext n 16 = (n + 32768) % 65536 - 32768 :=
  ext_uniq (k := -((n + 32768) / 65536)) (by decide) (by decide) (by rw [show (2 : Int) ^ 16 = 65536 from by decide]; omega) (by rw [show (2 : Int) ^ (16 - 1) = 32768 from by decide]; omega) (by rw [show (2 : Int) ^ (16 - 1) = 32768 from by decide]; omega)
theorem ext1 (n : Int) : ext n 1 = -(n % 2) :=
  ext_uniq (k := -(n / 2) - n % 2) (by decide) (by decide) (by rw [show (2 : Int) ^ 1 = 2 from by decide]; omega) (by rw [show (2 : Int) ^ (1 - 1) = 1 from by decide]; omega) (by rw [show (2 : Int) ^ (1 - 1) = 1 from by decide]; omega)

theorem WordParts : delayslotlaw01_WordParts.Pure := by
  intro n wn
  have hn := wf_i32 wn
  unfold delayslotlaw01_WordParts.f
  rw [w64_id (n := n) (by omega) (by omega)]
  have hx16 : word_Extend.f n 16 = some (ext n 16) := wp_ext n 16 (by decide) (by decide)
  have hf16 : word_Fits.f (ext n 16) 16 = some true := by
    have := wp_fits (ext n 16) 16 (by decide) (by decide)
    rw [show ((16 : Nat) : Int) = 16 from rfl] at this
    rw [this]
    exact congrArg some (decide_eq_true (ext_spec n 16 (by decide) (by decide)).2)
  have hx1 : word_Extend.f n 1 = some (ext n 1) := wp_ext n 1 (by decide) (by decide)
  simp only [hx16, Option.bind_some, wp_sub, hf16, if_true, wp_mul, wp_add, hx1, wp_awake, and1]
  rw [ext16, ext1]
  generalize hl : (n + 32768) % 65536 - 32768 = l
  have hm : Int.tmod (wrap32 (n - l)) 65536 = 0 := by rw [tmod_lit]; unfold wrap32; split <;> omega
  have hd : wrap32 (wrap32 (wrap64 (Int.tdiv (wrap32 (n - l)) 65536) * 65536) + l) = n := by
    have := Int.tdiv_mul_add_tmod (wrap32 (n - l)) 65536
    rw [w32_add1, ← w32_add1, ← w32_mul1, w32_64, w32_mul1, w32_add1, show Int.tdiv (wrap32 (n - l)) 65536 * 65536 = wrap32 (n - l) by omega, w32_add1, w32_id (by omega) (by omega)]
    omega
  rw [if_pos hm, if_pos hd, if_pos (by unfold wrap64; omega)]

end Go.Proofs.Ytmaokblceahgjaa.Pure
