/- A quotient, times the divisor, and what is left over, are the number; what is left over is less than the divisor, and has the number's sign: for every two int32 numbers, no further condition. -/
import Derived.Test.YtmaokblceahgjaaPWordBackx1
import Derived.Test.YtmaokblceahgjaaNum
namespace Go.Proofs.Ytmaokblceahgjaa.Pure
open Go.RowKit Go.Proofs.Ytmaokblceahgjaa.PWordBack Go.Proofs.YtmaokblceahgjaaW.PrintWords Go.Proofs.YtmaokblceahgjaaW.PrintLast
open Go.Proofs.Ytmaokblceahgjaa.Num

theorem wb_wrap (a : Int) : word_Wrap.f a = some (wrap32 a) := by unfold word_Wrap.f; rw [w64_32]
theorem wb_add (a b : Int) : word_Add.f a b = some (wrap32 (a + b)) := by unfold word_Add.f; rw [wb_wrap]; simp only [Option.bind_some]; rw [w32_64]
theorem wb_mul (a b : Int) : word_Mul.f a b = some (wrap32 (a * b)) := by unfold word_Mul.f; simp only [wb_wrap, Option.bind_some]; rw [w32_64, w32_mul]
theorem wb_div (a b : Int) (h : wrap32 b ≠ 0) : word_Div.f a b = some (wrap32 (Int.tdiv (wrap32 a) (wrap32 b)), Int.tmod (wrap32 a) (wrap32 b), true) := by
  unfold word_Div.f; simp only [wb_wrap, Option.bind_some]; rw [if_neg h, w32_64]
theorem wb_div0 (a b : Int) (h : wrap32 b = 0) : word_Div.f a b = some (0, 0, false) := by
  unfold word_Div.f; simp only [wb_wrap, Option.bind_some]; rw [if_pos h]
theorem wb_ext (n : Int) (b : Nat) (h0 : 1 ≤ b) (h1 : b ≤ 32) : word_Extend.f n b = some (ext n b) := by unfold word_Extend.f; exact word_ext n b h0 h1
theorem wb_fits (n : Int) (b : Nat) (h0 : 1 ≤ b) (h1 : b ≤ 32) : word_Fits.f n b = some (decide (-(2 ^ (b - 1)) ≤ n ∧ n < 2 ^ (b - 1))) := by unfold word_Fits.f; exact word_fits n b h0 h1
theorem wb_awake : delayslotlaw01_awake.f = some true := by
  unfold delayslotlaw01_awake.f
  rw [wb_div (-7) 2 (by decide +kernel), wb_add]
  simp only [Option.bind_some]
  rw [if_pos (by decide +kernel), if_pos (by decide +kernel), if_pos (by decide +kernel), if_true, show (16 : Int) = ((16 : Nat) : Int) from rfl, wb_ext 65535 16 (by decide +kernel) (by decide +kernel), wb_fits (-32768) 16 (by decide +kernel) (by decide +kernel), wb_fits 32768 16 (by decide +kernel) (by decide +kernel)]
  simp only [Option.bind_some]
  rw [if_pos (by decide +kernel), if_pos (by decide +kernel)]
  decide +kernel

theorem mx_neg (r : Int) (h0 : -2147483648 ≤ r) (h1 : r ≤ 2147483648) : mx r (wrap64 (-r)) = r.natAbs := by
  rw [w64_id (by omega) (by omega)]
  unfold mx
  split <;> omega

theorem WordBack : delayslotlaw01_WordBack.Pure := by
  intro a b wa wb
  have ha := wf_i32 wa
  have hb := wf_i32 wb
  unfold delayslotlaw01_WordBack.f
  rw [w64_id (n := a) (by omega) (by omega), w64_id (n := b) (by omega) (by omega)]
  have ea := w32_id ha.1 ha.2
  have eb := w32_id hb.1 hb.2
  by_cases h0 : b = 0
  · rw [wb_div0 a b (by rw [eb, h0])]
    simp only [Option.bind_some, wb_awake]
    rw [if_pos h0]
    rfl
  · rw [wb_div a b (by rw [eb]; exact h0), ea, eb]
    simp only [Option.bind_some, wb_awake, if_true, wb_mul, wb_add]
    have e := Int.tdiv_mul_add_tmod a b
    have e1 : wrap32 (wrap32 (wrap32 (Int.tdiv a b) * b) + Int.tmod a b) = a := by rw [w32_add1, ← w32_add1, w32_mul1, w32_add1, e, ea]
    have hlt : (Int.tmod a b).natAbs < b.natAbs := by
      rw [Int.natAbs_tmod]
      exact Nat.mod_lt _ (by omega)
    have hs : (0 ≤ a → 0 ≤ Int.tmod a b) := fun h => Int.tmod_nonneg b h
    have hs2 : (a ≤ 0 → Int.tmod a b ≤ 0) := fun h => by
      have h2 := Int.tmod_nonneg b (a := -a) (by omega)
      rw [Int.neg_tmod] at h2
      omega
    generalize Int.tmod a b = r at *
    rw [mx_neg r (by omega) (by omega), mx_neg b (by omega) (by omega)]
    rw [if_neg h0, if_pos e1]
    have hl2 : (r.natAbs : Int) < (b.natAbs : Int) := by omega
    rw [if_pos hl2]
    by_cases g : r > 0
    · rw [if_pos g, if_neg (by omega), if_neg (by omega)]
    · rw [if_neg g]
      by_cases g2 : r < 0
      · rw [if_pos g2, if_neg (by omega)]
      · rw [if_neg g2]

end Go.Proofs.Ytmaokblceahgjaa.Pure
