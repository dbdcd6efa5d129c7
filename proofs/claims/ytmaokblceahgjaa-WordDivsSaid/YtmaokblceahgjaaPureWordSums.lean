/- Sums, differences and products of any two int64 numbers are what the reference says: for every input, no further condition. -/
import Derived.Test.YtmaokblceahgjaaPWordSumsx1
import Derived.Test.YtmaokblceahgjaaNum
namespace Go.Proofs.Ytmaokblceahgjaa.Pure
open Go.RowKit Go.Proofs.Ytmaokblceahgjaa.PWordSums Go.Proofs.YtmaokblceahgjaaW.PrintWords Go.Proofs.YtmaokblceahgjaaW.PrintLast
open Go.Proofs.Ytmaokblceahgjaa.Num

theorem ws_wrap (a : Int) : word_Wrap.f a = some (wrap32 a) := by unfold word_Wrap.f; rw [w64_32]
theorem ws_add (a b : Int) : word_Add.f a b = some (wrap32 (a + b)) := by unfold word_Add.f; rw [ws_wrap]; simp only [Option.bind_some]; rw [w32_64]
theorem ws_sub (a b : Int) : word_Sub.f a b = some (wrap32 (a - b)) := by unfold word_Sub.f; rw [ws_wrap]; simp only [Option.bind_some]; rw [w32_64]
theorem ws_mul (a b : Int) : word_Mul.f a b = some (wrap32 (a * b)) := by unfold word_Mul.f; simp only [ws_wrap, Option.bind_some]; rw [w32_64, w32_mul]
theorem ws_ref (a : Int) : delayslotref01_Wrap.f a = some (wrap32 a) := by unfold delayslotref01_Wrap.f; exact ref_wrap a
theorem ws_div (a b : Int) (h : wrap32 b ≠ 0) : word_Div.f a b = some (wrap32 (Int.tdiv (wrap32 a) (wrap32 b)), Int.tmod (wrap32 a) (wrap32 b), true) := by
  unfold word_Div.f; simp only [ws_wrap, Option.bind_some]; rw [if_neg h, w32_64]
theorem ws_div0 (a b : Int) (h : wrap32 b = 0) : word_Div.f a b = some (0, 0, false) := by
  unfold word_Div.f; simp only [ws_wrap, Option.bind_some]; rw [if_pos h]
theorem ws_ext (n : Int) (b : Nat) (h0 : 1 ≤ b) (h1 : b ≤ 32) : word_Extend.f n b = some (ext n b) := by unfold word_Extend.f; exact word_ext n b h0 h1
theorem ws_fits (n : Int) (b : Nat) (h0 : 1 ≤ b) (h1 : b ≤ 32) : word_Fits.f n b = some (decide (-(2 ^ (b - 1)) ≤ n ∧ n < 2 ^ (b - 1))) := by unfold word_Fits.f; exact word_fits n b h0 h1
theorem ws_awake : delayslotlaw01_awake.f = some true := by
  unfold delayslotlaw01_awake.f
  rw [ws_div (-7) 2 (by decide +kernel), ws_add]
  simp only [Option.bind_some]
  rw [if_pos (by decide +kernel), if_pos (by decide +kernel), if_pos (by decide +kernel), if_true, show (16 : Int) = ((16 : Nat) : Int) from rfl, ws_ext 65535 16 (by decide +kernel) (by decide +kernel), ws_fits (-32768) 16 (by decide +kernel) (by decide +kernel), ws_fits 32768 16 (by decide +kernel) (by decide +kernel)]
  simp only [Option.bind_some]
  rw [if_pos (by decide +kernel), if_pos (by decide +kernel)]
  decide +kernel

theorem ws_refmul (a b : Int) : delayslotref01_Mul.f a b = some (wrap32 (a * b)) := by
  unfold delayslotref01_Mul.f
  simp only [ws_ref, Option.bind_some]
  congr 1
  rw [w32_64, w32_64, ← w32_mul a b]
  have ha := w32_range a
  have hb := w32_range b
  generalize wrap32 a = x at *
  generalize wrap32 b = y at *
  have e : Int.tdiv y 65536 * 65536 + Int.tmod y 65536 = y := Int.tdiv_mul_add_tmod y 65536
  generalize Int.tdiv y 65536 = h at *
  generalize Int.tmod y 65536 = l at *
  obtain ⟨k, hk⟩ := w32_ex (x * h)
  have e2 : ∀ z : Int, ∃ m, Int.tmod z 65536 = z + 65536 * m := fun z => ⟨-Int.tdiv z 65536, by have := Int.tdiv_mul_add_tmod z 65536; omega⟩
  obtain ⟨m, hm⟩ := e2 (wrap32 (x * h))
  have hw : wrap32 (x * wrap64 h) = wrap32 (x * h) := by rw [← w32_mul2, w32_64, w32_mul2]
  rw [hw, ← w32_add1 (wrap64 (x * l)), w32_64, w32_add1, ← w32_add2, w32_64, w32_add2, hm, hk, ← e]
  exact w32_eq (k := 65536 * k + 4294967296 * 0 + m) (by grind)

theorem WordSums : delayslotlaw01_WordSums.Pure := by
  intro a b _ _
  unfold delayslotlaw01_WordSums.f
  simp only [ws_ref, ws_wrap, ws_add, ws_sub, ws_mul, ws_refmul, Option.bind_some, w32_64, w32_add1, w32_add2, w32_sub1, w32_sub2, ws_awake, if_true]

end Go.Proofs.Ytmaokblceahgjaa.Pure
