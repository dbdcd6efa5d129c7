/- A number that fits so many bits is that of its lowest ones; and what these are fits: for every int64 and every count of bits from 1 to 32, no further condition. -/
import Derived.Test.YtmaokblceahgjaaPWordBitsx1
import Derived.Test.YtmaokblceahgjaaNum
namespace Go.Proofs.Ytmaokblceahgjaa.Pure
open Go.RowKit Go.Proofs.Ytmaokblceahgjaa.PWordBits Go.Proofs.YtmaokblceahgjaaW.PrintWords Go.Proofs.YtmaokblceahgjaaW.PrintLast
open Go.Proofs.Ytmaokblceahgjaa.Num

theorem wi_wrap (a : Int) : word_Wrap.f a = some (wrap32 a) := by unfold word_Wrap.f; rw [w64_32]
theorem wi_add (a b : Int) : word_Add.f a b = some (wrap32 (a + b)) := by unfold word_Add.f; rw [wi_wrap]; simp only [Option.bind_some]; rw [w32_64]
theorem wi_div (a b : Int) (h : wrap32 b ≠ 0) : word_Div.f a b = some (wrap32 (Int.tdiv (wrap32 a) (wrap32 b)), Int.tmod (wrap32 a) (wrap32 b), true) := by
  unfold word_Div.f; simp only [wi_wrap, Option.bind_some]; rw [if_neg h, w32_64]
theorem wi_div0 (a b : Int) (h : wrap32 b = 0) : word_Div.f a b = some (0, 0, false) := by
  unfold word_Div.f; simp only [wi_wrap, Option.bind_some]; rw [if_pos h]
theorem wi_ext (n : Int) (b : Nat) (h0 : 1 ≤ b) (h1 : b ≤ 32) : word_Extend.f n b = some (ext n b) := by unfold word_Extend.f; exact word_ext n b h0 h1
theorem wi_fits (n : Int) (b : Nat) (h0 : 1 ≤ b) (h1 : b ≤ 32) : word_Fits.f n b = some (decide (-(2 ^ (b - 1)) ≤ n ∧ n < 2 ^ (b - 1))) := by unfold word_Fits.f; exact word_fits n b h0 h1
theorem wi_awake : delayslotlaw01_awake.f = some true := by
  unfold delayslotlaw01_awake.f
  rw [wi_div (-7) 2 (by decide +kernel), wi_add]
  simp only [Option.bind_some]
  rw [if_pos (by decide +kernel), if_pos (by decide +kernel), if_pos (by decide +kernel), if_true, show (16 : Int) = ((16 : Nat) : Int) from rfl, wi_ext 65535 16 (by decide +kernel) (by decide +kernel), wi_fits (-32768) 16 (by decide +kernel) (by decide +kernel), wi_fits 32768 16 (by decide +kernel) (by decide +kernel)]
  simp only [Option.bind_some]
  rw [if_pos (by decide +kernel), if_pos (by decide +kernel)]
  decide +kernel
theorem k32 (n : Int) (h0 : 0 ≤ n) (h1 : n ≤ 255) : ∃ b : Nat, 1 ≤ b ∧ b ≤ 32 ∧ wrap64 (1 + (wrap64 (Int.tmod n 32))) = (b : Int) := by
  refine ⟨(1 + n % 32).toNat, by omega, by omega, ?_⟩
  rw [tmod_lit]
  unfold wrap64
  split <;> omega

theorem WordBits : delayslotlaw01_WordBits.Pure := by
  intro n c wn wc
  have hc := wf_u8 wc
  obtain ⟨b, h0, h1, hk⟩ := k32 c hc.1 hc.2
  unfold delayslotlaw01_WordBits.f
  rw [hk]
  have h32 : word_Extend.f n 32 = some (ext n 32) := wi_ext n 32 (by decide) (by decide)
  have e32 : ext n 32 = wrap32 n := by unfold ext; simp
  obtain ⟨⟨k, he⟩, e0, e1⟩ := ext_spec n b h0 h1
  have hee : ext (ext n b) b = ext n b := ext_fit h0 h1 e0 e1
  simp only [wi_ext _ b h0 h1, wi_fits _ b h0 h1, Option.bind_some, h32, wi_wrap, wi_awake, e32, hee, if_true]
  rw [if_pos (by simp [e0, e1])]
  by_cases hf : -(2 ^ (b - 1)) ≤ n ∧ n < 2 ^ (b - 1)
  · rw [if_pos (by simp [hf]), if_pos (ext_fit h0 h1 hf.1 hf.2)]
  · rw [if_neg (by simpa using hf)]

end Go.Proofs.Ytmaokblceahgjaa.Pure
