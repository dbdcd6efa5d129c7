/- Numbers that are so many times 2^32 apart are one word; so many times 2^bits apart, one number of so many bits: for every input, no further condition. -/
import Derived.Test.YtmaokblceahgjaaPWordRoundx1
import Derived.Test.YtmaokblceahgjaaNum
namespace Go.Proofs.Ytmaokblceahgjaa.Pure
open Go.RowKit Go.Proofs.Ytmaokblceahgjaa.PWordRound Go.Proofs.YtmaokblceahgjaaW.PrintWords Go.Proofs.YtmaokblceahgjaaW.PrintLast
open Go.Proofs.Ytmaokblceahgjaa.Num

theorem wr_wrap (a : Int) : word_Wrap.f a = some (wrap32 a) := by unfold word_Wrap.f; rw [w64_32]
theorem wr_add (a b : Int) : word_Add.f a b = some (wrap32 (a + b)) := by unfold word_Add.f; rw [wr_wrap]; simp only [Option.bind_some]; rw [w32_64]
theorem wr_div (a b : Int) (h : wrap32 b ≠ 0) : word_Div.f a b = some (wrap32 (Int.tdiv (wrap32 a) (wrap32 b)), Int.tmod (wrap32 a) (wrap32 b), true) := by
  unfold word_Div.f; simp only [wr_wrap, Option.bind_some]; rw [if_neg h, w32_64]
theorem wr_div0 (a b : Int) (h : wrap32 b = 0) : word_Div.f a b = some (0, 0, false) := by
  unfold word_Div.f; simp only [wr_wrap, Option.bind_some]; rw [if_pos h]
theorem wr_ext (n : Int) (b : Nat) (h0 : 1 ≤ b) (h1 : b ≤ 32) : word_Extend.f n b = some (ext n b) := by unfold word_Extend.f; exact word_ext n b h0 h1
theorem wr_fits (n : Int) (b : Nat) (h0 : 1 ≤ b) (h1 : b ≤ 32) : word_Fits.f n b = some (decide (-(2 ^ (b - 1)) ≤ n ∧ n < 2 ^ (b - 1))) := by unfold word_Fits.f; exact word_fits n b h0 h1
theorem wr_awake : delayslotlaw01_awake.f = some true := by
  unfold delayslotlaw01_awake.f
  rw [wr_div (-7) 2 (by decide +kernel), wr_add]
  simp only [Option.bind_some]
  rw [if_pos (by decide +kernel), if_pos (by decide +kernel), if_pos (by decide +kernel), if_true, show (16 : Int) = ((16 : Nat) : Int) from rfl, wr_ext 65535 16 (by decide +kernel) (by decide +kernel), wr_fits (-32768) 16 (by decide +kernel) (by decide +kernel), wr_fits 32768 16 (by decide +kernel) (by decide +kernel)]
  simp only [Option.bind_some]
  rw [if_pos (by decide +kernel), if_pos (by decide +kernel)]
  decide +kernel
theorem k32 (n : Int) (h0 : 0 ≤ n) (h1 : n ≤ 255) : ∃ b : Nat, 1 ≤ b ∧ b ≤ 32 ∧ wrap64 (1 + (wrap64 (Int.tmod n 32))) = (b : Int) := by
  refine ⟨(1 + n % 32).toNat, by omega, by omega, ?_⟩
  rw [tmod_lit]
  unfold wrap64
  split <;> omega

theorem WordRound : delayslotlaw01_WordRound.Pure := by
  intro a k c wa wk wc
  have ha := wf_i32 wa
  have hk := wf_i32 wk
  have hc := wf_u8 wc
  obtain ⟨b, h0, h1, hb⟩ := k32 c hc.1 hc.2
  unfold delayslotlaw01_WordRound.f
  rw [hb, w64_id (n := a) (by omega) (by omega), w64_id (n := k) (by omega) (by omega), if_pos (by omega)]
  simp only [wr_wrap, Option.bind_some, wr_ext _ b h0 h1, wr_awake]
  rw [if_pos (by unfold wrap64 wrap32; omega)]
  have es : shl .i64 k (b : Int) = wrap64 (k * 2 ^ b) := by
    unfold shl
    rw [i64_wrap, Int.toNat_natCast, pow_min _ _ (by simp [IntKind.bits]; omega)]
  have e64 : ∀ m : Int, ∃ l, wrap64 m = m + 2 ^ b * l := fun m => by
    obtain ⟨_, e2⟩ := pow_split b h0 h1
    refine ⟨-((m + 9223372036854775808) / 18446744073709551616) * (2 ^ (32 - b) * 4294967296), ?_⟩
    have e3 : (2 : Int) ^ b * (-((m + 9223372036854775808) / 18446744073709551616) * (2 ^ (32 - b) * 4294967296)) = -((m + 9223372036854775808) / 18446744073709551616) * 18446744073709551616 := by
      generalize (2 : Int) ^ b = P at *
      generalize (2 : Int) ^ (32 - b) = Q at *
      generalize (m + 9223372036854775808) / 18446744073709551616 = z
      grind
    rw [e3]
    unfold wrap64
    omega
  obtain ⟨l1, hl1⟩ := e64 (k * 2 ^ b)
  obtain ⟨l2, hl2⟩ := e64 (a + shl .i64 k (b : Int))
  have e : ext (wrap64 (a + shl .i64 k (b : Int))) b = ext a b := by
    refine ext_congr (k := k + l1 + l2) h0 h1 ?_
    rw [hl2, es, hl1]
    grind
  rw [if_pos e]

end Go.Proofs.Ytmaokblceahgjaa.Pure
