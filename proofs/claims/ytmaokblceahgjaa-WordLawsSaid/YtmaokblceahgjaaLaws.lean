/- What is told is a word; sums and products do not hang on their order; what is added and taken off is as it was: the laws of numbers modulo 2^32, for every three int64 numbers, no further condition. -/
import Derived.Test.YtmaokblceahgjaaWalk
namespace Go.Proofs.Ytmaokblceahgjaa.Hand
open Go.RowKit Go.Proofs.YtmaokblceahgjaaW.PrintWords Go.Proofs.YtmaokblceahgjaaW.PrintLast
open Go.Proofs.Ytmaokblceahgjaa.Num

set_option maxHeartbeats 4000000 in
set_option maxRecDepth 100000 in
theorem laws_c (a b c : Int) (w : World) : Calls Try.prog 8 #[.int .i64 a, .int .i64 b, .int .i64 c] w fun e w' => e = .returned (.bool true) ∧ Drawn0 w w' := by
  have r1 : -2147483648 ≤ fa a b := (w32_range _).1
  have r2 : fa a b < 2147483648 := by have := (w32_range (a + b)).2; unfold fa; omega
  have r3 : -2147483648 ≤ fm a b := (w32_range _).1
  have r4 : fm a b < 2147483648 := by have := (w32_range (a * b)).2; unfold fm; omega
  have h1 : (fa a b != fa b a) = false := by rw [bne_eq_false_iff_eq]; unfold fa; rw [Int.add_comm]
  have h2 : (fm a b != fm b a) = false := by rw [bne_eq_false_iff_eq]; unfold fm; rw [Int.mul_comm]
  have h3 : (fs (fa a b) b == fw a) = true := by rw [beq_iff_eq]; unfold fs fa fw; unfold wrap32; omega
  have h4 : (fm a (fa b c) == fa (fm a b) (fm a c)) = true := by
    rw [beq_iff_eq]; unfold fm fa; rw [w32_mul2, w32_add1, w32_add2, Int.mul_add]
  have h5 : (fm (fm a b) c == fm a (fm b c)) = true := by
    rw [beq_iff_eq]; unfold fm; rw [w32_mul1, w32_mul2, Int.mul_assoc]
  have h6 : (fw (fw a) == fw a) = true := by rw [beq_iff_eq]; unfold fw; rw [w32_32]
  go_enter Try.func8, Try.ntmps8
  go_wp2_with (first
    | (go_at_call 17; (with_reducible refine (wrap_c _ _).mono ?_); rintro e w' ⟨rfl, ⟨nd, rfl⟩⟩)
    | (go_at_call 18; (with_reducible refine (add_c _ _ _).mono ?_); rintro e w' ⟨rfl, ⟨nd, rfl⟩⟩)
    | (go_at_call 19; (with_reducible refine (mul_c _ _ _).mono ?_); rintro e w' ⟨rfl, ⟨nd, rfl⟩⟩)
    | (go_at_call 20; (with_reducible refine (sub_c _ _ _).mono ?_); rintro e w' ⟨rfl, ⟨nd, rfl⟩⟩)
    | (go_at_call 13; (with_reducible refine (awake_c _).mono ?_); rintro e w' ⟨rfl, ⟨nd, rfl⟩⟩))
  go_ret
  exact ⟨rfl, by repeat (first | exact Drawn0.refl _ | apply Drawn0.step)⟩

end Go.Proofs.Ytmaokblceahgjaa.Hand
