/- What is taken off 0 twice is as it was; once, and less a number, are it and itself; by 1 a quotient is the number, by -1 it is taken off 0: for every int64, no further condition. -/
import Derived.Test.YtmaokblceahgjaaWalk
namespace Go.Proofs.Ytmaokblceahgjaa.Hand
open Go.RowKit Go.Proofs.YtmaokblceahgjaaW.PrintWords Go.Proofs.YtmaokblceahgjaaW.PrintLast
open Go.Proofs.Ytmaokblceahgjaa.Num

set_option maxHeartbeats 4000000 in
set_option maxRecDepth 100000 in
theorem turns_c (a : Int) (w : World) : Calls Try.prog 9 #[.int .i64 a] w fun e w' => e = .returned (.bool true) ∧ Drawn0 w w' := by
  have h1 : (fs 0 (fs 0 a) == fw a) = true := by rw [beq_iff_eq]; unfold fs fw; unfold wrap32; omega
  have h2 : (fa a (fs 0 a) == 0) = true := by rw [beq_iff_eq]; unfold fs fa; unfold wrap32; omega
  have h3 : (fm a (-1) == fs 0 a) = true := by rw [beq_iff_eq]; unfold fs fm; congr 1; omega
  have h4 : (fm a 1 == fw a) = true := by rw [beq_iff_eq]; unfold fw fm; congr 1; omega
  have h5 : (fq a 1 == fw a) = true := by rw [beq_iff_eq]; unfold fw fq; rw [show wrap32 1 = 1 from by decide +kernel, Int.tdiv_one, w32_32]
  have h6 : (fr a 1 == 0) = true := by rw [beq_iff_eq]; unfold fr; rw [show wrap32 1 = 1 from by decide +kernel, Int.tmod_one]
  have e : wrap32 (-1) = -1 := by decide +kernel
  have h7 : (fq a (-1) == fs 0 a) = true := by rw [beq_iff_eq]; unfold fs fq; rw [e, Int.tdiv_neg, Int.tdiv_one]; unfold wrap32; omega
  have h8 : (fr a (-1) == 0) = true := by rw [beq_iff_eq]; unfold fr; rw [e, Int.tmod_neg, Int.tmod_one]
  have d1 : wrap32 1 ≠ 0 := by decide +kernel
  have d2 : wrap32 (-1) ≠ 0 := by decide +kernel
  have D1 := Aside0.mk d1
  have D2 := Aside0.mk d2
  clear d1 d2 e
  go_enter Try.func9, Try.ntmps9
  go_wp2_with (first
    | (go_at_call 17; (with_reducible refine (wrap_c _ _).mono ?_); rintro e w' ⟨rfl, ⟨nd, rfl⟩⟩)
    | (go_at_call 18; (with_reducible refine (add_c _ _ _).mono ?_); rintro e w' ⟨rfl, ⟨nd, rfl⟩⟩)
    | (go_at_call 19; (with_reducible refine (mul_c _ _ _).mono ?_); rintro e w' ⟨rfl, ⟨nd, rfl⟩⟩)
    | (go_at_call 20; (with_reducible refine (sub_c _ _ _).mono ?_); rintro e w' ⟨rfl, ⟨nd, rfl⟩⟩)
    | (go_at_call 11; (with_reducible refine (div_c _ _ (by first | exact D1.out | exact D2.out) _).mono ?_); rintro e w' ⟨rfl, ⟨nd, rfl⟩⟩)
    | (go_at_call 13; (with_reducible refine (awake_c _).mono ?_); rintro e w' ⟨rfl, ⟨nd, rfl⟩⟩))
  go_ret
  exact ⟨rfl, by repeat (first | exact Drawn0.refl _ | apply Drawn0.step)⟩

end Go.Proofs.Ytmaokblceahgjaa.Hand
