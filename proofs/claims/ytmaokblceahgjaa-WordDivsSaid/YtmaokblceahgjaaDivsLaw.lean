/- The quotient of any two int64 numbers, and what is left over, are what the reference says: for every input, no further condition. -/
import Derived.Test.YtmaokblceahgjaaDivs
namespace Go.Proofs.Ytmaokblceahgjaa.Hand
open Go.RowKit Go.Proofs.YtmaokblceahgjaaW.PrintWords Go.Proofs.YtmaokblceahgjaaW.PrintLast
open Go.Proofs.Ytmaokblceahgjaa.Num

theorem refdiv_c (a b : Int) (w : World) (h : fw b ≠ 0) :
    Calls Try.prog 14 #[.int .i64 a, .int .i64 b] w fun e w' => e = .returned (.tuple #[.int .i64 (fq a b), .int .i64 (fr a b)]) ∧ Drawn0 w w' := by
  by_cases ha : fw a < 0 <;> by_cases hb : fw b < 0
  · exact div_nn a b w ha hb
  · exact div_np a b w ha (by omega)
  · exact div_pn a b w (by omega) hb
  · exact div_pp a b w (by omega) (by omega)

set_option maxHeartbeats 4000000 in
set_option maxRecDepth 100000 in
theorem divs_c (a b : Int) (w : World) : Calls Try.prog 3 #[.int .i64 a, .int .i64 b] w fun e w' => e = .returned (.bool true) ∧ Drawn0 w w' := by
  by_cases h : fw b = 0
  · have h0 : (fw b == 0) = true := beq_iff_eq.2 h
    have H : Aside0 (wrap32 b = 0) := Aside0.mk h
    clear h
    go_enter Try.func3, Try.ntmps3
    go_wp2_with (first
      | (go_at_call 11; (with_reducible refine (div0_c _ _ H.out _).mono ?_); rintro e w' ⟨rfl, ⟨nd, rfl⟩⟩)
      | (go_at_call 12; (with_reducible refine (ref_c _ _).mono ?_); rintro e w' ⟨rfl, ⟨nd, rfl⟩⟩)
      | (go_at_call 13; (with_reducible refine (awake_c _).mono ?_); rintro e w' ⟨rfl, ⟨nd, rfl⟩⟩))
    go_ret
    exact ⟨rfl, by repeat (first | exact Drawn0.refl _ | apply Drawn0.step)⟩
  · have h0 : (fw b == 0) = false := beq_eq_false_iff_ne.2 h
    have H := Aside0.mk h
    have H2 : Aside0 (wrap32 b ≠ 0) := Aside0.mk h
    clear h
    go_enter Try.func3, Try.ntmps3
    go_wp2_with (first
      | (go_at_call 11; (with_reducible refine (div_c _ _ H2.out _).mono ?_); rintro e w' ⟨rfl, ⟨nd, rfl⟩⟩)
      | (go_at_call 12; (with_reducible refine (ref_c _ _).mono ?_); rintro e w' ⟨rfl, ⟨nd, rfl⟩⟩)
      | (go_at_call 14; (with_reducible refine (refdiv_c _ _ _ H.out).mono ?_); rintro e w' ⟨rfl, ⟨nd, rfl⟩⟩)
      | (go_at_call 13; (with_reducible refine (awake_c _).mono ?_); rintro e w' ⟨rfl, ⟨nd, rfl⟩⟩))
    go_ret
    exact ⟨rfl, by repeat (first | exact Drawn0.refl _ | apply Drawn0.step)⟩

end Go.Proofs.Ytmaokblceahgjaa.Hand
