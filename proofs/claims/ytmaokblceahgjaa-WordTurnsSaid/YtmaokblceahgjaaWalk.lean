/- Contracts of the functions of the layer word, each at a function of its own that no rule opens: for walks by hand. -/
import Derived.Test.YtmaokblceahgjaaPureWordParts
namespace Go.Proofs.Ytmaokblceahgjaa.Hand
open Go.RowKit Go.Proofs.YtmaokblceahgjaaW.PrintWords Go.Proofs.YtmaokblceahgjaaW.PrintLast
open Go.Proofs.Ytmaokblceahgjaa.Num Go.Proofs.Ytmaokblceahgjaa.PWordParts

def fw (a : Int) : Int := wrap32 a
def fa (a b : Int) : Int := wrap32 (a + b)
def fs (a b : Int) : Int := wrap32 (a - b)
def fm (a b : Int) : Int := wrap32 (a * b)
def fq (a b : Int) : Int := wrap32 (Int.tdiv (wrap32 a) (wrap32 b))
def fr (a b : Int) : Int := Int.tmod (wrap32 a) (wrap32 b)

theorem wrap_c (a : Int) (w : World) : Calls Try.prog 17 #[.int .i64 a] w fun e w' => e = .returned (.int .i64 (fw a)) ∧ Drawn0 w w' :=
  word_Wrap.calls a (fw a) w (Pure.wp_wrap a)
theorem add_c (a b : Int) (w : World) : Calls Try.prog 18 #[.int .i64 a, .int .i64 b] w fun e w' => e = .returned (.int .i64 (fa a b)) ∧ Drawn0 w w' :=
  word_Add.calls a b (fa a b) w (Pure.wp_add a b)
theorem mul_c (a b : Int) (w : World) : Calls Try.prog 19 #[.int .i64 a, .int .i64 b] w fun e w' => e = .returned (.int .i64 (fm a b)) ∧ Drawn0 w w' :=
  word_Mul.calls a b (fm a b) w (Pure.wp_mul a b)
theorem sub_c (a b : Int) (w : World) : Calls Try.prog 20 #[.int .i64 a, .int .i64 b] w fun e w' => e = .returned (.int .i64 (fs a b)) ∧ Drawn0 w w' :=
  word_Sub.calls a b (fs a b) w (Pure.wp_sub a b)
theorem div_c (a b : Int) (h : wrap32 b ≠ 0) (w : World) : Calls Try.prog 11 #[.int .i64 a, .int .i64 b] w fun e w' => e = .returned (.tuple #[.int .i64 (fq a b), .int .i64 (fr a b), .bool true]) ∧ Drawn0 w w' :=
  word_Div.calls a b (fq a b) (fr a b) true w (Pure.wp_div a b h)
theorem div0_c (a b : Int) (h : wrap32 b = 0) (w : World) : Calls Try.prog 11 #[.int .i64 a, .int .i64 b] w fun e w' => e = .returned (.tuple #[.int .i64 0, .int .i64 0, .bool false]) ∧ Drawn0 w w' :=
  word_Div.calls a b 0 0 false w (Pure.wp_div0 a b h)
theorem awake_c (w : World) : Calls Try.prog 13 #[] w fun e w' => e = .returned (.bool true) ∧ Drawn0 w w' :=
  delayslotlaw01_awake.calls true w Pure.wp_awake

end Go.Proofs.Ytmaokblceahgjaa.Hand
