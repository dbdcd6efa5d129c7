/- Contracts of the references that the laws call: In, Same. -/
import Derived.Test.YtnhjnbbdeilmbaaGath
namespace Go.Proofs.Ytnhjnbbdeilmbaa.Hand
open Go.RowKit

theorem owned_len' {w : World} {b n : Nat} {v : Value} {cs : List Int} (h : w.ownsRow b 3 1 v n (nums cs)) : cs.length = n := by have := h.1; simpa [nums] using this
/-- A list reads so. -/
def Reads (w : World) (A : Option Addr) (l : List Int) : Prop := ∀ j, j < l.length → ∃ q, A = some ⟨q, 0, none⟩ ∧ w.cell? ⟨q, j, none⟩ = some (.int .i64 (rdl l j))
theorem rdl_mem {l : List Int} {j : Nat} (h : j < l.length) : rdl l j ∈ l := by
  unfold rdl
  rw [List.getD_eq_getElem?_getD, List.getElem?_eq_getElem h]
  exact List.getElem_mem _
theorem mem_rdl {l : List Int} {x : Int} (h : x ∈ l) : ∃ j, j < l.length ∧ rdl l j = x := by
  obtain ⟨j, hj, rfl⟩ := List.getElem_of_mem h
  exact ⟨j, hj, by unfold rdl; rw [List.getD_eq_getElem?_getD, List.getElem?_eq_getElem hj]; rfl⟩

set_option maxHeartbeats 2000000 in
theorem in_c (A : Option Addr) (c : Nat) (l : List Int) (x : Int) (w : World) (hr : Reads w A l) (hm : l.length ≤ 1000000) :
    Calls Try.prog 19 #[.slice A l.length c, .int .i64 x] w fun e w' => e = .returned (.bool (decide (x ∈ l))) ∧ w = w' := by
  have HR := Aside.mk hr
  clear hr
  go_enter Try.func19, Try.ntmps19
  go_wp2
  go_loop [5] (fun i => ∃ k : Nat, k ≤ l.length ∧ i = .int .i64 k ∧ Aside (∀ j, j < k → ¬ rdl l j = x)) (fun i => l.length - (intOf i).toNat)
  case atStart => exact ⟨0, Nat.zero_le _, rfl, ⟨fun j h => by omega⟩⟩
  case round =>
    obtain ⟨k, hk, rfl, HN⟩ := hrel
    by_cases hlt : k < l.length
    · obtain ⟨q, rfl, hq⟩ := HR.out k hlt
      by_cases h0 : rdl l k = x
      · have hd : decide (x ∈ l) = true := decide_eq_true (h0 ▸ rdl_mem hlt)
        have HD := Aside.mk hd
        have h0' : (rdl l k == x) = true := beq_iff_eq.2 h0
        clear hd h0
        go_wp2
        go_ret
        exact ⟨by rw [HD.out]; rfl, rfl⟩
      · have HN2 : Aside (∀ j, j < k + 1 → ¬ rdl l j = x) := ⟨fun j hj => by
          by_cases e : j = k
          · rw [e]; exact h0
          · exact HN.out j (by omega)⟩
        have h0' : (rdl l k == x) = false := beq_eq_false_iff_ne.2 h0
        clear h0
        go_wp2
        go_round
        case rel => exact ⟨k + 1, by omega, by go_num, HN2⟩
        case measure => simp [intOf]; omega
    · obtain rfl : k = l.length := by omega
      have hd : decide (x ∈ l) = false := decide_eq_false (fun h => by
        obtain ⟨j, hj, e⟩ := mem_rdl h
        exact HN.out j hj e)
      have HD := Aside.mk hd
      clear hlt hk hd
      go_wp2
      go_ret
      exact ⟨by rw [HD.out]; rfl, rfl⟩

set_option maxHeartbeats 2000000 in
/-- Equal lists are told to be the same. -/
theorem same_c (A B : Option Addr) (c d : Nat) (l : List Int) (w : World) (ha : Reads w A l) (hb : Reads w B l) (hm : l.length ≤ 1000000) :
    Calls Try.prog 18 #[.slice A l.length c, .slice B l.length d] w fun e w' => e = .returned (.bool true) ∧ ∃ n, w' = w.drewN n := by
  have HA := Aside.mk ha
  have HB := Aside.mk hb
  clear ha hb
  go_enter Try.func18, Try.ntmps18
  go_wp2
  go_loopw [5] (fun i wr => ∃ k n : Nat, k ≤ l.length ∧ i = .int .i64 k ∧ wr = w.drewN n) (fun i _ => l.length - (intOf i).toNat)
  case atStart => exact ⟨0, 0, Nat.zero_le _, rfl, rfl⟩
  case round =>
    obtain ⟨k, n, hk, rfl, rfl⟩ := hrel
    by_cases hlt : k < l.length
    · obtain ⟨q, rfl, hq⟩ := HA.out k hlt
      obtain ⟨p, rfl, hp⟩ := HB.out k hlt
      go_wp2
      go_quiet (fail)
      go_wp2
      go_roundw
      case rel => exact ⟨k + 1, _, by omega, by go_num, rfl⟩
      case measure => simp [intOf]; omega
    · go_wp2
      go_ret
      exact ⟨rfl, n, rfl⟩

theorem Gath.reads {w : World} {B g : Nat} {xs cs : List Int} {v : Value} (t : Gath w B g xs v cs) : ∃ A c, v = .slice A cs.length c ∧ cs.length ≤ c ∧ Reads w A cs := by
  obtain ⟨A, c, rfl, hc, hr⟩ := t.read
  exact ⟨A, c, rfl, hc, fun j hj => by obtain ⟨q, e, _, h⟩ := hr j hj; exact ⟨q, e, h⟩⟩
theorem inG {w : World} {B g : Nat} {xs cs : List Int} {v : Value} (t : Gath w B g xs v cs) (x : Int) (hm : cs.length ≤ 1000000) :
    Calls Try.prog 19 #[v, .int .i64 x] w fun e w' => e = .returned (.bool (decide (x ∈ cs))) ∧ w = w' := by
  obtain ⟨A, c, rfl, hc, hr⟩ := t.reads
  exact in_c A c cs x w hr hm
theorem reads_own {w : World} {b n : Nat} {v : Value} {l : List Int} (h : w.ownsRow b 3 1 v n (nums l)) : ∃ A c, v = .slice A l.length c ∧ Reads w A l := by
  have hn := owned_len' h
  subst hn
  obtain ⟨A, c, rfl, hc, hq⟩ := owned_slice h
  refine ⟨A, c, rfl, fun j hj => ?_⟩
  obtain ⟨q, rfl⟩ := hq (by omega)
  exact ⟨q, rfl, owned_cell h j hj⟩
end Go.Proofs.Ytnhjnbbdeilmbaa.Hand
