/- Plain lemmas on stores into a list of words: no program in sight. -/
import Derived.Test.YtbjpomdenppaiaaNone
namespace Go.Proofs.Ytbjpomdenppaiaa.Hand
open Go.RowKit

theorem wf_i64 {n : Int} (h : (Lit.int .i64 n).wf = true) : -9223372036854775808 ≤ n ∧ n ≤ 9223372036854775807 := by
  simp only [Lit.wf, IntKind.min, IntKind.max, IntKind.signed, IntKind.bits, Bool.and_eq_true, decide_eq_true_eq, if_true] at h
  omega
theorem wf_i32 {n : Int} (h : (Lit.int .i32 n).wf = true) : -2147483648 ≤ n ∧ n ≤ 2147483647 := by
  simp only [Lit.wf, IntKind.min, IntKind.max, IntKind.signed, IntKind.bits, Bool.and_eq_true, decide_eq_true_eq, if_true] at h
  omega
theorem wf_u16 {n : Int} (h : (Lit.int .u16 n).wf = true) : 0 ≤ n ∧ n ≤ 65535 := by
  simp [Lit.wf, IntKind.min, IntKind.max, IntKind.signed, IntKind.bits] at h
  omega
theorem w32_id {n : Int} (h0 : -2147483648 ≤ n) (h1 : n ≤ 2147483647) : wrap32 n = n := by unfold wrap32; omega

theorem new_i (n : Int) (w : World) (h0 : 0 ≤ n) (hn : n ≤ 32000) : Calls Try.prog 10 #[.int .i64 n] w (Fresh w n.toNat) := by
  obtain ⟨k, rfl⟩ := Int.eq_ofNat_of_zero_le h0
  rw [Int.toNat_natCast]
  exact new_c k w (by omega)

theorem rdl_set (l : List Int) (i j : Nat) (v : Int) (h : j < l.length) : rdl (l.set i v) j = if i = j then v else rdl l j := by
  unfold rdl
  rw [List.getD_eq_getElem?_getD, List.getD_eq_getElem?_getD, List.getElem?_set]
  by_cases e : i = j
  · subst e; simp [h]
  · simp [e]
theorem rdl_zeros (n j : Nat) : rdl (List.replicate n 0) j = 0 := by
  unfold rdl
  rw [List.getD_eq_getElem?_getD, List.getElem?_replicate]
  split <;> rfl
theorem rdl_sto (l : List Int) (a v : Int) (j : Nat) (h : j < l.length) : rdl (sto l a v) j = if (j : Int) = a then wrap32 v else rdl l j := by
  by_cases hin : 0 ≤ a ∧ a < l.length
  · rw [sto_yes hin.1 hin.2, rdl_set _ _ _ _ h]
    by_cases e : a.toNat = j
    · rw [if_pos e, if_pos (by omega)]
    · rw [if_neg e, if_neg (by omega)]
  · rw [sto_no hin, if_neg (by omega)]
theorem atl_sto (l : List Int) (a b v : Int) (h0 : 0 ≤ b) (h1 : b < l.length) : atl (sto l a v) b = if b = a then wrap32 v else atl l b := by
  rw [atl_yes h0 (by rw [sto_length]; exact h1), atl_yes h0 h1, rdl_sto _ _ _ _ (by omega)]
  by_cases e : b = a
  · rw [if_pos e, if_pos (by omega)]
  · rw [if_neg e, if_neg (by omega)]
theorem inr_sto (l : List Int) (a v b : Int) : inr (sto l a v) b = inr l b := by unfold inr; rw [sto_length]
theorem inr_len {l m : List Int} (h : l.length = m.length) (a : Int) : inr l a = inr m a := by unfold inr; rw [h]

/-- Where a place lies: before all cells, among them, behind them. -/
theorem inr_ways (s : Nat) (a : Int) : (a < 0 ∧ ∀ l : List Int, l.length = s → inr l a = false) ∨ ((0 ≤ a ∧ a < s) ∧ ∀ l : List Int, l.length = s → inr l a = true) ∨ ((0 ≤ a ∧ (s : Int) ≤ a) ∧ ∀ l : List Int, l.length = s → inr l a = false) := by
  by_cases h : a < 0
  · exact .inl ⟨h, fun l e => inr_no (by omega)⟩
  · by_cases h1 : a < s
    · exact .inr (.inl ⟨⟨by omega, h1⟩, fun l e => inr_yes (by omega) (by omega)⟩)
    · exact .inr (.inr ⟨⟨by omega, by omega⟩, fun l e => inr_no (by omega)⟩)

/-- A list's cells, one at a time, also behind a turn of another block. -/
def Reads (w : World) (A : Option Addr) (l : List Int) : Prop := ∀ i, i < l.length → ∃ q, A = some ⟨q, 0, none⟩ ∧ w.cell? ⟨q, i, none⟩ = some (.int .i64 (rdl l i))
theorem reads_of {w : World} {b c : Nat} {A : Option Addr} {l : List Int} (h : w.ownsRow b 3 1 (.slice A l.length c) l.length (nums l)) : Reads w A l := fun i hi => by
  obtain ⟨A', c', he, _, hA⟩ := owned_slice h
  cases he
  obtain ⟨q, rfl⟩ := hA (by omega)
  exact ⟨q, rfl, owned_cell h i hi⟩
theorem owned_kept {w w' : World} {b c n : Nat} {A : Option Addr} {xs : List Value} {S : Nat → Prop} (h : w.ownsRow b 3 1 (.slice A n c) n xs) (k : Keeps S w w') (hS : ∀ q, S q → q < b) : w'.ownsRow b 3 1 (.slice A n c) n xs := by
  refine ⟨h.1, ?_⟩
  rcases h.2 with hn | ⟨q, cap, cur, hv, hb, hh, r⟩
  · exact .inl hn
  · refine .inr ⟨q, cap, cur, hv, hb, ?_, r⟩
    rw [k.block q (Array.getElem?_eq_some_iff.1 hh).1 (fun s => by have := hS q s; omega)]
    exact hh
theorem owned_cap {w : World} {b c n : Nat} {A : Option Addr} {xs : List Value} (h : w.ownsRow b 3 1 (.slice A n c) n xs) : n ≤ c := by
  obtain ⟨A', c', he, hc, _⟩ := owned_slice h
  cases he; exact hc

end Go.Proofs.Ytbjpomdenppaiaa.Hand
