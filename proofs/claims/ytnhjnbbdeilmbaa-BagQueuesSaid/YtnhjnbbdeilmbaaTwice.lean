/- What is added twice is there once; other types go the same way, texts as numbers: for every list of bytes (the law takes the first 100), no further condition. -/
import Derived.Test.YtnhjnbbdeilmbaaArgs
import Derived.Laws.BytesString
import Derived.Deep.LoopGhost
import Derived.Deep.CutRange
import Derived.Deep.RegionWith
namespace Go.Proofs.Ytnhjnbbdeilmbaa.Hand
open Go.RowKit

/-- A byte as a text. -/
def str (v : Int) : List UInt8 := [UInt8.ofNat v.toNat]
theorem str_inj {v u : Int} (h0 : 0 ≤ v) (h1 : v ≤ 255) (g0 : 0 ≤ u) (g1 : u ≤ 255) (h : str v = str u) : v = u := by
  unfold str at h
  have := congrArg UInt8.toNat (List.cons.inj h).1
  simp at this
  omega
theorem ok_str (v : Int) : okS (str v) := by simp [okS, str, maxLen]
theorem mem_str {xs : List Int} {v : Int} (hx : ∀ x ∈ xs, 0 ≤ x ∧ x ≤ 255) (h0 : 0 ≤ v) (h1 : v ≤ 255) : (str v ∈ xs.map str) ↔ v ∈ xs := by
  constructor
  · intro h
    obtain ⟨x, hx1, hx2⟩ := List.mem_map.1 h
    have := hx x hx1
    rw [← str_inj this.1 this.2 h0 h1 hx2]
    exact hx1
  · exact fun h => List.mem_map.2 ⟨v, h, rfl⟩
theorem ins_str {xs : List Int} {v : Int} (hx : ∀ x ∈ xs, 0 ≤ x ∧ x ≤ 255) (h0 : 0 ≤ v) (h1 : v ≤ 255) : insS (xs.map str) (str v) = (insI xs v).map str := by
  unfold insS insI
  by_cases h : v ∈ xs
  · rw [if_pos h, if_pos ((mem_str hx h0 h1).2 h)]
  · rw [if_neg h, if_neg (fun g => h ((mem_str hx h0 h1).1 g))]
    simp

/-- Two sets of their own blocks. -/
structure Two (w : World) (B ga gb : Nat) (xs : List Int) (ys : List (List UInt8)) : Prop where
  out : ∃ Fa Fb, SetI w Fa ga xs ∧ SetS w Fb gb ys ∧ (∀ k, Fa k → ¬ Fb k) ∧ (∀ k, Fa k → B ≤ k) ∧ (∀ k, Fb k → B ≤ k)
theorem Two.drewN {w : World} {B ga gb : Nat} {xs : List Int} {ys : List (List UInt8)} (t : Two w B ga gb xs ys) (n : Nat) : Two (w.drewN n) B ga gb xs ys := by
  obtain ⟨Fa, Fb, a, b, r⟩ := t.out
  exact ⟨Fa, Fb, a.kept ((Keeps.refl (fun _ => False) _).drewN n) (fun _ _ f => f), b.kept ((Keeps.refl (fun _ => False) _).drewN n) (fun _ _ f => f), r⟩
theorem Two.alloc {w : World} {B ga gb : Nat} {xs : List Int} {ys : List (List UInt8)} (t : Two w B ga gb xs ys) (o : Obj) : Two (w.alloc o) B ga gb xs ys := by
  obtain ⟨Fa, Fb, a, b, r⟩ := t.out
  exact ⟨Fa, Fb, a.kept (Keeps.of_alloc _ _) (fun _ _ f => f), b.kept (Keeps.of_alloc _ _) (fun _ _ f => f), r⟩

/-- The number is added: what was new since w0 stays (the byte that a text is made of). -/
def GaveA (w0 w : World) (B ga gb : Nat) (xs : List Int) (ys : List (List UInt8)) (v : Int) (e : Ending) (w' : World) : Prop :=
  e = .returned (.bool (!decide (v ∈ xs))) ∧ Two w' B ga gb (insI xs v) ys ∧ Below B w w' ∧ ∀ k, w0.heap.size ≤ k → k < w.heap.size → w'.heap[k]? = w.heap[k]?
theorem addA {w0 w : World} {B ga gb : Nat} {xs : List Int} {ys : List (List UInt8)} (t : Two w0 B ga gb xs ys) (k : Keeps (fun _ => False) w0 w) (hB : B ≤ w.heap.size) {v : Int} (hv : okI v) (hl : xs.length < 1000000) :
    Calls Try.prog 12 #[.pointer (some ⟨ga, 0, none⟩), .int .i64 v] w (GaveA w0 w B ga gb xs ys v) := by
  obtain ⟨Fa, Fb, a, b, d, ba, bb⟩ := t.out
  have a' := a.kept k (fun _ _ f => f)
  have b' := b.kept k (fun _ _ f => f)
  refine (addI a' hv hl).mono ?_
  rintro e w' ⟨rfl, F', s', st⟩
  have hd : ∀ k, Fb k → ¬ Fa k := fun k hb ha => d k ha hb
  exact ⟨rfl, ⟨F', Fb, s', b'.kept st.keeps hd, fun k h1 h2 => st.apart hd b'.lt k h2 h1, st.from hB ba, bb⟩, st.below hB ba, fun j h1 h2 => st.keeps.block j h2 (fun h => by have := a.lt j h; omega)⟩

def GaveB (w : World) (B ga gb : Nat) (xs : List Int) (ys : List (List UInt8)) (v : List UInt8) (e : Ending) (w' : World) : Prop :=
  e = .returned (.bool (!decide (v ∈ ys))) ∧ Two w' B ga gb xs (insS ys v) ∧ Below B w w'
theorem addB {w : World} {B ga gb : Nat} {xs : List Int} {ys : List (List UInt8)} (t : Two w B ga gb xs ys) (hB : B ≤ w.heap.size) {v : List UInt8} (hv : okS v) (hl : ys.length < 1000000) :
    Calls Try.prog 13 #[.pointer (some ⟨gb, 0, none⟩), .string ⟨v.toArray⟩] w (GaveB w B ga gb xs ys v) := by
  obtain ⟨Fa, Fb, a, b, d, ba, bb⟩ := t.out
  refine (addS b hv hl).mono ?_
  rintro e w' ⟨rfl, F', s', st⟩
  exact ⟨rfl, ⟨Fa, F', a.kept st.keeps d, s', st.apart d a.lt, ba, st.from hB bb⟩, st.below hB bb⟩

theorem lenA {w : World} {B ga gb : Nat} {xs : List Int} {ys : List (List UInt8)} (t : Two w B ga gb xs ys) : Calls Try.prog 14 #[.pointer (some ⟨ga, 0, none⟩)] w fun e w' => e = .returned (.int .i64 (xs.length : Nat)) ∧ w = w' := by
  obtain ⟨Fa, Fb, a, b, r⟩ := t.out
  exact lenI a
theorem lenB {w : World} {B ga gb : Nat} {xs : List Int} {ys : List (List UInt8)} (t : Two w B ga gb xs ys) : Calls Try.prog 15 #[.pointer (some ⟨gb, 0, none⟩)] w fun e w' => e = .returned (.int .i64 (ys.length : Nat)) ∧ w = w' := by
  obtain ⟨Fa, Fb, a, b, r⟩ := t.out
  exact lenS b
theorem mem_ins (xs : List Int) (v : Int) : v ∈ insI xs v := by
  unfold insI
  by_cases h : v ∈ xs
  · rw [if_pos h]; exact h
  · rw [if_neg h]; simp
theorem ins_again (xs : List Int) (v : Int) : insI (insI xs v) v = insI xs v := if_pos (mem_ins xs v)
theorem ins_len (xs : List Int) (v : Int) : (insI xs v).length ≤ xs.length + 1 := by
  unfold insI; split <;> simp
theorem ins_all {xs : List Int} {v : Int} {p : Int → Prop} (h : ∀ x ∈ xs, p x) (hv : p v) : ∀ x ∈ insI xs v, p x := by
  intro x hx
  unfold insI at hx
  split at hx
  · exact h x hx
  · rcases List.mem_append.1 hx with h1 | h1
    · exact h x h1
    · rw [List.mem_singleton.1 h1]; exact hv

theorem foldl_one (v : Int) : ([v].foldl (fun r n => r.push (UInt8.ofNat n.toNat)) ByteArray.empty) = (⟨(str v).toArray⟩ : ByteArray) := rfl
theorem conv_one (W : World) (B : Nat) (v : Int) (h : W.cell? ⟨B, 0, none⟩ = some (.int .u8 v)) : (convert 31 9 (.slice (some ⟨B, 0, none⟩) 1 1)).run Try.prog W = .ok (.string ⟨#[UInt8.ofNat v.toNat]⟩) W := by
  rw [run_convert_bytes_string W 31 9 5 _ 1 1 Try.underlying31 Try.underlying5 Try.underlying9, run_bytesToString W ⟨B, 0, none⟩ 1 1 [v] ?_]
  · rfl
  · have := run_loadCells_list (P := Try.prog) (w := W) ⟨B, 0, none⟩ [.int .u8 v] (fun j u hj => by
      cases j with
      | zero => simp at hj; subst hj; simpa [Addr.add] using h
      | succ j => simp at hj)
    simpa using this


theorem keeps_drew_alloc (w : World) (o : Obj) : Keeps (fun _ => False) w.drew (w.alloc o).drew := ⟨rfl, rfl, rfl, by simp, fun k hk _ => Below.heap_alloc _ _ _ hk⟩
theorem below_drew_alloc {B : Nat} {w0 w : World} (h : Below B w0 w) (hB : B ≤ w.heap.size) (o : Obj) : Below B w0 (w.alloc o).drew := (h.alloc hB o).drew
theorem byte_new (w : World) (v : Int) : (w.alloc (.cells #[.int .u8 v] 5)).drew.heap[w.heap.size]? = some (.cells #[.int .u8 v] 5 (0, 0)) := heap_alloc_new w _
theorem byte_cell {w : World} {B : Nat} {v : Int} (h : w.heap[B]? = some (.cells #[.int .u8 v] 5 (0, 0))) : w.cell? ⟨B, 0, none⟩ = some (.int .u8 v) := by rw [cell_of_row _ _ 0 _ _ _ h]; rfl

set_option maxHeartbeats 8000000 in
set_option maxRecDepth 100000 in
theorem twice_c (a : Option Addr) (len cap : Nat) (z : List Int) (w : World) (hz : IsRow .u8 w a len cap z) :
    Calls Try.prog 4 #[.slice a len cap] w fun e w' => e = .returned (.bool true) ∧ Below w.heap.size w w' := by
  obtain ⟨hlen, hcap, hmax, hcell, hwf⟩ := hz
  unfold maxLen at hmax
  have HC := Aside.mk hcell
  have HW : Aside (∀ i, i < len → 0 ≤ rdl z i ∧ rdl z i ≤ 255) := ⟨fun i hi => by
    have hm : rdl z i ∈ z := by
      unfold rdl
      rw [List.getD_eq_getElem?_getD, List.getElem?_eq_getElem (by omega)]
      exact List.getElem_mem _
    exact wf_u8 (hwf _ hm)⟩
  have T0 : Aside (Two ((w.alloc (.cells #[.map none, .slice none 0 0] 34)).alloc (.cells #[.map none, .slice none 0 0] 38)) w.heap.size w.heap.size (w.heap.size + 1) [] []) := by
    refine ⟨⟨(fun k => k = w.heap.size), (fun k => k = (w.alloc (.cells #[.map none, .slice none 0 0] 34)).heap.size), (setI_new w).kept (Keeps.of_alloc _ _) (fun _ _ f => f), ?_, ?_, ?_, ?_⟩⟩
    · have := setS_new (w.alloc (.cells #[.map none, .slice none 0 0] 34))
      simpa using this
    · intro k h1 h2; simp at h2; omega
    · intro k h; omega
    · intro k h; simp at h; omega
  have K0 : Aside (Below w.heap.size w ((w.alloc (.cells #[.map none, .slice none 0 0] 34)).alloc (.cells #[.map none, .slice none 0 0] 38))) := ⟨((Below.refl _ _).alloc (Nat.le_refl _) _).alloc (by simp) _⟩
  clear hlen hcell hwf
  go_enter Try.func4, Try.ntmps4
  go_wp2_with fail
  go_loopg [5] 100 (fun gk i wr => ∃ (k : Nat) (xs : List Int), gk = 100 - k ∧ k ≤ len ∧ k ≤ 100 ∧ i = .int .i64 k ∧ Aside (xs.length ≤ k) ∧ Aside (∀ x ∈ xs, 0 ≤ x ∧ x ≤ 255) ∧ Aside (Two wr w.heap.size w.heap.size (w.heap.size + 1) xs (xs.map str)) ∧ Aside (Below w.heap.size w wr))
  case atStart => exact ⟨0, [], rfl, Nat.zero_le _, Nat.zero_le _, rfl, ⟨Nat.le_refl _⟩, ⟨fun x h => by cases h⟩, T0, K0⟩
  case round =>
    obtain ⟨k, xs, rfl, hk, hk2, rfl, HL, HX, T, K⟩ := hrel
    by_cases hlt : k < len ∧ k < 100
    · obtain ⟨hlt, hlt2⟩ := hlt
      obtain ⟨b, o, rfl, hb, c0⟩ := HC.out k hlt
      obtain ⟨v0, v1⟩ := HW.out k hlt
      have OI : Aside (okI (rdl z k)) := ⟨by unfold okI; simp [Lit.wf, IntKind.min, IntKind.max, IntKind.signed, IntKind.bits]; omega⟩
      have OS := Aside.mk (ok_str (rdl z k))
      generalize rdl z k = v at *
      have MS := Aside.mk (mem_str HX.out v0 v1)
      have IS := Aside.mk (ins_str HX.out v0 v1)
      have c1 := (K.out.cell (p := ⟨b, o + k, none⟩) hb).trans c0
      go_upto_region 6 with (fail)
      go_cut [6, 7] from 8 to 55 (fun s6 s7 wx => s6 = .bool (!decide (v ∈ xs)) ∧ s7 = .bool (!decide (v ∈ xs)) ∧ Aside (Two wx w.heap.size w.heap.size (w.heap.size + 1) (insI xs v) ((insI xs v).map str)) ∧ Aside (Below w.heap.size w wx))
      case first =>
        have hcv := conv_one
        have T1 : Aside (Two wr.drew w.heap.size w.heap.size (w.heap.size + 1) xs (xs.map str)) := ⟨T.out.drewN 1⟩
        have K1 : Aside (Below w.heap.size w wr.drew) := ⟨K.out.drew⟩
        have DS : Aside (decide (str v ∈ xs.map str) = decide (v ∈ xs)) := ⟨decide_eq_decide.2 MS.out⟩
        have hBs : w.heap.size ≤ wr.heap.size := K.out.size
        have X1 : Aside (xs.length < 1000000) := ⟨by have := HL.out; omega⟩
        have X2 : Aside ((xs.map str).length < 1000000) := ⟨by have := HL.out; simp; omega⟩
        have hb1 : b < wr.heap.size := by omega
        have hbne : ¬ b = wr.heap.size := by omega
        have hwv : IntKind.wrap .i64 v = v := i64_id (by omega) (by omega)
        have DS' : Aside (decide ([UInt8.ofNat v.toNat] ∈ xs.map str) = decide (v ∈ xs)) := ⟨DS.out⟩
        have IS' : Aside (insS (xs.map str) [UInt8.ofNat v.toNat] = (insI xs v).map str) := ⟨IS.out⟩
        have OS' : Aside (okS [UInt8.ofNat v.toNat]) := ⟨OS.out⟩
        go_region_with (first
          | (go_at_call 12; (with_reducible refine (addA (w := wr.drew) T1.out (Keeps.refl _ _) K1.out.size OI.out X1.out).mono ?_); rintro e w2 ⟨rfl, t2, k2, _⟩; have T2 := Aside.mk t2; have K2 := Aside.mk (K1.out.trans k2); have c2 := (K2.out.cell (p := ⟨b, o + k, none⟩) hb).trans c0; have hBs2 := K2.out.size; have hb2 : b < w2.heap.size := (by omega); have hbne2 : ¬ b = w2.heap.size := (by omega); clear t2 k2)
          | (go_at_call 12; (with_reducible refine (addA (w := (wr.alloc (.cells #[.int .u8 v] 5)).drew) T1.out (keeps_drew_alloc _ _) (by simp; omega) OI.out X1.out).mono ?_); rintro e w2 ⟨rfl, t2, k2, kb⟩; have T2 := Aside.mk t2; have K2 := Aside.mk ((below_drew_alloc K.out hBs _).trans k2); have c2 := (K2.out.cell (p := ⟨b, o + k, none⟩) hb).trans c0; have cB := byte_cell ((kb wr.heap.size (Nat.le_refl _) (by simp)).trans (byte_new wr v)); have hBs2 := K2.out.size; have hb2 : b < w2.heap.size := (by omega); clear t2 k2 kb)
          | (go_at_call 13; (with_reducible refine (addB (v := [UInt8.ofNat v.toNat]) (ys := xs.map str) T2.out hBs2 OS'.out X2.out).mono ?_); rintro e w3 ⟨rfl, t3, k3⟩; rw [IS'.out] at t3; rw [DS'.out]; have T3 := Aside.mk t3; have K3 := Aside.mk (K2.out.trans k3); clear t3 k3)
          | (go_at_call 13; (with_reducible refine (addB (v := [UInt8.ofNat v.toNat]) (ys := xs.map str) (T2.out.alloc (.cells #[.int .u8 v] 5)) (by simp; omega) OS'.out X2.out).mono ?_); rintro e w3 ⟨rfl, t3, k3⟩; rw [IS'.out] at t3; rw [DS'.out]; have T3 := Aside.mk t3; have K3 := Aside.mk ((K2.out.alloc hBs2 _).trans k3); clear t3 k3))
        all_goals
          go_wp2_with fail
          go_meet
          exact ⟨rfl, rfl, T3, K3⟩
      case rest =>
        clear c1
        obtain ⟨rfl, rfl, T3, K3⟩ := hcut
        have hcv := conv_one
        have c3 := (K3.out.cell (p := ⟨b, o + k, none⟩) hb).trans c0
        have hwv : wrap64 v = v := by unfold wrap64; omega
        have X1 : Aside ((insI xs v).length < 1000000) := ⟨by have := HL.out; have := ins_len xs v; omega⟩
        have X2 : Aside (((insI xs v).map str).length < 1000000) := ⟨by have := HL.out; have := ins_len xs v; simp; omega⟩
        have HX2 : Aside (∀ x ∈ insI xs v, 0 ≤ x ∧ x ≤ 255) := ⟨ins_all HX.out ⟨v0, v1⟩⟩
        have D1 : Aside (decide (v ∈ insI xs v) = true) := ⟨decide_eq_true (mem_ins xs v)⟩
        have D2 : Aside (decide ([UInt8.ofNat v.toNat] ∈ (insI xs v).map str) = true) := ⟨decide_eq_true ((mem_str HX2.out v0 v1).2 (mem_ins xs v))⟩
        have I2 : Aside (insS ((insI xs v).map str) [UInt8.ofNat v.toNat] = (insI xs v).map str) := ⟨(ins_str HX2.out v0 v1).trans (by rw [ins_again])⟩
        have OS' : Aside (okS [UInt8.ofNat v.toNat]) := ⟨OS.out⟩
        generalize decide (v ∈ xs) = d at *
        go_wp2_with fail
        refine (addA (w0 := wc) T3.out (Keeps.refl _ _) K3.out.size OI.out X1.out).mono ?_
        rintro e w4 ⟨rfl, t4, k4, _⟩
        rw [ins_again] at t4
        rw [D1.out]
        have T4 := Aside.mk t4
        have K4 := Aside.mk (K3.out.trans k4)
        have c4 := (K4.out.cell (p := ⟨b, o + k, none⟩) hb).trans c0
        have hb4 : b < w4.heap.size := by have := K4.out.size; omega
        clear t4 k4 c3
        go_wp2_with fail
        refine (addB (v := [UInt8.ofNat v.toNat]) (ys := (insI xs v).map str) (T4.out.alloc (.cells #[.int .u8 v] 5)) (by have := K4.out.size; simp; omega) OS'.out X2.out).mono ?_
        rintro e w5 ⟨rfl, t5, k5⟩
        rw [I2.out] at t5
        rw [D2.out]
        have T5 := Aside.mk t5
        have K5 := Aside.mk ((K4.out.alloc K4.out.size _).trans k5)
        clear t5 k5 c4
        go_wp2_with fail
        refine (lenA T5.out).mono ?_
        rintro e w' ⟨rfl, rfl⟩
        go_wp2_with fail
        refine (lenB T5.out).mono ?_
        rintro e w' ⟨rfl, rfl⟩
        rw [List.length_map]
        go_wp2_with fail
        go_roundg (100 - (k + 1))
        case measure => omega
        case rel => exact ⟨k + 1, insI xs v, rfl, by omega, by omega, by go_num, ⟨by have := HL.out; have := ins_len xs v; omega⟩, HX2, T5, K5⟩
    · by_cases hkl : k < len
      all_goals
        first
          | (have hd60 : (100 : Int) ≤ (k : Int) := by omega)
          | skip
        clear hlt
        go_wp2_with fail
        refine (awake_c _).mono ?_
        rintro e w4 ⟨rfl, b4⟩
        have K4 := Aside.mk (K.out.trans (b4.mono K.out.size))
        clear b4
        go_wp2
        go_ret
        exact ⟨rfl, K4.out⟩

end Go.Proofs.Ytnhjnbbdeilmbaa.Hand
