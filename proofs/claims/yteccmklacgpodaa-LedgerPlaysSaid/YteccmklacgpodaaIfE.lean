/-
  IndexFunc and ContainsFunc of events under any closure of one captured variable.
-/
import Derived.Test.YteccmklacgpodaaEvLf
import Derived.Shelf.Abstract
import Derived.Shelf.RegionOpen
namespace Go.Proofs.Yteccmklacgpodaa
open Go.RowKit
set_option maxRecDepth 100000
set_option linter.unusedSimpArgs false
/-- The first of a list that a test holds of. -/
def idxP {α : Type} (p : α → Bool) (k : Nat) : List α → Int
  | [] => -1
  | x :: r => if p x then k else idxP p (k + 1) r
theorem idxP_any {α : Type} (p : α → Bool) : ∀ (L : List α) (k : Nat), decide (0 ≤ idxP p k L) = L.any p
  | [], k => rfl
  | x :: r, k => by
    unfold idxP
    rw [List.any_cons]
    cases h : p x
    · rw [if_neg (by decide), idxP_any p r (k + 1), Bool.false_or]
    · rw [if_pos rfl]; simp
theorem idxP_bd {α : Type} (p : α → Bool) : ∀ (L : List α) (k : Nat), -1 ≤ idxP p k L ∧ idxP p k L ≤ k + L.length
  | [], k => by unfold idxP; simp
  | x :: r, k => by
    unfold idxP
    split
    · simp only [List.length_cons]; omega
    · have := idxP_bd p r (k + 1)
      simp only [List.length_cons]; omega
section
variable {f : Nat} {pv : Value}
set_option maxHeartbeats 2000000 in
theorem ifE_gen (eg : ∀ args w, (callFunc f args).run Try.prog w = .ok (.enter f args) w) (A : Option Addr) (c : Nat) (L : List Ev) (p : Ev → Bool) (w : World) (hn : L.length ≤ 1000) (hr : Rd w w.heap.size A (L.flatMap Ev.cells))
    (hf : ∀ x W, Below w.heap.size w W → Calls Try.prog f #[x.val, pv] W fun e w' => e = .returned (.bool (p x)) ∧ Below W.heap.size W w') :
    Calls Try.prog 62 #[.slice A L.length c, .func (.func f) #[] #[pv]] w fun e w' => e = .returned (.int .i64 (idxP p 0 L)) ∧ Below w.heap.size w w' := by
  have HR := Lib.hid hr
  have HF := Lib.hid hf
  unfold Ev.val at HF
  clear hr hf
  go_enter Try.func62, Try.ntmps62
  go_wp2
  go_loopw [8] (fun i wr => ∃ k : Nat, k ≤ L.length ∧ i = .int .i64 k ∧ Hid (idxP p 0 L = idxP p k (L.drop k)) ∧ Below w.heap.size w wr) (fun i _ => L.length - (intOf i).toNat)
  case atStart => exact ⟨0, Nat.zero_le _, rfl, rfl, Below.refl _ _⟩
  case round =>
    obtain ⟨k, hk, rfl, hi, hb⟩ := hrel
    by_cases hlt : k < L.length
    · obtain ⟨b, off, rfl, hB, c0, c1, c2, c3, c4, c5, c6, c7, c8⟩ := (HR.out.below hb (Nat.le_refl _)).ev hlt
      have hst : idxP p k (L.drop k) = if p L[k] then (k : Int) else idxP p (k + 1) (L.drop (k + 1)) := by
        rw [List.drop_eq_getElem_cons hlt, idxP]
      have HS := Lib.hid hst
      obtain ⟨x, hx⟩ : ∃ x, L[k] = x := ⟨_, rfl⟩
      rw [hx] at c0 c1 c2 c3 c4 c5 c6 c7 c8 HS
      have HC := Lib.hid (HF.out x wr hb)
      clear hst hx
      cases hin : p x with
      | true =>
        rw [hin] at HC
        have HI := Lib.hid hin
        clear hin
        go_wp2_with (first | (go_at_fn f; refine HC.out.mono ?_; rintro e w1 ⟨rfl, hb1⟩))
        go_ret
        exact ⟨ret_int (by rw [hi.out, HS.out, HI.out]; rfl), bTrans hb hb1⟩
      | false =>
        rw [hin] at HC
        have HI := Lib.hid hin
        clear hin
        go_wp2_with (first | (go_at_fn f; refine HC.out.mono ?_; rintro e w1 ⟨rfl, hb1⟩))
        go_roundw
        case rel => exact ⟨k + 1, by omega, by go_num, (show _ = _ by rw [hi.out, HS.out, HI.out]; rfl), bTrans hb hb1⟩
        case measure => simp [intOf]; omega
    · have e0 : idxP p 0 L = -1 := by rw [hi.out, List.drop_of_length_le (by omega), idxP]
      have E0 := Lib.hid e0
      clear e0
      go_wp2
      go_ret
      exact ⟨ret_int E0.out.symm, hb⟩
set_option maxHeartbeats 2000000 in
theorem cfE_gen (eg : ∀ args w, (callFunc f args).run Try.prog w = .ok (.enter f args) w) (A : Option Addr) (c : Nat) (L : List Ev) (p : Ev → Bool) (w : World) (hn : L.length ≤ 1000) (hr : Rd w w.heap.size A (L.flatMap Ev.cells))
    (hf : ∀ x W, Below w.heap.size w W → Calls Try.prog f #[x.val, pv] W fun e w' => e = .returned (.bool (p x)) ∧ Below W.heap.size W w') :
    Calls Try.prog 45 #[.slice A L.length c, .func (.func f) #[] #[pv]] w fun e w' => e = .returned (.bool (L.any p)) ∧ Below w.heap.size w w' := by
  have HX := Lib.hid (ifE_gen eg A c L p w hn hr hf)
  have hb := idxP_bd p L 0
  have hd := idxP_any p L 0
  obtain ⟨m, hm⟩ : ∃ m, L.length = m := ⟨_, rfl⟩
  rw [hm] at HX hb hn ⊢
  obtain ⟨x, hx⟩ : ∃ x, idxP p 0 L = x := ⟨_, rfl⟩
  rw [hx] at HX hb hd
  have HD := Lib.hid hd
  clear hr hm hx hd hf
  go_enter Try.func45, Try.ntmps45
  go_wp2_with (first | (go_at_call 62; refine HX.out.mono ?_; rintro e w1 ⟨rfl, hb1⟩))
  go_ret
  exact ⟨ret_bool HD.out, hb1⟩
end
end Go.Proofs.Yteccmklacgpodaa
