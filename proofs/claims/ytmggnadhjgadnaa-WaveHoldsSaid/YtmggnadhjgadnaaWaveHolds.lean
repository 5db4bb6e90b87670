/-
  Where two lots of samples differ first, and how loud a part is.
-/
import Derived.Test.YtmggnadhjgadnaaWaveRef3
import Derived.Test.YtmggnadhjgadnaaWaveAwake
namespace Go.Proofs.Ytmggnadhjgadnaa
open Go.RowKit
set_option maxRecDepth 100000

def dif (k : Nat) : List Pr → List Pr → Int
  | [], [] => -1
  | p :: a, q :: b => if p = q then dif (k + 1) a b else k
  | _, _ => k
theorem dif_both (k : Nat) (a b : List Pr) (i : Nat) (ha : i < a.length) (hb : i < b.length) : dif k (a.drop i) (b.drop i) = if a[i] = b[i] then dif (k + 1) (a.drop (i + 1)) (b.drop (i + 1)) else k := by
  rw [List.drop_eq_getElem_cons ha, List.drop_eq_getElem_cons hb, dif]
theorem dif_end (k : Nat) (a b : List Pr) (i : Nat) (h : min a.length b.length = i) : dif k (a.drop i) (b.drop i) = if a.length = b.length then (-1 : Int) else (k : Int) := by
  rcases Nat.lt_trichotomy a.length b.length with h1 | h1 | h1
  · rw [List.drop_of_length_le (l := a) (by omega), List.drop_eq_getElem_cons (l := b) (by omega), if_neg (by omega)]; rfl
  · rw [List.drop_of_length_le (l := a) (by omega), List.drop_of_length_le (l := b) (by omega), if_pos h1]; rfl
  · rw [List.drop_of_length_le (l := b) (by omega), List.drop_eq_getElem_cons (l := a) (by omega), if_neg (by omega)]; rfl

theorem pr_neq (p q : Pr) (w : World) : (binOp .neq 24 (.agg #[.int .i64 p.x, .int .i64 p.y]) (.agg #[.int .i64 q.x, .int .i64 q.y])).run Try.prog w = .ok (.bool (!decide (p = q))) w := by
  rw [pr_eq]
  have : decide (p.x = q.x ∧ p.y = q.y) = decide (p = q) := by
    rw [decide_eq_decide]
    cases p; cases q; simp
  rw [this]

set_option maxHeartbeats 1000000 in
theorem same_any (A A' : Option Addr) (c c' : Nat) (a b : List Pr) (w : World) (hn : a.length ≤ 200000) (_hn' : b.length ≤ 200000) (hr : Rd w w.heap.size A (a.flatMap Pr.cells)) (hr' : Rd w w.heap.size A' (b.flatMap Pr.cells)) :
    Calls Try.prog 7 #[.slice A a.length c, .slice A' b.length c'] w fun e w' => e = .returned (.int .i64 (dif 0 a b)) ∧ Below w.heap.size w w' := by
  have HR := Lib.hid hr
  have HR' := Lib.hid hr'
  clear hr hr'
  obtain ⟨m, hm⟩ : ∃ m, min a.length b.length = m := ⟨_, rfl⟩
  have hmi : min (a.length : Int) (b.length : Int) = (m : Int) := by omega
  have HM := Lib.hid hm
  have hma : m ≤ a.length := by omega
  have hmb : m ≤ b.length := by omega
  clear hm
  go_enter Try.func7, Try.ntmps7
  go_wp2
  go_loopw [11] (fun i wr => ∃ k : Nat, k ≤ m ∧ i = .int .i64 k ∧ Hid (dif 0 a b = dif k (a.drop k) (b.drop k)) ∧ Below w.heap.size w wr) (fun i _ => m - (intOf i).toNat)
  case atStart => exact ⟨0, Nat.zero_le _, rfl, Lib.hid rfl, Below.refl _ _⟩
  case round =>
    obtain ⟨k, hk, rfl, hd, hb⟩ := hrel
    by_cases hlt : k < m
    · obtain ⟨b1, off, rfl, hB, hc⟩ := (HR.out.below hb (Nat.le_refl _)).at_ Pr.cells_length (by omega) (show k < a.length by omega)
      obtain ⟨b2, off', rfl, hB', hc'⟩ := (HR'.out.below hb (Nat.le_refl _)).at_ Pr.cells_length (by omega) (show k < b.length by omega)
      have c0 := hc 0 _ rfl
      have c1 := hc 1 _ rfl
      have d0 := hc' 0 _ rfl
      have d1 := hc' 1 _ rfl
      rw [Nat.add_zero] at c0 d0
      have i1 : (0 : Int) ≤ (k : Int) := Int.natCast_nonneg _
      have i2 : (k : Int) < (a.length : Int) := by omega
      have i3 : (k : Int) < (b.length : Int) := by omega
      have hs := dif_both k a b k (by omega) (by omega)
      have HS := Lib.hid hs
      clear hc hc' hs
      by_cases he : a[k] = b[k]
      · have kq := fun W => (pr_neq a[k] b[k] W).trans (by rw [decide_eq_true he])
        have HE := Lib.hid he
        clear he
        go_wp2
        go_quiet (fail)
        go_wp2
        go_roundw
        case rel => exact ⟨k + 1, by omega, by go_num, Lib.hid (by rw [hd.out, HS.out, if_pos HE.out]), below_drewN hb _⟩
        case measure => simp [intOf]; omega
      · have kq := fun W => (pr_neq a[k] b[k] W).trans (by rw [decide_eq_false he])
        have HE := Lib.hid he
        clear he
        go_wp2
        go_quiet (fail)
        go_wp2
        go_ret
        exact ⟨ret_int (by rw [hd.out, HS.out, if_neg HE.out]), below_drewN hb _⟩
    · obtain rfl : k = m := by omega
      have he := dif_end k a b k HM.out
      have HE := Lib.hid he
      clear he
      by_cases hl : a.length = b.length
      · go_wp2
        go_ret
        exact ⟨ret_int (by rw [hd.out, HE.out, if_pos hl]), hb⟩
      · go_wp2
        go_ret
        exact ⟨ret_int (by rw [hd.out, HE.out, if_neg hl]), hb⟩

theorem run_max_int5 {P : Program} (w : World) (ts : Array TypeId) (t : TypeId) (k k2 k3 k4 k5 : IntKind) (x y z u v : Int) : (Builtin.max_ ts t #[.int k x, .int k2 y, .int k3 z, .int k4 u, .int k5 v]).run P w = .ok (.int k (max (max (max (max x y) z) u) v)) w := by
  have h : ∀ a b : Int, (if b > a then b else a) = max a b := fun a b => by split <;> omega
  simp [Builtin.max_, Builtin.max2, h]
attribute [local go_sem] run_max_int5
def ab (x : Int) : Int := max x (-x)
def loudN (L : List Pr) (f t : Int) : Nat → Int
  | 0 => 0
  | n + 1 => match L[n]? with
    | some p => if f ≤ n ∧ (n : Int) < t then max (max (loudN L f t n) (ab p.x)) (ab p.y) else loudN L f t n
    | none => loudN L f t n
theorem loudN_succ (L : List Pr) (f t : Int) (n : Nat) (h : n < L.length) : loudN L f t (n + 1) = if f ≤ n ∧ (n : Int) < t then max (max (loudN L f t n) (ab L[n].x)) (ab L[n].y) else loudN L f t n := by
  rw [loudN, List.getElem?_eq_getElem h]
theorem loudN_low (L : List Pr) (f t : Int) : ∀ n : Nat, (n : Int) ≤ f → loudN L f t n = 0
  | 0, _ => rfl
  | n + 1, h => by
    rw [loudN]
    split
    · rw [if_neg (by omega), loudN_low L f t n (by omega)]
    · exact loudN_low L f t n (by omega)
theorem loudN_high (L : List Pr) (f t : Int) (k : Nat) (hk : t ≤ k ∨ L.length ≤ k) : ∀ n : Nat, k ≤ n → loudN L f t n = loudN L f t k
  | 0, h => by obtain rfl : k = 0 := by omega
               rfl
  | n + 1, h => by
    by_cases hn : k = n + 1
    · subst hn; rfl
    · rw [loudN, ← loudN_high L f t k hk n (by omega)]
      rcases hk with h1 | h1
      · split
        · rw [if_neg (by omega)]
        · rfl
      · rw [List.getElem?_eq_none (by omega)]
theorem loudN_out (L : List Pr) (f t : Int) (h : t ≤ f ∨ t ≤ 0) : ∀ n, loudN L f t n = 0
  | 0 => rfl
  | n + 1 => by
    rw [loudN]
    split
    · rw [if_neg (by omega), loudN_out L f t h n]
    · exact loudN_out L f t h n
def Small (L : List Pr) : Prop := ∀ p ∈ L, -1099511627776 ≤ p.x ∧ p.x ≤ 1099511627776 ∧ -1099511627776 ≤ p.y ∧ p.y ≤ 1099511627776
theorem loudN_bd (L : List Pr) (f t : Int) (h : Small L) : ∀ n, 0 ≤ loudN L f t n ∧ loudN L f t n ≤ 1099511627776
  | 0 => by simp [loudN]
  | n + 1 => by
    have ih := loudN_bd L f t h n
    rw [loudN]
    split
    · rename_i p hp
      have hp := h p (List.mem_of_getElem? hp)
      unfold ab
      split <;> omega
    · exact ih

set_option maxHeartbeats 1000000 in
theorem loud_any (A : Option Addr) (c : Nat) (L : List Pr) (f t : Int) (w : World) (hn : L.length ≤ 200000) (hr : Rd w w.heap.size A (L.flatMap Pr.cells)) (hs : Small L) (hf : I64 f) (ht : I64 t) :
    Calls Try.prog 8 #[.slice A L.length c, .int .i64 f, .int .i64 t] w fun e w' => e = .returned (.int .i64 (loudN L f t L.length)) ∧ Below w.heap.size w w' := by
  have HR := Lib.hid hr
  have HS := Lib.hid hs
  obtain ⟨f1, f2⟩ := hf
  obtain ⟨t1, t2⟩ := ht
  clear hr hs
  by_cases hne : max f 0 < min t L.length
  · obtain ⟨lo, hlo⟩ : ∃ lo : Nat, max f 0 = lo := ⟨(max f 0).toNat, by omega⟩
    obtain ⟨hi, hhi⟩ : ∃ hi : Nat, min t (L.length : Int) = hi := ⟨(min t L.length).toNat, by omega⟩
    have h1 : lo < hi := by omega
    have h2 : hi ≤ L.length := by omega
    have h0 : loudN L f t lo = 0 := by
      by_cases hf0 : f ≤ 0
      · obtain rfl : lo = 0 := by omega
        rfl
      · exact loudN_low L f t lo (by omega)
    have h3 : loudN L f t L.length = loudN L f t hi := loudN_high L f t hi (by omega) _ h2
    have h4 : ∀ k : Nat, lo ≤ k → k < hi → f ≤ k ∧ (k : Int) < t := fun k hk1 hk2 => by omega
    have H0 := Lib.hid h0
    have H3 := Lib.hid h3
    have H4 := Lib.hid h4
    clear h0 h3 h4
    go_enter Try.func8, Try.ntmps8
    go_wp2
    go_loopw [7, 8] (fun m i wr => ∃ k : Nat, lo ≤ k ∧ k ≤ hi ∧ i = .int .i64 k ∧ m = .int .i64 (loudN L f t k) ∧ Below w.heap.size w wr) (fun _ i _ => hi - (intOf i).toNat)
    case atStart => exact ⟨lo, Nat.le_refl _, by omega, rfl, by rw [H0.out], Below.refl _ _⟩
    case round =>
      obtain ⟨k, hk1, hk2, rfl, rfl, hb⟩ := hrel
      by_cases hlt : k < hi
      · obtain ⟨b1, off, rfl, hB, hc⟩ := (HR.out.below hb (Nat.le_refl _)).at_ Pr.cells_length (by omega) (show k < L.length by omega)
        have c0 := hc 0 _ rfl
        have c1 := hc 1 _ rfl
        rw [Nat.add_zero] at c0
        obtain ⟨s1, s2, s3, s4⟩ := HS.out L[k] (List.getElem_mem _)
        have hst := loudN_succ L f t k (by omega)
        rw [if_pos (H4.out k hk1 hlt)] at hst
        obtain ⟨l1, l2⟩ := loudN_bd L f t HS.out k
        have HST := Lib.hid hst
        obtain ⟨lk, hlk⟩ : ∃ lk, loudN L f t k = lk := ⟨_, rfl⟩
        rw [hlk] at l1 l2 ⊢
        have HLK := Lib.hid hlk
        clear hc hst hlk
        go_wp2
        go_roundw
        case rel => exact ⟨k + 1, by omega, by omega, by go_num, by rw [HST.out, HLK.out]; congr 1; unfold ab; omega, bAlloc hb _⟩
        case measure => simp [intOf]; omega
      · obtain rfl : k = hi := by omega
        go_wp2
        go_ret
        exact ⟨ret_int H3.out.symm, hb⟩
  · have h3 : loudN L f t L.length = 0 := by
      by_cases h : t ≤ f ∨ t ≤ 0
      · exact loudN_out L f t h _
      · by_cases h0 : L.length = 0
        · rw [h0]; rfl
        · exact loudN_low L f t _ (by omega)
    have H3 := Lib.hid h3
    clear h3
    go_enter Try.func8, Try.ntmps8
    go_wp2
    go_loop [7, 8] (fun m i => i = .int .i64 (max f 0) ∧ m = .int .i64 0) (fun _ _ => 0)
    case atStart => exact ⟨rfl, rfl⟩
    case round =>
      obtain ⟨rfl, rfl⟩ := hrel
      go_wp2
      go_ret
      exact ⟨ret_int H3.out.symm, Below.refl _ _⟩
end Go.Proofs.Ytmggnadhjgadnaa
