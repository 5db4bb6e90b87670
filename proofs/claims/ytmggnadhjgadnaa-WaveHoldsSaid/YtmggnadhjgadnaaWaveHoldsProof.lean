/-
  PROVED HERE: promptbooklaw31.WaveHolds answers true for every input, and leaves its arguments as they were.
  CONDITIONS: none beyond the row's own.
-/
import Derived.Test.YtmggnadhjgadnaaWaveHolds
import Derived.Deep.DeepHandedRow
import Derived.Lib.LaidTab
import Derived.SevenTiedAt
namespace Go.Proofs.Ytmggnadhjgadnaa
open Go.RowKit Go.WideShapes Go.ChangeShapes Go.ChangeAt
set_option maxRecDepth 100000

def Found (a b : List Pr) (k : Nat) (z : Int) : Prop :=
  (z = -1 ∧ k ≤ min a.length b.length ∧ dif 0 a b = dif k (a.drop k) (b.drop k)) ∨ (z = dif 0 a b ∧ 0 ≤ z ∧ z ≤ 1000)
theorem found_fin (a b : List Pr) (k : Nat) (z : Int) (h : Found a b k z) (h1 : a.length ≤ k) (h2 : b.length ≤ k) : z = dif 0 a b := by
  rcases h with ⟨rfl, h3, h4⟩ | ⟨h, -⟩
  · rw [h4, dif_end k a b k (by omega), if_pos (by omega)]
  · exact h
theorem found_edge (a b : List Pr) (k : Nat) (h3 : k ≤ min a.length b.length) (h4 : dif 0 a b = dif k (a.drop k) (b.drop k)) (h5 : (a.length ≤ k ∧ k < b.length) ∨ (b.length ≤ k ∧ k < a.length)) (hk : k ≤ 500) : Found a b (k + 1) k := by
  refine .inr ⟨?_, by omega, by omega⟩
  rw [h4, dif_end k a b k (by omega), if_neg (by omega)]
theorem found_same (a b : List Pr) (k : Nat) (h1 : k < a.length) (h2 : k < b.length) (h4 : dif 0 a b = dif k (a.drop k) (b.drop k)) (he : a[k] = b[k]) : Found a b (k + 1) (-1) :=
  .inl ⟨rfl, by omega, by rw [h4, dif_both k a b k h1 h2, if_pos he]⟩
theorem found_diff (a b : List Pr) (k : Nat) (h1 : k < a.length) (h2 : k < b.length) (h4 : dif 0 a b = dif k (a.drop k) (b.drop k)) (he : ¬ a[k] = b[k]) (hk : k ≤ 500) : Found a b (k + 1) k :=
  .inr ⟨by rw [h4, dif_both k a b k h1 h2, if_neg he], by omega, by omega⟩
theorem small_take (L : List Pr) (k : Nat) (h : k < L.length) (hs : Small (L.take k)) (hp : -1099511627776 ≤ L[k].x ∧ L[k].x ≤ 1099511627776 ∧ -1099511627776 ≤ L[k].y ∧ L[k].y ≤ 1099511627776) : Small (L.take (k + 1)) := by
  rw [List.take_succ_eq_append_getElem h]
  intro p hm
  rw [List.mem_append, List.mem_singleton] at hm
  rcases hm with hm | rfl
  · exact hs p hm
  · exact hp

set_option maxHeartbeats 3000000 in
theorem walk_in (A A' : Option Addr) (c c' : Nat) (a b : List Pr) (f t : Int) (w : World) (hr : Rd w w.heap.size A (a.flatMap Pr.cells)) (hr' : Rd w w.heap.size A' (b.flatMap Pr.cells)) (hn : a.length ≤ 500) (hn' : b.length ≤ 500) (hf : I64 f) (ht : I64 t) (hfit : ∀ e ∈ a, e.Fit) :
    Calls Try.prog 3 #[.slice A a.length c, .slice A' b.length c', .int .i64 f, .int .i64 t] w fun e w' => e = .returned (.bool true) ∧ Below w.heap.size w w' := by
  have HR := Lib.hid hr
  have HR' := Lib.hid hr'
  have HFI := Lib.hid hf
  have HTI := Lib.hid ht
  have HFT := Lib.hid hfit
  obtain ⟨f1, f2⟩ := hf
  obtain ⟨t1, t2⟩ := ht
  clear hr hr' hfit
  go_enter Try.func3, Try.ntmps3
  go_wp2_with fail
  refine (awake_any _).mono ?_
  rintro e w1 ⟨rfl, hb1⟩
  go_wp2
  go_loopw [9, 10] (fun z i wr => ∃ k : Nat, k ≤ 500 ∧ (a.length < k → k ≤ b.length) ∧ i = .int .i64 k ∧ ∃ zz : Int, z = .int .i64 zz ∧ -1 ≤ zz ∧ Hid (Found a b k zz) ∧ Below w.heap.size w wr) (fun _ i _ => 501 - (intOf i).toNat)
  case atStart => exact ⟨0, Nat.zero_le _, fun h => absurd h (Nat.not_lt_zero _), rfl, -1, rfl, by decide, Lib.hid (.inl ⟨rfl, Nat.zero_le _, rfl⟩), hb1⟩
  case round =>
    clear hb1
    obtain ⟨k, hk, hk2, rfl, z, rfl, hz1, hfo, hb⟩ := hrel
    have HK2 := Lib.hid hk2
    clear hk2
    by_cases hlt : k < a.length ∨ k < b.length
    · have hlt2 : (k < a.length ∧ k < b.length) ∨ (a.length ≤ k ∧ k < b.length) ∨ (b.length ≤ k ∧ k < a.length) := by omega
      rcases hfo.out with ⟨rfl, h3, h4⟩ | ⟨h3, h4, h5⟩
      · have d0 : decide ((-1 : Int) < 0) = true := rfl
        have H4 := Lib.hid h4
        clear h4
        rcases hlt2 with ⟨ha, hb'⟩ | hx | hx
        · obtain ⟨b1, off, rfl, hB, hc⟩ := (HR.out.below hb (Nat.le_refl _)).at_ Pr.cells_length (by omega) ha
          obtain ⟨b2, off', rfl, hB', hc'⟩ := (HR'.out.below hb (Nat.le_refl _)).at_ Pr.cells_length (by omega) hb'
          have c0 := hc 0 _ rfl
          have c1 := hc 1 _ rfl
          have e0 := hc' 0 _ rfl
          have e1 := hc' 1 _ rfl
          rw [Nat.add_zero] at c0 e0
          have i1 : (0 : Int) ≤ (k : Int) := Int.natCast_nonneg _
          have i2 : (k : Int) < (a.length : Int) := by omega
          have i3 : (k : Int) < (b.length : Int) := by omega
          have d1 : decide ((a.length : Int) ≤ (k : Int)) = false := decide_eq_false (by omega)
          have d1n : decide (a.length ≤ k) = false := decide_eq_false (by omega)
          have d2 : decide ((b.length : Int) ≤ (k : Int)) = false := decide_eq_false (by omega)
          have d2n : decide (b.length ≤ k) = false := decide_eq_false (by omega)
          clear hc hc' hlt
          by_cases he : a[k] = b[k]
          · have kq := fun W => (pr_neq a[k] b[k] W).trans (by rw [decide_eq_true he])
            have HE := Lib.hid he
            clear he
            go_wp2
            go_quiet (fail)
            go_wp2
            go_roundw
            case rel => exact ⟨k + 1, by omega, by omega, by go_num, -1, rfl, by decide, Lib.hid (found_same a b k ha hb' H4.out HE.out), below_drewN hb _⟩
            case measure => simp [intOf]; omega
          · have kq := fun W => (pr_neq a[k] b[k] W).trans (by rw [decide_eq_false he])
            have HE := Lib.hid he
            clear he
            go_wp2
            go_quiet (fail)
            go_wp2
            go_roundw
            case rel => exact ⟨k + 1, by omega, by omega, by go_num, k, rfl, by omega, Lib.hid (found_diff a b k ha hb' H4.out HE.out hk), below_drewN hb _⟩
            case measure => simp [intOf]; omega
        · have d1 : decide ((a.length : Int) ≤ (k : Int)) = true := decide_eq_true (by omega)
          have d1n : decide (a.length ≤ k) = true := decide_eq_true (by omega)
          have d5 : ¬ (k : Int) < (a.length : Int) := by omega
          have d6 : (k : Int) < (b.length : Int) := by omega
          clear hlt
          go_wp2
          go_quiet (fail)
          go_wp2
          go_roundw
          case rel => exact ⟨k + 1, by omega, by omega, by go_num, k, rfl, by omega, Lib.hid (found_edge a b k h3 H4.out (.inl hx) hk), below_drewN hb _⟩
          case measure => simp [intOf]; omega
        · have d1 : decide ((a.length : Int) ≤ (k : Int)) = false := decide_eq_false (by omega)
          have d1n : decide (a.length ≤ k) = false := decide_eq_false (by omega)
          have d2 : decide ((b.length : Int) ≤ (k : Int)) = true := decide_eq_true (by omega)
          have d2n : decide (b.length ≤ k) = true := decide_eq_true (by omega)
          clear hlt
          go_wp2
          go_quiet (fail)
          go_wp2
          go_roundw
          case rel => exact ⟨k + 1, by omega, by omega, by go_num, k, rfl, by omega, Lib.hid (found_edge a b k h3 H4.out (.inr hx) hk), below_drewN hb _⟩
          case measure => simp [intOf]; omega
      · have d0 : decide (z < 0) = false := decide_eq_false (by omega)
        have H3 := Lib.hid h3
        clear h3
        rcases hlt2 with ⟨ha, hb'⟩ | hx | hx
        all_goals
          clear hlt
          go_wp2
          go_quiet (fail)
          go_wp2
          go_roundw
          case rel => exact ⟨k + 1, by omega, by have := HK2.out; omega, by go_num, z, rfl, by omega, Lib.hid (.inr ⟨H3.out, by omega, by omega⟩), below_drewN hb _⟩
          case measure => simp [intOf]; omega
    · have hzf := found_fin a b k z hfo.out (by omega) (by omega)
      have HZ := Lib.hid hzf
      have n1 : ¬ (k : Int) < (a.length : Int) := by omega
      have n2 : ¬ (k : Int) < (b.length : Int) := by omega
      clear hzf hlt hfo
      go_wp2
      go_loop [11, 12] (fun v i => ∃ q : Nat, q ≤ a.length ∧ i = .int .i64 q ∧ ∃ y : Int, v = .int .i64 y ∧ 0 ≤ y ∧ y ≤ 1099511627776 ∧ Hid (y = loudN a f t q) ∧ Hid (Small (a.take q))) (fun _ i => a.length - (intOf i).toNat)
      case atStart => exact ⟨0, Nat.zero_le _, rfl, 0, rfl, by decide, by decide, Lib.hid rfl, Lib.hid (by intro p hp; simp at hp)⟩
      case round =>
        obtain ⟨q, hq, rfl, y, rfl, y0, y1, hy, hsm⟩ := hrel
        by_cases hlt : q < a.length
        · obtain ⟨b1, off, rfl, hB, hc⟩ := (HR.out.below hb (Nat.le_refl _)).at_ Pr.cells_length (by omega) hlt
          have c0 := hc 0 _ rfl
          have c1 := hc 1 _ rfl
          rw [Nat.add_zero] at c0
          obtain ⟨⟨x1, x2⟩, x3, x4⟩ := HFT.out a[q] (List.getElem_mem hlt)
          have hst := loudN_succ a f t q hlt
          have HST := Lib.hid hst
          clear hc hst
          obtain ⟨P, hP⟩ : ∃ P, a[q] = P := ⟨_, rfl⟩
          rw [hP] at c0 c1 x1 x2 x3 x4 HST
          have HPP := Lib.hid hP
          clear hP
          go_wp2
          go_loop [11, 13] (fun v j => ∃ i : Nat, i ≤ 2 ∧ j = .int .i64 i ∧ ∃ z : Int, v = .int .i64 z ∧ 0 ≤ z ∧ z ≤ 1099511627776 ∧ (1 ≤ i → -1099511627776 ≤ P.x ∧ P.x ≤ 1099511627776) ∧ (2 ≤ i → -1099511627776 ≤ P.y ∧ P.y ≤ 1099511627776) ∧
            Hid (z = if f ≤ (q : Int) ∧ (q : Int) < t then (if i = 0 then y else if i = 1 then max y (ab P.x) else max (max y (ab P.x)) (ab P.y)) else y)) (fun _ j => 2 - (intOf j).toNat)
          case atStart => exact ⟨0, by decide, rfl, y, rfl, y0, y1, fun h => absurd h (by decide), fun h => absurd h (by decide), Lib.hid (by simp)⟩
          case round =>
            obtain ⟨i, hi, rfl, z, rfl, z0, z1, p1, p2, hz⟩ := hrel
            by_cases hin : f ≤ (q : Int) ∧ (q : Int) < t
            · have hz' := hz.out
              rw [if_pos hin] at hz'
              have HZ' := Lib.hid hz'
              have HIN := Lib.hid hin
              obtain ⟨in1, in2⟩ := hin
              clear hz hz'
              match i, hi with
              | 0, _ =>
                clear p1 p2
                go_wp2
                all_goals first
                  | (go_ret; exact ⟨rfl, hb⟩)
                  | (go_round
                     case rel => exact ⟨1, by decide, rfl, _, rfl, by omega, by omega, fun _ => ⟨by omega, by omega⟩, fun h => absurd h (by decide), Lib.hid (by rw [if_pos HIN.out]; have := HZ'.out; simp at this ⊢; unfold ab; omega)⟩
                     case measure => decide)
              | 1, _ =>
                have p3 := p1 (by decide)
                clear p1 p2
                go_wp2
                all_goals first
                  | (go_ret; exact ⟨rfl, hb⟩)
                  | (go_round
                     case rel => exact ⟨2, by decide, rfl, _, rfl, by omega, by omega, fun _ => p3, fun _ => ⟨by omega, by omega⟩, Lib.hid (by rw [if_pos HIN.out]; have := HZ'.out; simp at this ⊢; unfold ab at this ⊢; omega)⟩
                     case measure => decide)
              | 2, _ =>
                have p3 := p1 (by decide)
                have p4 := p2 (by decide)
                clear p1 p2
                have hz2 : z = loudN a f t (q + 1) := by rw [HST.out, if_pos HIN.out, ← hy.out]; simpa using HZ'.out
                have HZ2 := Lib.hid hz2
                clear hz2
                go_wp2
                go_round
                case rel => exact ⟨q + 1, by omega, by go_num, z, rfl, z0, z1, HZ2, Lib.hid (small_take a q hlt hsm.out (by rw [HPP.out]; exact ⟨p3.1, p3.2, p4.1, p4.2⟩))⟩
                case measure => simp [intOf]; omega
            · have hz' := hz.out
              rw [if_neg hin] at hz'
              have HIN := Lib.hid hin
              subst hz'
              clear hz
              by_cases in1 : f ≤ (q : Int)
              · have in2 : ¬ (q : Int) < t := fun h => hin ⟨in1, h⟩
                clear hin
                match i, hi with
                | 0, _ =>
                  clear p1 p2
                  go_wp2
                  all_goals first
                    | (go_ret; exact ⟨rfl, hb⟩)
                    | (go_round
                       case rel => exact ⟨1, by decide, rfl, _, rfl, by omega, by omega, fun _ => ⟨by omega, by omega⟩, fun h => absurd h (by decide), Lib.hid (by rw [if_neg HIN.out])⟩
                       case measure => decide)
                | 1, _ =>
                  have p3 := p1 (by decide)
                  clear p1 p2
                  go_wp2
                  all_goals first
                    | (go_ret; exact ⟨rfl, hb⟩)
                    | (go_round
                       case rel => exact ⟨2, by decide, rfl, _, rfl, by omega, by omega, fun _ => p3, fun _ => ⟨by omega, by omega⟩, Lib.hid (by rw [if_neg HIN.out])⟩
                       case measure => decide)
                | 2, _ =>
                  have p3 := p1 (by decide)
                  have p4 := p2 (by decide)
                  clear p1 p2
                  have hz2 : z = loudN a f t (q + 1) := by rw [HST.out, if_neg HIN.out, ← hy.out]
                  have HZ2 := Lib.hid hz2
                  clear hz2
                  go_wp2
                  go_round
                  case rel => exact ⟨q + 1, by omega, by go_num, z, rfl, z0, z1, HZ2, Lib.hid (small_take a q hlt hsm.out (by rw [HPP.out]; exact ⟨p3.1, p3.2, p4.1, p4.2⟩))⟩
                  case measure => simp [intOf]; omega
              · clear hin
                match i, hi with
                | 0, _ =>
                  clear p1 p2
                  go_wp2
                  all_goals first
                    | (go_ret; exact ⟨rfl, hb⟩)
                    | (go_round
                       case rel => exact ⟨1, by decide, rfl, _, rfl, by omega, by omega, fun _ => ⟨by omega, by omega⟩, fun h => absurd h (by decide), Lib.hid (by rw [if_neg HIN.out])⟩
                       case measure => decide)
                | 1, _ =>
                  have p3 := p1 (by decide)
                  clear p1 p2
                  go_wp2
                  all_goals first
                    | (go_ret; exact ⟨rfl, hb⟩)
                    | (go_round
                       case rel => exact ⟨2, by decide, rfl, _, rfl, by omega, by omega, fun _ => p3, fun _ => ⟨by omega, by omega⟩, Lib.hid (by rw [if_neg HIN.out])⟩
                       case measure => decide)
                | 2, _ =>
                  have p3 := p1 (by decide)
                  have p4 := p2 (by decide)
                  clear p1 p2
                  have hz2 : z = loudN a f t (q + 1) := by rw [HST.out, if_neg HIN.out, ← hy.out]
                  have HZ2 := Lib.hid hz2
                  clear hz2
                  go_wp2
                  go_round
                  case rel => exact ⟨q + 1, by omega, by go_num, z, rfl, z0, z1, HZ2, Lib.hid (small_take a q hlt hsm.out (by rw [HPP.out]; exact ⟨p3.1, p3.2, p4.1, p4.2⟩))⟩
                  case measure => simp [intOf]; omega
        · obtain rfl : q = a.length := by omega
          rw [List.take_length] at hsm
          have hb0 := hb.size
          go_wp2_with fail
          refine (same_any A A' c c' a b _ (by omega) (by omega) ((HR.out.below hb (Nat.le_refl _)).more hb0) ((HR'.out.below hb (Nat.le_refl _)).more hb0)).mono ?_
          rw [← HZ.out]
          rintro e w2 ⟨rfl, hb2⟩
          have hbb := bTrans hb hb2
          go_wp2_with fail
          refine (loud_any A c a f t _ (by omega) ((HR.out.below hbb (Nat.le_refl _)).more hbb.size) hsm.out HFI.out HTI.out).mono ?_
          rw [← hy.out]
          rintro e w3 ⟨rfl, hb3⟩
          go_wp2
          go_ret
          exact ⟨rfl, bTrans hbb hb3⟩
set_option maxHeartbeats 1000000 in
theorem walk_out (A A' : Option Addr) (c c' n n' : Nat) (f t : Int) (w : World) (hn : n ≤ maxLen) (hn' : n' ≤ maxLen) (hl : 500 < n ∨ 500 < n') :
    Calls Try.prog 3 #[.slice A n c, .slice A' n' c', .int .i64 f, .int .i64 t] w fun e w' => e = .returned (.bool true) ∧ Below w.heap.size w w' := by
  unfold maxLen at hn hn'
  by_cases h : 500 < n
  · clear hl
    go_enter Try.func3, Try.ntmps3
    go_wp2_with fail
    refine (awake_any _).mono ?_
    rintro e w1 ⟨rfl, hb1⟩
    go_wp2
    go_ret
    exact ⟨rfl, hb1⟩
  · have h2 : 500 < n' := by omega
    clear hl
    go_enter Try.func3, Try.ntmps3
    go_wp2_with fail
    refine (awake_any _).mono ?_
    rintro e w1 ⟨rfl, hb1⟩
    go_wp2
    go_ret
    exact ⟨rfl, hb1⟩
theorem walk_any (A A' : Option Addr) (c c' : Nat) (a b : List Pr) (f t : Int) (w : World) (hr : Rd w w.heap.size A (a.flatMap Pr.cells)) (hr' : Rd w w.heap.size A' (b.flatMap Pr.cells)) (hn : a.length ≤ c ∧ c ≤ maxLen) (hn' : b.length ≤ c' ∧ c' ≤ maxLen) (hf : I64 f) (ht : I64 t) (hfit : ∀ e ∈ a, e.Fit) :
    Calls Try.prog 3 #[.slice A a.length c, .slice A' b.length c', .int .i64 f, .int .i64 t] w fun e w' => e = .returned (.bool true) ∧ Below w.heap.size w w' := by
  by_cases h : 500 < a.length ∨ 500 < b.length
  · exact walk_out A A' c c' a.length b.length f t w (Nat.le_trans hn.1 hn.2) (Nat.le_trans hn'.1 hn'.2) h
  · exact walk_in A A' c c' a b f t w hr hr' (by omega) (by omega) hf ht hfit
theorem own : ownKnob Try.prog.godebug = none := by kernel_rfl
theorem contract (H : Type) (enc : TypeId × Value → H) (W : World) (base : Nat) (args : Array Value) (ds gs : List (DataW H)) (before : List MemPlace)
    (hval : ∀ (j : Nat) t v, Try.f3.params[j]? = some t → args[j]? = some v → Value.okWide Try.prog W .any base t v)
    (hW : DataW.Whole enc Try.prog Try.f3.params.toList Rows.waveHoldsSpec.vars false W args.toList ds gs before) (_hL : laidMetH Try.prog Rows.waveHoldsRow.laid W) :
    Calls Try.prog 3 args W fun e W' => ∃ v, e = .returned v ∧ Rows.waveHoldsSpec.post enc Try.prog Try.f3 false true false false W args v W' := by
  have hW0 := hW
  obtain ⟨p, q, hA, hV, rfl, -, -⟩ := hW
  rw [Try.params3] at hA hval
  obtain ⟨v0, vs0, d0, ds0, p0, q0, hargs, rfl, rfl, h0, r0⟩ := trodAll_cons hA
  obtain ⟨v1, vs1, d1, ds1, p1, q1, rfl, rfl, rfl, h1, r1⟩ := trodAll_cons r0
  obtain ⟨v2, vs2, d2, ds2, p2, q2, rfl, rfl, rfl, h2, r2⟩ := trodAll_cons r1
  obtain ⟨v3, vs3, d3, ds3, p3, q3, rfl, rfl, rfl, h3, r3⟩ := trodAll_cons r2
  obtain ⟨rfl, rfl, rfl⟩ := trodAll_nil r3
  obtain rfl : args = #[v0, v1, v2, v3] := by cases args; simp_all
  obtain ⟨rfl, rfl⟩ := trodVars_none hV
  obtain ⟨aA, ac, al, rfl, an, ar, af⟩ := open_pairs (hval 0 _ _ rfl rfl) h0
  obtain ⟨bA, bc, bl, rfl, bn, br, bf⟩ := open_pairs (hval 1 _ _ rfl rfl) h1
  obtain ⟨f, rfl, rfl, rfl, fw⟩ := open_int Try.underlying3 (hval 2 _ _ rfl rfl) h2
  obtain ⟨t, rfl, rfl, rfl, tw⟩ := open_int Try.underlying3 (hval 3 _ _ rfl rfl) h3
  refine (walk_any aA bA ac bc al bl f t W ar br an bn (bd_of_wf fw) (bd_of_wf tw) af).mono fun e W' ⟨he, hb⟩ => ?_
  subst he
  exact ⟨_, rfl, law_post (by kernel_rfl) (by kernel_rfl) rfl Try.underlying4 rfl rfl hW0 hb⟩
theorem laid_met (os : Os) : laidMet Try.prog Rows.waveHoldsRow.laid (((World.holding Try.prog os ⟨#[], #[], []⟩)).forCall (fun _ _ => 0) ⟨#[], #[.slice none 0 0, .slice none 0 0, .int .i64 0, .int .i64 0], []⟩).memory :=
  laidMet_of_run' 8 (by kernel_rfl) (by kernel_rfl)
theorem reads (os : Os) {H : Type} (enc : TypeId × Value → H) : ∃ places, DataW.whole enc Try.prog (((World.holding Try.prog os ⟨#[], #[], []⟩)).forCall (fun _ _ => 0) ⟨#[], #[.slice none 0 0, .slice none 0 0, .int .i64 0, .int .i64 0], []⟩).memory Try.f3.params.toList Rows.waveHoldsSpec.vars false #[(.slice none 0 0 : Value), .slice none 0 0, .int .i64 0, .int .i64 0].toList 8 = some ([.nil, .nil, .lit (.int .i64 0), .lit (.int .i64 0)], [], places) :=
  ⟨[], by kernel_rfl⟩
set_option maxRecDepth 100000 in
theorem lifted (os : Os) (started : os.Started) (H : Type) (enc : TypeId × Value → H) (F : Stop.Interp) :
    ReturnsInHanded {} Try.checked os 3 .any ((OpenSpec.ofChange Rows.waveHoldsSpec).preRow enc Try.prog Try.f3 Rows.waveHoldsRow.domain false Rows.waveHoldsRow.laid) (((OpenSpec.ofChange Rows.waveHoldsSpec).at F).post enc Try.prog Try.f3 false true false false) := by
  obtain ⟨places, hx⟩ := reads os enc
  refine returnsInHanded_of_row (C := Try.checked) (s := (OpenSpec.ofChange Rows.waveHoldsSpec)) own started (by kernel_rfl) Try.func3
    (witness_row_at (enc := enc) (C := Try.checked) false (World.holding Try.prog os ⟨#[], #[], []⟩) #[.slice none 0 0, .slice none 0 0, .int .i64 0, .int .i64 0] rfl (by kernel_rfl) (by kernel_rfl) (by kernel_rfl)
      (OpenSpec.preRow_of_cond 8 hx (by kernel_rfl) (fun k hk => by cases hk) (by kernel_rfl) (laid_met os))) ?_
  intro W base args ds gs before hval hW _ _ _ hL _ _
  exact contract H enc W base args ds gs before hval hW hL
theorem said : Rows.WaveHoldsSaid :=
  OpenClaim.holds_of_cond 3 Try.f3 rfl rfl rfl rfl rfl rfl rfl ⟨rfl, rfl, rfl, rfl, rfl⟩ rfl rfl rfl rfl rfl (by kernel_rfl) Try.func3 (by kernel_rfl)
    (of_decide_eq_true (by kernel_rfl)) (by unfold Func.isWrapper; first | (rw [if_pos (by decide +kernel)]; kernel_rfl) | (rw [if_neg (by decide +kernel)]; exact ⟨rfl, rfl⟩))
    (fun os started H enc _ F => by rw [OpenClaim.pre_eq_preRow]; exact lifted os started H enc F)
end Go.Proofs.Ytmggnadhjgadnaa
