/-
  The lines of rounds: the program's and the document's.
-/
import Derived.Test.YtfcllbhkimjhkaaDoorSwP
import Derived.Test.YtfcllbhkimjhkaaDoorJoin4
import Derived.Test.YtfcllbhkimjhkaaDoorMix
import Derived.Deep.Cut
namespace Go.Proofs.YtfcllbhkimjhkaaDoor.Ser
open Go.RowKit
set_option maxRecDepth 100000
set_option linter.unusedSimpArgs false
theorem gPow : Tryd.prog.globalNamed "internal/strconv.uint64pow10" = some 0 := by kernel_rfl
/-- The library's table of powers lies there. -/
def Tab (w : World) (B : Nat) : Prop := Lib.TabIs Tryd.prog w "internal/strconv.uint64pow10" .u64 Lib.pow10Tab ∧ 0 < B
theorem Tab.below {w w' : World} {B B' : Nat} (h : Tab w B) (hb : Below B' w w') (hB : B ≤ B') : Tab w' B := ⟨var?_below hb gPow (Nat.lt_of_lt_of_le h.2 hB) h.1, h.2⟩
def decZ (n : Int) : List UInt8 := Lib.decDigits n.toNat
def wordZ (r : Rnd) : List UInt8 := if placeZ r.win < 2 then decZ r.win else [110, 111, 110, 101]
def wordsZ (r : Rnd) : List (List UInt8) := [decZ r.frame, decZ r.a, decZ r.b, wordZ r]
def lineZ (r : Rnd) : List UInt8 := joinL (wordsZ r) ++ [10]
def linesZ (l : List Rnd) : List UInt8 := l.flatMap lineZ
def OkR (r : Rnd) : Prop := (0 ≤ r.frame ∧ r.frame ≤ 1099511627776) ∧ (0 ≤ r.a ∧ r.a ≤ 1099511627776) ∧ (0 ≤ r.b ∧ r.b ≤ 1099511627776)
theorem decZ_len {n : Int} (h0 : 0 ≤ n) (h1 : n ≤ 1099511627776) : (decZ n).length ≤ 21 := dec_len _ (by omega)
theorem wordZ_len (r : Rnd) : (wordZ r).length ≤ 21 := by
  unfold wordZ
  split
  · rename_i h
    have hw : r.win = 0 ∨ r.win = 1 := by unfold placeZ at h; split at h <;> omega
    exact decZ_len (by omega) (by omega)
  · simp
theorem wordsZ_len {r : Rnd} (h : OkR r) : ∀ s ∈ wordsZ r, s.length ≤ 21 := by
  intro s hs
  simp only [wordsZ, List.mem_cons, List.not_mem_nil, or_false] at hs
  rcases hs with rfl | rfl | rfl | rfl
  · exact decZ_len h.1.1 h.1.2
  · exact decZ_len h.2.1.1 h.2.1.2
  · exact decZ_len h.2.2.1 h.2.2.2
  · exact wordZ_len r
theorem lineZ_eq (r : Rnd) : lineZ r = decZ r.frame ++ ([32] ++ (decZ r.a ++ ([32] ++ (decZ r.b ++ ([32] ++ (wordZ r ++ [10])))))) := by
  unfold lineZ joinL wordsZ
  simp
theorem lineZ_len {r : Rnd} (h : OkR r) : (lineZ r).length ≤ 100 := by
  rw [lineZ_eq]
  have h0 := decZ_len h.1.1 h.1.2
  have h1 := decZ_len h.2.1.1 h.2.1.2
  have h2 := decZ_len h.2.2.1 h.2.2.2
  have h3 := wordZ_len r
  simp only [List.length_append, List.length_cons, List.length_nil]
  omega
theorem linesZ_len : ∀ (l : List Rnd), (∀ r ∈ l, OkR r) → (linesZ l).length ≤ 100 * l.length
  | [], _ => by simp [linesZ]
  | r :: l, h => by
    have h1 := lineZ_len (h r (by simp))
    have h2 := linesZ_len l (fun x hx => h x (by simp [hx]))
    unfold linesZ at *
    rw [List.flatMap_cons, List.length_append, List.length_cons]
    omega
theorem linesZ_snoc (l : List Rnd) (k : Nat) (hk : k < l.length) : linesZ (l.take (k + 1)) = linesZ (l.take k) ++ lineZ l[k] := by
  unfold linesZ
  rw [List.take_succ_eq_append_getElem hk, List.flatMap_append]
  simp
theorem itoaZ (n : Int) (h0 : 0 ≤ n) (h1 : n ≤ 1099511627776) (w : World) (ht : Tab w w.heap.size) : Calls Tryd.prog 14 #[.int .i64 n] w fun e w' => e = .returned (.string ⟨(decZ n).toArray⟩) ∧ Below w.heap.size w w' := by
  have h := itoa_any n.toNat w (by omega) ht.1
  rw [Int.toNat_of_nonneg h0] at h
  exact h
theorem digZ (n : Int) (h0 : 0 ≤ n) (h1 : n ≤ 1099511627776) (w : World) : Calls Tryd.prog 18 #[.int .i64 n] w fun e w' => e = .returned (.string ⟨(decZ n).toArray⟩) ∧ Below w.heap.size w w' := by
  have h := digits_any n.toNat w (by omega)
  rw [Int.toNat_of_nonneg h0] at h
  exact h
set_option maxHeartbeats 8000000 in
theorem rlines_any (A : Option Addr) (c : Nat) (l : List Rnd) (w : World) (hl : l.length ≤ 1000) (hr : Rd w w.heap.size A (l.flatMap Rnd.cells)) (hok : ∀ r ∈ l, OkR r) :
    Calls Tryd.prog 9 #[.slice A l.length c] w fun e w' => e = .returned (.string ⟨(linesZ l).toArray⟩) ∧ Below w.heap.size w w' := by
  have HR := Lib.hid hr
  have HOK := Lib.hid hok
  have HS := Lib.hid (fun k hk => linesZ_snoc l k hk)
  have HL := Lib.hid (fun k => linesZ_len (l.take k) (fun r hr => hok r (List.mem_of_mem_take hr)))
  obtain ⟨m, hm⟩ : ∃ m, l.length = m := ⟨_, rfl⟩
  rw [hm] at hl ⊢
  have HM := Lib.hid hm
  clear hr hm hok
  go_enter Tryd.func9, Tryd.ntmps9
  go_wp2_with fail
  go_loopw [3, 4] (fun s v wr => ∃ k : Nat, k ≤ m ∧ v = .int .i64 k ∧ s = .string ⟨(linesZ (l.take k)).toArray⟩ ∧ Below w.heap.size w wr) (fun _ v _ => m - (intOf v).toNat)
  case atStart => exact ⟨0, Nat.zero_le _, rfl, by simp [linesZ], Below.refl _ _⟩
  case round =>
    obtain ⟨k, hk, rfl, rfl, hb⟩ := hrel
    by_cases hlt : k < m
    · have hkL : k < l.length := by rw [HM.out]; exact hlt
      obtain ⟨b0, off, rfl, hB, x0, x1, x2, x3⟩ := Rd.rnd (HR.out.below hb (Nat.le_refl _)) hkL
      have hblw := Nat.lt_of_lt_of_le hB hb.size
      have hst := HS.out k hkL
      have hln := HL.out k
      have hokx := HOK.out l[k] (List.getElem_mem hkL)
      obtain ⟨x, hx⟩ : ∃ x, l[k] = x := ⟨_, rfl⟩
      rw [hx] at x0 x1 x2 x3 hst hokx
      obtain ⟨P, hP⟩ : ∃ P, linesZ (l.take k) = P := ⟨_, rfl⟩
      rw [hP] at hst hln ⊢
      rw [List.length_take] at hln
      have hpl : P.length ≤ 100000 := by omega
      have HX := Lib.hid hx
      have HST := Lib.hid hst
      obtain ⟨⟨f0, f1⟩, ⟨a0, a1⟩, ⟨b1, b2⟩⟩ := hokx
      have HD0 := Lib.hid (fun V => digZ x.frame f0 f1 V)
      have HD1 := Lib.hid (fun V => digZ x.a a0 a1 V)
      have HD2 := Lib.hid (fun V => digZ x.b b1 b2 V)
      have l0 := decZ_len f0 f1
      have l1 := decZ_len a0 a1
      have l2 := decZ_len b1 b2
      have l3 := wordZ_len x
      have HWZ := Lib.hid (show wordZ x = if placeZ x.win < 2 then decZ x.win else [110, 111, 110, 101] from rfl)
      have HLZ := Lib.hid (lineZ_eq x)
      obtain ⟨u, hu⟩ : ∃ u, wordZ x = u := ⟨_, rfl⟩
      rw [hu] at HWZ HLZ l3
      clear hst hx hP hu hln
      by_cases hw : x.win = 0 ∨ x.win = 1
      · have hpl2 : placeZ x.win < 2 := by unfold placeZ; rw [if_pos hw]; omega
        have HU : Hid (u = decZ x.win) := Lib.hid (by rw [HWZ.out, if_pos hpl2])
        have HD3 := Lib.hid (fun V => digZ x.win (by omega) (by omega) V)
        rw [← HU.out] at HD3
        clear hpl2
        rcases hw with hw | hw
        all_goals
          rw [hw] at x3 HD3
          clear hw
          go_upto_region 8 with (first | (go_at_call 18; refine (HD3.out _).mono ?_; rintro e w1 ⟨rfl, hb1⟩; have HB1 := Lib.hid (bTrans hb hb1); clear hb1))
          clear x0 x1 x2 x3 hblw
          obtain ⟨b3, off3, hA3, hB3, x0, x1, x2, x3⟩ := Rd.rnd (HR.out.below HB1.out (Nat.le_refl _)) hkL
          simp only [Option.some.injEq, Addr.mk.injEq, and_true] at hA3
          obtain ⟨rfl, rfl⟩ := hA3
          have hblw := Nat.lt_of_lt_of_le hB3 HB1.out.size
          rw [HX.out] at x0 x1 x2 x3
          clear hb
          refine wp_region_mild (by kernel_rfl) (by kernel_rfl) ?_
          repeat (go_big_quiet_step ((go_at_call 18; first | (with_reducible exact mild_of (HD0.out _)) | (with_reducible exact mild_of (HD1.out _)) | (with_reducible exact mild_of (HD2.out _)))))
          refine wpQuiet_nil ?_
          intro w7 hw'
          obtain ⟨⟨wq, k7⟩, hw''⟩ := hw'
          subst hw''
          go_wp2
          go_roundw
          case rel => exact ⟨k + 1, by omega, by go_num, by rw [HST.out, HLZ.out]; simp only [str_append, ← List.append_assoc], bTrans HB1.out k7⟩
          case measure => simp [intOf]; omega
      · have hpl2 : ¬ placeZ x.win < 2 := by unfold placeZ; rw [if_neg hw]; omega
        have HU : Hid (u = [110, 111, 110, 101]) := Lib.hid (by rw [HWZ.out, if_neg hpl2])
        have k0 : (x.win == 0) = false := by simp; omega
        have k1 : (x.win == 1) = false := by simp; omega
        have HB1 := Lib.hid hb
        clear hpl2 hw
        go_wp2_with fail
        refine wp_region_mild (by kernel_rfl) (by kernel_rfl) ?_
        repeat (go_big_quiet_step ((go_at_call 18; first | (with_reducible exact mild_of (HD0.out _)) | (with_reducible exact mild_of (HD1.out _)) | (with_reducible exact mild_of (HD2.out _)))))
        refine wpQuiet_nil ?_
        intro w7 hw'
        obtain ⟨⟨wq, k7⟩, hw''⟩ := hw'
        subst hw''
        go_wp2
        go_roundw
        case rel => exact ⟨k + 1, by omega, by go_num, by rw [HST.out, HLZ.out, HU.out]; simp only [str_append, ← List.append_assoc], bTrans HB1.out k7⟩
        case measure => simp [intOf]; omega
    · obtain rfl : k = m := by omega
      rw [List.take_of_length_le (by rw [HM.out]; exact Nat.le_refl _)]
      go_wp2
      go_ret
      exact ⟨rfl, hb⟩
end Go.Proofs.YtfcllbhkimjhkaaDoor.Ser
