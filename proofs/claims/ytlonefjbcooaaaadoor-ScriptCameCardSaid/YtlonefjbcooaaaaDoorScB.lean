/-
  The document's Numbers.
-/
import Derived.Test.YtlonefjbcooaaaaDoorScA
namespace Go.Proofs.YtlonefjbcooaaaaDoor
open Go.RowKit
set_option maxRecDepth 100000
set_option linter.unusedSimpArgs false
/-- The numbers of a line behind a word. -/
def numbersO (p word : List UInt8) (c : Nat) : Option (List Nat) := match cutL 32 p with
  | [] => none
  | h :: t => if h = word ∧ t.length = c then numsO t else none
theorem numbersO_of {p word : List UInt8} {c : Nat} {h : List UInt8} {t : List (List UInt8)} (e : cutL 32 p = h :: t) : numbersO p word c = if h = word ∧ t.length = c then numsO t else none := by unfold numbersO; rw [e]
set_option maxHeartbeats 8000000 in
theorem rnumbers_any (s : ByteArray) (word : List UInt8) (cnt : Nat) (w : World) (hs : s.size ≤ 1000000) (_hc9 : cnt ≤ 100) :
    Calls Tryd.prog 38 #[.string s, .string ⟨word.toArray⟩, .int .i64 cnt] w fun e w' => ∃ A' n' c' b, e = .returned (.tuple #[.slice A' n' c', .bool b]) ∧ Below w.heap.size w w' ∧
      (numbersO s.data.toList word cnt = none → b = false) ∧ ∀ ns, numbersO s.data.toList word cnt = some ns → b = true ∧ OwnL w' w.heap.size 3 1 (.slice A' n' c') iF ns := by
  have HC := Lib.hid (rcut_any s 32 w hs)
  have hlen : s.data.toList.length = s.size := rfl
  obtain ⟨h0, t, hht⟩ : ∃ h t, cutL 32 s.data.toList = h :: t := by
    cases e : cutL 32 s.data.toList with
    | nil => exact absurd e (cutL_ne _ _)
    | cons h t => exact ⟨h, t, rfl⟩
  have HO := Lib.hid (numbersO_of (word := word) (c := cnt) hht)
  have HLL := Lib.hid (fun p hp => cutL_len 32 s.data.toList p hp)
  have hll := cutL_length_le 32 s.data.toList
  rw [hht] at HC HLL hll
  rw [hlen, List.length_cons] at hll
  have HT := Lib.hid (numsO_take t)
  have HNL := Lib.hid (fun k ns (e : numsO (t.take k) = some ns) => numsO_len e)
  obtain ⟨m, hm⟩ : ∃ m, t.length = m := ⟨_, rfl⟩
  rw [hm] at HO hll
  rw [List.length_cons, hm] at HC
  have HM := Lib.hid hm
  clear hlen hht hm
  go_enter Tryd.func38, Tryd.ntmps38
  go_wp2_with fail
  go_at_call 18
  refine HC.out.mono ?_
  rintro e w1 ⟨A1, c1, rfl, ho1, hb1⟩
  have hr1 := ho1.rd
  obtain ⟨b, off, hA1, hB, hcc⟩ := hr1.at_ sF_length (by omega) (k := 0) (by simp)
  subst hA1
  have x0 := hcc 0 _ rfl
  rw [Nat.add_zero] at x0
  simp only [List.getElem_cons_zero] at x0
  have HR := Lib.hid hr1
  have HB1 := Lib.hid hb1
  clear hcc ho1 hr1 hb1
  by_cases hw : h0 = word
  · by_cases hcm : m = cnt
    · have HX : Hid (numbersO s.data.toList word cnt = numsO t) := Lib.hid (by rw [HO.out, if_pos ⟨hw, hcm⟩])
      subst hcm
      subst hw
      clear HO
      go_wp2_with fail
      go_loopw [9, 10] (fun out i wr => ∃ k : Nat, k ≤ m ∧ i = .int .i64 (k + 1 : Nat) ∧ ∃ A' n' c' ns, out = .slice A' n' c' ∧ Hid (OwnL wr w1.heap.size 3 1 (.slice A' n' c') iF ns) ∧ Hid (numsO (t.take k) = some ns) ∧ Hid (Below w1.heap.size w1 wr)) (fun _ i _ => m + 1 - (intOf i).toNat)
      case atStart =>
        exact ⟨0, Nat.zero_le _, rfl, some ⟨w1.heap.size, 0, none⟩, 0, 0, [], rfl, Lib.hid (OwnL.lit [] #[] (Nat.le_refl _) (by simp) iF_length rfl rfl rfl), Lib.hid rfl, Lib.hid (bAlloc (Below.refl _ _) _)⟩
      case round =>
        obtain ⟨k, hk, rfl, A', n', c', ns, rfl, HO, HNS, HB⟩ := hrel
        by_cases hlt : k < m
        · have hkL : k < t.length := by rw [HM.out]; exact hlt
          obtain ⟨b', off', hbb, hBb, hc⟩ := (HR.out.below HB.out (Nat.le_refl _)).at_ sF_length (by omega) (k := k + 1) (by simp; omega)
          cases hbb
          have x1 := hc 0 _ rfl
          rw [Nat.add_zero, Nat.mul_one] at x1
          simp only [List.getElem_cons_succ] at x1
          have hst := HT.out k ns hkL HNS.out
          have hln := HNL.out k ns HNS.out
          rw [List.length_take] at hln
          have hlx := HLL.out t[k] (List.mem_cons_of_mem _ (List.getElem_mem hkL))
          obtain ⟨x, hx⟩ : ∃ x, t[k] = x := ⟨_, rfl⟩
          rw [hx] at x1 hst hlx
          have hsz : s.data.toList.length = s.size := rfl
          rw [hsz] at hlx
          have HC2 : Hid (Calls Tryd.prog 52 #[.string ⟨x.toArray⟩] wr fun e w' => (∃ v, e = .returned (.tuple #[.int .i64 v, .bool (numO x).isSome]) ∧ ∀ n, numO x = some n → v = (n : Int)) ∧ w' = wr) := Lib.hid (rnumber_any ⟨x.toArray⟩ wr (by simp [ByteArray.size]; omega))
          have hblw := Nat.lt_of_lt_of_le hB HB.out.size
          have e0 : (0 : Int) ≤ (k : Int) := Int.natCast_nonneg _
          have e1 : (k : Int) < (m : Int) := by omega
          have hnl : ns.length ≤ 1000000 := by omega
          have hwr : w1.heap.size ≤ wr.heap.size := HB.out.size
          clear hc hx hlx hln hsz
          cases hnx : numO x with
          | none =>
            have HX3 := Lib.hid (hst.1 hnx)
            rw [hnx] at HC2
            clear hst hnx
            go_wp2_with (first | (go_at_call 52; refine HC2.out.mono ?_; rintro e w3 ⟨⟨v, rfl, -⟩, rfl⟩))
            go_ret2
            exact ⟨none, 0, 0, false, rfl, bTrans HB1.out HB.out, fun _ => rfl, fun ns e => by rw [HX.out, HX3.out] at e; cases e⟩
          | some u =>
            have HX3 := Lib.hid (hst.2 u hnx)
            rw [hnx] at HC2
            clear hst hnx
            go_wp2_with (first
              | (go_at_call 52; refine HC2.out.mono ?_; rintro e w3 ⟨⟨v, rfl, hv⟩, rfl⟩; obtain rfl := hv u rfl)
              | (at_builtin; refine wpList_app appI rfl (.tmp 44) (.tmp 46) rfl w1.heap.size _ ns [u] (HO.out.alloc _) rfl _ _ 1 1 rfl rfl (rd_one _ _ _ u rfl) (by simp; omega) (by simp; omega) ?_
                 intro A8 c8 n8 w8 hn8 ho8 hg8
                 have HO8 := Lib.hid ho8
                 have HG8 := Lib.hid hg8
                 clear ho8 hg8))
            go_roundw
            case rel =>
              refine ⟨k + 1, by omega, by go_num, A8, n8, c8, ns ++ [u], rfl, HO8, HX3, Lib.hid ?_⟩
              exact (bAlloc HB.out _).grown HG8.out (by simp; omega) (fun q e => HO.out.base_le q e)
            case measure => simp [intOf]; omega
        · obtain rfl : k = m := by omega
          have hns := HNS.out
          rw [List.take_of_length_le (by rw [HM.out]; exact Nat.le_refl _)] at hns
          have HX3 := Lib.hid hns
          clear hns
          go_wp2
          go_ret2
          refine ⟨A', n', c', true, rfl, bTrans HB1.out HB.out, fun e => (by rw [HX.out, HX3.out] at e; cases e), fun ns' e => ?_⟩
          rw [HX.out, HX3.out] at e
          cases e
          exact ⟨rfl, HO.out.more HB1.out.size⟩
    · have HX : Hid (numbersO s.data.toList word cnt = none) := Lib.hid (by rw [HO.out, if_neg (fun e => hcm e.2)])
      subst hw
      clear HO
      go_wp2
      go_ret2
      exact ⟨none, 0, 0, false, rfl, HB1.out, fun _ => rfl, fun ns e => by rw [HX.out] at e; cases e⟩
  · have HX : Hid (numbersO s.data.toList word cnt = none) := Lib.hid (by rw [HO.out, if_neg (fun e => hw e.1)])
    have gw : (h0 == word) = false := by simpa using hw
    clear HO
    go_wp2
    go_ret2
    exact ⟨none, 0, 0, false, rfl, HB1.out, fun _ => rfl, fun ns e => by rw [HX.out] at e; cases e⟩
end Go.Proofs.YtlonefjbcooaaaaDoor
