/-
  script.number and the document's Number.
-/
import Derived.Test.YtlonefjbcooaaaaDoorScP
import Derived.Test.YtlonefjbcooaaaaDoorDigits
import Derived.Test.YtlonefjbcooaaaaDoorMild
namespace Go.Proofs.YtlonefjbcooaaaaDoor
open Go.RowKit
set_option maxRecDepth 100000
set_option linter.unusedSimpArgs false
theorem gPow : Tryd.prog.globalNamed "internal/strconv.uint64pow10" = some 3 := by kernel_rfl
def nmR : List (List UInt8) := [[], [116, 105, 99, 107], [116, 97, 107, 101], [99, 111, 112, 121], [100, 114, 111, 112], [115, 112, 111, 105, 108], [108, 101, 97, 118, 101]]
def ctR : List Nat := [0, 2, 2, 2, 2, 4, 1]
/-- What the program's own variables hold, and they lie below B. -/
structure ScW (w : World) (B : Nat) : Prop where
  pow : Lib.TabIs Tryd.prog w "internal/strconv.uint64pow10" .u64 Lib.pow10Tab
  powB : 3 < B
  low : 7 < B
  mx : ∃ m, w.cell? ⟨2, 0, none⟩ = some (.int .i64 m)
  syn : ∃ t p, w.cell? ⟨6, 0, none⟩ = some (.iface t p)
  rng : ∃ t p, w.cell? ⟨7, 0, none⟩ = some (.iface t p)
  nm : ∀ j, j < 7 → w.cell? ⟨0, j, none⟩ = some (str (nmR.getD j []))
  ct : ∀ j, j < 7 → w.cell? ⟨1, j, none⟩ = some (.int .i64 (ctR.getD j 0 : Nat))
theorem ScW.below {w w' : World} {B B' : Nat} (h : ScW w B) (hb : Below B' w w') (hB : B ≤ B') : ScW w' B := by
  have k : ∀ b j, b ≤ 7 → w'.cell? ⟨b, j, none⟩ = w.cell? ⟨b, j, none⟩ := fun b j e => hb.cell (p := ⟨b, j, none⟩) (by have := h.low; show b < B'; omega)
  refine ⟨var?_below hb gPow (Nat.lt_of_lt_of_le h.powB hB) h.pow, h.powB, h.low, ?_, ?_, ?_, fun j hj => ?_, fun j hj => ?_⟩
  · rw [k _ _ (by decide)]; exact h.mx
  · rw [k _ _ (by decide)]; exact h.syn
  · rw [k _ _ (by decide)]; exact h.rng
  · rw [k _ _ (by decide)]; exact h.nm j hj
  · rw [k _ _ (by decide)]; exact h.ct j hj
theorem ScW.on {w w' : World} (h : ScW w w.heap.size) (hb : Below w.heap.size w w') : ScW w' w'.heap.size := by
  have h' := h.below hb (Nat.le_refl _)
  exact ⟨h'.pow, Nat.lt_of_lt_of_le h'.powB hb.size, Nat.lt_of_lt_of_le h'.low hb.size, h'.mx, h'.syn, h'.rng, h'.nm, h'.ct⟩

set_option maxHeartbeats 4000000 in
theorem atoi_any (s : List UInt8) (w : World) (hl : s.length ≤ 1000000) (h : ScW w w.heap.size) :
    Calls Tryd.prog 62 #[.string ⟨s.toArray⟩] w fun e w' => Below w.heap.size w w' ∧ ((∃ v, Lib.atoiAll s = .ok v ∧ e = .returned (.tuple #[.int .i64 v, .nilIface])) ∨ ((∀ v, Lib.atoiAll s ≠ .ok v) ∧ ∃ N, e = .returned (.tuple #[.int .i64 (numP s).1, .iface 138 (.pointer (some ⟨N, 0, none⟩))]))) := by
  have hsz : (⟨s.toArray⟩ : ByteArray).size ≤ 1000000 := by simpa [ByteArray.size] using hl
  have hd : (⟨s.toArray⟩ : ByteArray).data.toList = s := by simp
  cases hA : Lib.atoiAll s with
  | ok v =>
    refine (Tryd.strconv_Atoi_ok ⟨s.toArray⟩ (by omega) v (by rw [hd]; exact hA) w).mono ?_
    rintro e w' ⟨rfl, hw⟩
    refine ⟨?_, .inl ⟨v, rfl, rfl⟩⟩
    rcases hw with rfl | ⟨t, rfl⟩
    · exact Below.refl _ _
    · exact Lib.bytesWorld_below w _ t
  | range =>
    obtain ⟨t, p, hv⟩ := h.rng
    refine (Tryd.strconv_Atoi_range ⟨s.toArray⟩ (by omega) (by rw [hd]; exact hA) _ w hv (.inr ⟨_, _, rfl⟩)).mono ?_
    rintro e w' ⟨N, rfl, -, -, hb⟩
    exact ⟨hb, .inr ⟨fun v e => (nomatch e), N, by rw [numP, hA, hd]⟩⟩
  | _ =>
    obtain ⟨t, p, hv⟩ := h.syn
    refine (Tryd.strconv_Atoi_syntax ⟨s.toArray⟩ (by omega) (by rw [hd]; exact hA) _ w hv (.inr ⟨_, _, rfl⟩)).mono ?_
    rintro e w' ⟨N, rfl, -, -, hb⟩
    exact ⟨hb, .inr ⟨fun v e => (nomatch e), N, by rw [numP, hA]⟩⟩
theorem numP_bad {s : List UInt8} (h : ∀ v, Lib.atoiAll s ≠ .ok v) : (numP s).2 = false := by
  unfold numP
  cases hA : Lib.atoiAll s with
  | ok v => exact absurd hA (h v)
  | _ => rfl
theorem numP_of {s : List UInt8} {v : Int} (h : Lib.atoiAll s = .ok v) : numP s = (v, decide (0 ≤ v) && (decide (v ≤ 999999999) && decide (Lib.decDigits v.toNat = s))) := by unfold numP; rw [h]

set_option maxHeartbeats 8000000 in
theorem number_any (s : List UInt8) (w : World) (hl : s.length ≤ 1000000) (h : ScW w w.heap.size) :
    Calls Tryd.prog 51 #[.string ⟨s.toArray⟩] w fun e w' => e = .returned (.tuple #[.int .i64 (numP s).1, .bool (numP s).2]) ∧ Below w.heap.size w w' := by
  have HA := Lib.hid (atoi_any s w hl h)
  have HW := Lib.hid h
  clear h hl
  go_enter Tryd.func51, Tryd.ntmps51
  go_wp2_with fail
  go_at_call 62
  refine HA.out.mono ?_
  intro e w1 hh
  obtain ⟨hb1, hh⟩ := hh
  have HB1 := Lib.hid hb1
  have HW1 := Lib.hid (HW.out.on hb1)
  clear hb1
  rcases hh with ⟨v, hA, rfl⟩ | ⟨hA, N, rfl⟩
  · have HP := Lib.hid (numP_of hA)
    clear hA
    by_cases h0 : 0 ≤ v
    · obtain ⟨u, rfl⟩ := Int.eq_ofNat_of_zero_le h0
      by_cases h9 : u ≤ 999999999
      · have HI : Hid (Calls Tryd.prog 39 #[.int .i64 u] w1 fun e w' => e = .returned (.string ⟨(Lib.decDigits u).toArray⟩) ∧ Below w1.heap.size w1 w') := Lib.hid (itoa_any u w1 (by omega) HW1.out.pow)
        go_wp2_with (go_at_call 39; refine HI.out.mono ?_; rintro e w2 ⟨rfl, hb2⟩; have HB2 := Lib.hid hb2; clear hb2)
        go_ret2
        refine ⟨?_, bTrans HB1.out HB2.out⟩
        rw [HP.out]
        show Ending.returned (.tuple #[.int .i64 u, .bool (Lib.decDigits u == s)]) = _
        have e9 : (u : Int) ≤ 999999999 := by omega
        have eb : (Lib.decDigits u == s) = decide (Lib.decDigits u = s) := by rw [Bool.eq_iff_iff]; simp
        simp [e9, eb]
      · go_wp2
        go_ret2
        refine ⟨?_, HB1.out⟩
        rw [HP.out]
        show Ending.returned (.tuple #[.int .i64 u, .bool false]) = _
        simp [show ¬ ((u : Int) ≤ 999999999) by omega]
    · go_wp2
      go_ret2
      refine ⟨?_, HB1.out⟩
      rw [HP.out]
      show Ending.returned (.tuple #[.int .i64 v, .bool false]) = _
      simp [h0]
      intro h; omega
  · have HP := Lib.hid (numP_bad hA)
    clear hA
    go_wp2
    go_ret2
    refine ⟨?_, HB1.out⟩
    rw [HP.out]
    rfl

theorem decFrom_le {l : List UInt8} : ∀ {acc n : Nat}, Lib.decFrom acc l = some n → acc ≤ n := by
  induction l with
  | nil => intro acc n h; simp [Lib.decFrom] at h; omega
  | cons b r ih =>
    intro acc n h
    simp only [Lib.decFrom] at h
    cases hd : Lib.digitVal b with
    | none => simp [hd] at h
    | some d => simp only [hd] at h; have := ih h; omega
/-- The document's number of the first k bytes. -/
theorem take_digit (l : List UInt8) (k n : Nat) (hk : k < l.length) (h : Lib.decFrom 0 (l.take k) = some n) :
    (¬ (48 ≤ l[k].toNat ∧ l[k].toNat ≤ 57) → Lib.decFrom 0 l = none) ∧ (48 ≤ l[k].toNat ∧ l[k].toNat ≤ 57 → Lib.decFrom 0 (l.take (k + 1)) = some (10 * n + l[k].toNat - 48)) := by
  refine ⟨fun hb => ?_, fun hb => ?_⟩
  · cases hd : Lib.decFrom 0 l with
    | none => rfl
    | some m =>
      obtain ⟨d, e⟩ := Lib.digit_of_decFrom l 0 m hd k l[k] (List.getElem?_eq_getElem hk)
      exact absurd (by have := Lib.digitVal_eq e; omega) hb
  · have hv : Lib.digitVal l[k] = some (l[k].toNat - 48) := by unfold Lib.digitVal; rw [if_pos hb]
    rw [Lib.decFrom_take l k 0 n l[k] _ h (List.getElem?_eq_getElem hk) hv]
    congr 1; omega
theorem take_bound (l : List UInt8) : ∀ (k n : Nat), Lib.decFrom 0 (l.take k) = some n → n < 10 ^ k := by
  intro k
  induction k with
  | zero => intro n h; simp [Lib.decFrom] at h; omega
  | succ k ih =>
    intro n h
    by_cases hk : k < l.length
    · rw [List.take_succ_eq_append_getElem hk, decFrom_snoc] at h
      cases hm : Lib.decFrom 0 (l.take k) with
      | none => simp [hm] at h
      | some m =>
        cases hv : Lib.digitVal l[k] with
        | none => simp [hm, hv] at h
        | some d =>
          simp only [hm, hv, Option.bind_some, Option.map_some, Option.some.injEq] at h
          have := ih m hm
          have := Lib.digitVal_eq hv
          rw [Nat.pow_succ]; omega
    · rw [List.take_of_length_le (by omega)] at h
      have := ih n (by rw [List.take_of_length_le (by omega)]; exact h)
      rw [Nat.pow_succ]; omega
theorem bytes_get (s : ByteArray) (j : Nat) (h : j < s.size) : s.data.toList[j]'h = s[j] := by rw [Array.getElem_toList]; rfl
theorem head_get (s : ByteArray) (h : 0 < s.size) : s.data.toList.head? = some s[0] := by
  rw [List.head?_eq_getElem?, List.getElem?_eq_getElem (by exact h), bytes_get s 0 h]
set_option maxHeartbeats 8000000 in
theorem rnumber_any (s : ByteArray) (w : World) (hl : s.size ≤ 1000000) :
    Calls Tryd.prog 52 #[.string s] w fun e w' => (∃ v, e = .returned (.tuple #[.int .i64 v, .bool (numO s.data.toList).isSome]) ∧ ∀ n, numO s.data.toList = some n → v = (n : Int)) ∧ w' = w := by
  have hlen : s.data.toList.length = s.size := rfl
  have HL := Lib.hid hlen
  clear hlen
  go_enter Tryd.func52, Tryd.ntmps52
  by_cases h0 : s.size = 0
  · have HN : Hid (numO s.data.toList = none) := Lib.hid (by unfold numO; rw [if_pos (.inl (by rw [HL.out, h0]))])
    go_wp2
    go_ret2
    exact ⟨⟨0, by rw [HN.out]; rfl, fun n e => by rw [HN.out] at e; cases e⟩, rfl⟩
  by_cases h9 : 9 < s.size
  · have HN : Hid (numO s.data.toList = none) := Lib.hid (by unfold numO; rw [if_pos (.inr (.inl (by rw [HL.out]; exact h9)))])
    go_wp2
    go_ret2
    exact ⟨⟨0, by rw [HN.out]; rfl, fun n e => by rw [HN.out] at e; cases e⟩, rfl⟩
  have hp : 0 < s.size := by omega
  by_cases hz : 1 < s.size ∧ s[0].toNat = 48
  · have HN : Hid (numO s.data.toList = none) := Lib.hid (by
      unfold numO
      rw [if_pos (.inr (.inr ⟨by rw [HL.out]; exact hz.1, (head_get s hp).trans (congrArg some (UInt8.toNat_inj.1 hz.2))⟩))])
    obtain ⟨h1, hz⟩ := hz
    go_wp2
    go_ret2
    exact ⟨⟨0, by rw [HN.out]; rfl, fun n e => by rw [HN.out] at e; cases e⟩, rfl⟩
  have HN : Hid (numO s.data.toList = Lib.decFrom 0 s.data.toList) := Lib.hid (by
    unfold numO
    rw [if_neg]
    rintro (e | e | ⟨e1, e2⟩)
    · rw [HL.out] at e; omega
    · rw [HL.out] at e; omega
    · rw [HL.out] at e1
      rw [head_get s hp] at e2
      exact hz ⟨e1, by rw [Option.some.inj e2]; rfl⟩)
  have hz1 : s.size = 1 ∨ (1 < s.size ∧ ¬ s[0].toNat = 48) := by
    by_cases h : s.size = 1
    · exact .inl h
    · exact .inr ⟨by omega, fun e => hz ⟨by omega, e⟩⟩
  clear hz
  have HS := Lib.hid (fun (k n : Nat) (hk : k < s.size) (h : Lib.decFrom 0 (s.data.toList.take k) = some n) => take_digit s.data.toList k n hk h)
  have HB := Lib.hid (take_bound s.data.toList)
  have hs9 : s.size ≤ 9 := by omega
  have HNX : Hid (∀ n, numO s.data.toList = some n → n ≤ 999999999) := Lib.hid (fun n e => (numO_some e).2.1)
  rcases hz1 with h1 | ⟨h1, hz⟩
  · clear h9 h0
    go_wp2
    go_loop [4, 5] (fun n i => ∃ k v : Nat, k ≤ s.size ∧ i = .int .i64 k ∧ n = .int .i64 v ∧ Hid (Lib.decFrom 0 (s.data.toList.take k) = some v)) (fun _ i => s.size - (intOf i).toNat)
    case atStart => exact ⟨0, 0, Nat.zero_le _, rfl, rfl, Lib.hid rfl⟩
    case round =>
      obtain ⟨k, v, hk, rfl, rfl, HV⟩ := hrel
      by_cases hlt : k < s.size
      · have hst := HS.out k v hlt HV.out
        rw [bytes_get s k hlt] at hst
        have hvb := HB.out k v HV.out
        have hp10 : (10 : Nat) ^ k ≤ 10 ^ 9 := Nat.pow_le_pow_right (by decide) (by omega)
        have hp9 : (10 : Nat) ^ 9 = 1000000000 := by decide
        have hv9 : v < 1000000000 := by omega
        clear hvb hp10 hp9
        have hb8 := UInt8.toNat_lt s[k]
        by_cases hd : 48 ≤ s[k].toNat
        · by_cases hd2 : s[k].toNat ≤ 57
          · have HV2 := Lib.hid (hst.2 ⟨hd, hd2⟩)
            clear hst
            go_wp2
            go_round
            case rel => exact ⟨k + 1, 10 * v + s[k].toNat - 48, by omega, by go_num, by go_num, HV2⟩
            case measure => simp [intOf]; omega
          · have HX := Lib.hid (HN.out.trans (hst.1 (fun e => hd2 e.2)))
            clear hst
            go_wp2
            go_ret2
            exact ⟨⟨0, by rw [HX.out]; rfl, fun n e => by rw [HX.out] at e; cases e⟩, rfl⟩
        · have HX := Lib.hid (HN.out.trans (hst.1 (fun e => hd e.1)))
          clear hst
          go_wp2
          go_ret2
          exact ⟨⟨0, by rw [HX.out]; rfl, fun n e => by rw [HX.out] at e; cases e⟩, rfl⟩
      · have hv := HV.out
        rw [List.take_of_length_le (by rw [HL.out]; omega)] at hv
        have HX := Lib.hid (HN.out.trans hv)
        clear hv
        go_wp2
        go_ret2
        exact ⟨⟨v, by rw [HX.out]; rfl, fun n e => by rw [HX.out] at e; cases e; rfl⟩, rfl⟩
  · have g0 : ((s.size : Int) == 0) = false := by rw [beq_eq_false_iff_ne]; omega
    have g9 : decide ((9 : Int) < (s.size : Int)) = false := decide_eq_false (by omega)
    have gz : ((s[0].toNat : Int) == 48) = false := by rw [beq_eq_false_iff_ne]; omega
    clear h0 h9 hz
    go_wp2
    go_loop [4, 5] (fun n i => ∃ k v : Nat, k ≤ s.size ∧ i = .int .i64 k ∧ n = .int .i64 v ∧ Hid (Lib.decFrom 0 (s.data.toList.take k) = some v)) (fun _ i => s.size - (intOf i).toNat)
    case atStart => exact ⟨0, 0, Nat.zero_le _, rfl, rfl, Lib.hid rfl⟩
    case round =>
      obtain ⟨k, v, hk, rfl, rfl, HV⟩ := hrel
      by_cases hlt : k < s.size
      · have hst := HS.out k v hlt HV.out
        rw [bytes_get s k hlt] at hst
        have hvb := HB.out k v HV.out
        have hp10 : (10 : Nat) ^ k ≤ 10 ^ 9 := Nat.pow_le_pow_right (by decide) (by omega)
        have hp9 : (10 : Nat) ^ 9 = 1000000000 := by decide
        have hv9 : v < 1000000000 := by omega
        clear hvb hp10 hp9
        have hb8 := UInt8.toNat_lt s[k]
        by_cases hd : 48 ≤ s[k].toNat
        · by_cases hd2 : s[k].toNat ≤ 57
          · have HV2 := Lib.hid (hst.2 ⟨hd, hd2⟩)
            clear hst
            go_wp2
            go_round
            case rel => exact ⟨k + 1, 10 * v + s[k].toNat - 48, by omega, by go_num, by go_num, HV2⟩
            case measure => simp [intOf]; omega
          · have HX := Lib.hid (HN.out.trans (hst.1 (fun e => hd2 e.2)))
            clear hst
            go_wp2
            go_ret2
            exact ⟨⟨0, by rw [HX.out]; rfl, fun n e => by rw [HX.out] at e; cases e⟩, rfl⟩
        · have HX := Lib.hid (HN.out.trans (hst.1 (fun e => hd e.1)))
          clear hst
          go_wp2
          go_ret2
          exact ⟨⟨0, by rw [HX.out]; rfl, fun n e => by rw [HX.out] at e; cases e⟩, rfl⟩
      · have hv := HV.out
        rw [List.take_of_length_le (by rw [HL.out]; omega)] at hv
        have HX := Lib.hid (HN.out.trans hv)
        clear hv
        go_wp2
        go_ret2
        exact ⟨⟨v, by rw [HX.out]; rfl, fun n e => by rw [HX.out] at e; cases e; rfl⟩, rfl⟩
end Go.Proofs.YtlonefjbcooaaaaDoor
