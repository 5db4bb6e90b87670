/-
  The document's Apply.
-/
import Derived.Test.YtdjfpdndaobohaaApE
import Derived.Test.YtdjfpdndaobohaaRRis
import Derived.Test.YtdjfpdndaobohaaROrd
namespace Go.Proofs.Ytdjfpdndaobohaa
open Go.RowKit
set_option maxRecDepth 100000
set_option linter.unusedSimpArgs false
theorem any_at {α : Type} {L : List α} {p : α → Bool} {k : Nat} (hk : k < L.length) (h : p L[k] = true) : L.any p = true := List.any_eq_true.2 ⟨_, List.getElem_mem hk, h⟩
theorem any_snoc {α : Type} {L : List α} {p : α → Bool} {k : Nat} (hk : k < L.length) : (L.take (k + 1)).any p = ((L.take k).any p || p L[k]) := by
  rw [List.take_succ_eq_append_getElem hk, List.any_append]
  simp
theorem mem_snoc {gone : List Key4} {key : Key4} {k : Nat} (hk : k < gone.length) : decide (key ∈ gone.take (k + 1)) = (decide (key ∈ gone.take k) || decide (gone[k] = key)) := by
  rw [List.take_succ_eq_append_getElem hk, Bool.eq_iff_iff, Bool.or_eq_true, decide_eq_true_eq, decide_eq_true_eq, decide_eq_true_eq, List.mem_append, List.mem_singleton]
  exact ⟨fun h => h.imp_right Eq.symm, fun h => h.imp_right Eq.symm⟩
theorem errA_one {was : List Ev} {gone : List Key4} {fresh turned : List Ev} (h : argA was gone fresh turned = false) : errA was gone fresh turned = 1 ∧ resA was gone fresh turned = [] := by
  have e : errA was gone fresh turned = 1 := by unfold errA; rw [if_neg (by rw [h]; decide)]
  exact ⟨e, by unfold resA; rw [if_neg (by rw [e]; decide)]⟩
theorem errA_six {was : List Ev} {gone : List Key4} {fresh turned : List Ev} (h : argA was gone fresh turned = true) (h2 : noneA was gone turned = true) : errA was gone fresh turned = 6 ∧ resA was gone fresh turned = [] := by
  have e : errA was gone fresh turned = 6 := by unfold errA; rw [if_pos h, if_pos h2]
  exact ⟨e, by unfold resA; rw [if_neg (by rw [e]; decide)]⟩
theorem errA_seven {was : List Ev} {gone : List Key4} {fresh turned : List Ev} (h : argA was gone fresh turned = true) (h2 : noneA was gone turned = false) (h3 : thereA was fresh = true) : errA was gone fresh turned = 7 ∧ resA was gone fresh turned = [] := by
  have e : errA was gone fresh turned = 7 := by unfold errA; rw [if_pos h, if_neg (by rw [h2]; decide), if_pos h3]
  exact ⟨e, by unfold resA; rw [if_neg (by rw [e]; decide)]⟩
theorem atI_neg {L : List Ev} (hs : SortedE L) {k : Key4} (h : foundK L k = false) : atI L k = -1 := by
  have := atI_found hs k
  rw [h, decide_eq_false_iff_not] at this
  have := atI_bd L k
  omega
theorem atI_pos {L : List Ev} (hs : SortedE L) {k : Key4} (h : foundK L k = true) : ∃ (j : Nat) (hj : j < L.length), atI L k = j ∧ L[j] = findE L k := by
  have h1 := atI_found hs k
  rw [h, decide_eq_true_eq] at h1
  unfold atI at h1 ⊢
  by_cases hl : atN L k < L.length
  · exact ⟨atN L k, hl, by rw [if_pos hl], atN_find hs hl⟩
  · rw [if_neg hl] at h1; omega
section
variable {A1 A2 A3 A4 : Option Addr} {c1 c2 c3 c4 : Nat} {was : List Ev} {gone : List Key4} {fresh turned : List Ev} {w : World}
set_option maxHeartbeats 8000000 in
theorem rapply_bad (h1 : was.length ≤ 100) (h2 : gone.length ≤ 100) (h3 : fresh.length ≤ 100) (h4 : turned.length ≤ 100)
    (r1 : Rd w w.heap.size A1 (was.flatMap Ev.cells)) (r2 : Rd w w.heap.size A2 (gone.flatMap Key4.cells)) (r3 : Rd w w.heap.size A3 (fresh.flatMap Ev.cells)) (r4 : Rd w w.heap.size A4 (turned.flatMap Ev.cells)) (ha : argA was gone fresh turned = false) :
    Calls Try.prog 26 #[.slice A1 was.length c1, .slice A2 gone.length c2, .slice A3 fresh.length c3, .slice A4 turned.length c4] w fun e w' =>
      e = .returned (.tuple #[.slice none 0 0, .int .i64 1]) ∧ Below w.heap.size w w' := by
  have HO1 := Lib.hid (fun V (hV : Below w.heap.size w V) => rordered_any A1 c1 was (by omega) V ((r1.below hV (Nat.le_refl _)).more hV.size))
  have HRS := Lib.hid (fun V (hV : Below w.heap.size w V) => rrising_any A2 c2 gone (by omega) V ((r2.below hV (Nat.le_refl _)).more hV.size))
  have HO2 := Lib.hid (fun V (hV : Below w.heap.size w V) => rordered_any A3 c3 fresh (by omega) V ((r3.below hV (Nat.le_refl _)).more hV.size))
  have HO3 := Lib.hid (fun V (hV : Below w.heap.size w V) => rordered_any A4 c4 turned (by omega) V ((r4.below hV (Nat.le_refl _)).more hV.size))
  have HB : Hid (Below w.heap.size w w) := Lib.hid (Below.refl _ _)
  have ha' : (orderedB was && (risingF key0 gone && (orderedB fresh && orderedB turned))) = false := ha
  obtain ⟨n1, hn1⟩ : ∃ n, was.length = n := ⟨_, rfl⟩
  obtain ⟨n2, hn2⟩ : ∃ n, gone.length = n := ⟨_, rfl⟩
  obtain ⟨n3, hn3⟩ : ∃ n, fresh.length = n := ⟨_, rfl⟩
  obtain ⟨n4, hn4⟩ : ∃ n, turned.length = n := ⟨_, rfl⟩
  obtain ⟨b1, hb1⟩ : ∃ b, orderedB was = b := ⟨_, rfl⟩
  obtain ⟨b2, hb2⟩ : ∃ b, risingF key0 gone = b := ⟨_, rfl⟩
  obtain ⟨b3, hb3⟩ : ∃ b, orderedB fresh = b := ⟨_, rfl⟩
  obtain ⟨b4, hb4⟩ : ∃ b, orderedB turned = b := ⟨_, rfl⟩
  rw [hn1, hb1] at HO1
  rw [hn2, hb2] at HRS
  rw [hn3, hb3] at HO2
  rw [hn4, hb4] at HO3
  rw [hb1, hb2, hb3, hb4] at ha'
  rw [hn1, hn2, hn3, hn4]
  clear hn1 hn2 hn3 hn4 hb1 hb2 hb3 hb4 r1 r2 r3 r4 h1 h2 h3 h4 ha
  cases b1
  case false =>
    go_enter Try.func26, Try.ntmps26
    go_wp2_with (first | (go_at_call 17; (with_reducible refine (HO1.out _ HB.out).mono ?_); rintro e wx ⟨rfl, hbx⟩; have HB := Lib.hid (bTrans HB.out hbx); clear hbx) | (go_at_call 17; (with_reducible refine (HO2.out _ HB.out).mono ?_); rintro e wx ⟨rfl, hbx⟩; have HB := Lib.hid (bTrans HB.out hbx); clear hbx) | (go_at_call 17; (with_reducible refine (HO3.out _ HB.out).mono ?_); rintro e wx ⟨rfl, hbx⟩; have HB := Lib.hid (bTrans HB.out hbx); clear hbx) | (go_at_call 53; refine (HRS.out _ HB.out).mono ?_; rintro e wx ⟨rfl, hbx⟩; have HB := Lib.hid (bTrans HB.out hbx); clear hbx))
    go_ret2
    exact ⟨rfl, HB.out⟩
  cases b2
  case false =>
    go_enter Try.func26, Try.ntmps26
    go_wp2_with (first | (go_at_call 17; (with_reducible refine (HO1.out _ HB.out).mono ?_); rintro e wx ⟨rfl, hbx⟩; have HB := Lib.hid (bTrans HB.out hbx); clear hbx) | (go_at_call 17; (with_reducible refine (HO2.out _ HB.out).mono ?_); rintro e wx ⟨rfl, hbx⟩; have HB := Lib.hid (bTrans HB.out hbx); clear hbx) | (go_at_call 17; (with_reducible refine (HO3.out _ HB.out).mono ?_); rintro e wx ⟨rfl, hbx⟩; have HB := Lib.hid (bTrans HB.out hbx); clear hbx) | (go_at_call 53; refine (HRS.out _ HB.out).mono ?_; rintro e wx ⟨rfl, hbx⟩; have HB := Lib.hid (bTrans HB.out hbx); clear hbx))
    go_ret2
    exact ⟨rfl, HB.out⟩
  cases b3
  case false =>
    go_enter Try.func26, Try.ntmps26
    go_wp2_with (first | (go_at_call 17; (with_reducible refine (HO1.out _ HB.out).mono ?_); rintro e wx ⟨rfl, hbx⟩; have HB := Lib.hid (bTrans HB.out hbx); clear hbx) | (go_at_call 17; (with_reducible refine (HO2.out _ HB.out).mono ?_); rintro e wx ⟨rfl, hbx⟩; have HB := Lib.hid (bTrans HB.out hbx); clear hbx) | (go_at_call 17; (with_reducible refine (HO3.out _ HB.out).mono ?_); rintro e wx ⟨rfl, hbx⟩; have HB := Lib.hid (bTrans HB.out hbx); clear hbx) | (go_at_call 53; refine (HRS.out _ HB.out).mono ?_; rintro e wx ⟨rfl, hbx⟩; have HB := Lib.hid (bTrans HB.out hbx); clear hbx))
    go_ret2
    exact ⟨rfl, HB.out⟩
  cases b4
  case true => cases ha'
  go_enter Try.func26, Try.ntmps26
  go_wp2_with (first | (go_at_call 17; (with_reducible refine (HO1.out _ HB.out).mono ?_); rintro e wx ⟨rfl, hbx⟩; have HB := Lib.hid (bTrans HB.out hbx); clear hbx) | (go_at_call 17; (with_reducible refine (HO2.out _ HB.out).mono ?_); rintro e wx ⟨rfl, hbx⟩; have HB := Lib.hid (bTrans HB.out hbx); clear hbx) | (go_at_call 17; (with_reducible refine (HO3.out _ HB.out).mono ?_); rintro e wx ⟨rfl, hbx⟩; have HB := Lib.hid (bTrans HB.out hbx); clear hbx) | (go_at_call 53; refine (HRS.out _ HB.out).mono ?_; rintro e wx ⟨rfl, hbx⟩; have HB := Lib.hid (bTrans HB.out hbx); clear hbx))
  go_ret2
  exact ⟨rfl, HB.out⟩
set_option maxHeartbeats 32000000 in
theorem rapply_good (h1 : was.length ≤ 100) (h2 : gone.length ≤ 100) (h3 : fresh.length ≤ 100) (h4 : turned.length ≤ 100)
    (r1 : Rd w w.heap.size A1 (was.flatMap Ev.cells)) (r2 : Rd w w.heap.size A2 (gone.flatMap Key4.cells)) (r3 : Rd w w.heap.size A3 (fresh.flatMap Ev.cells)) (r4 : Rd w w.heap.size A4 (turned.flatMap Ev.cells)) (ha : argA was gone fresh turned = true) :
    Calls Try.prog 26 #[.slice A1 was.length c1, .slice A2 gone.length c2, .slice A3 fresh.length c3, .slice A4 turned.length c4] w fun e w' =>
      ∃ A' c' n', e = .returned (.tuple #[.slice A' n' c', .int .i64 (errA was gone fresh turned)]) ∧ OwnL w' w.heap.size 25 9 (.slice A' n' c') Ev.cells (resA was gone fresh turned) ∧ Below w.heap.size w w' := by
  obtain ⟨o1, o2, o3, o4⟩ := argA_all ha
  have s1 := ordered_sorted o1
  have s3 := ordered_sorted o3
  have s4 := ordered_sorted o4
  have HO1 := Lib.hid (fun V (hV : Below w.heap.size w V) => rordered_any A1 c1 was (by omega) V ((r1.below hV (Nat.le_refl _)).more hV.size))
  have HRS := Lib.hid (fun V (hV : Below w.heap.size w V) => rrising_any A2 c2 gone (by omega) V ((r2.below hV (Nat.le_refl _)).more hV.size))
  have HO2 := Lib.hid (fun V (hV : Below w.heap.size w V) => rordered_any A3 c3 fresh (by omega) V ((r3.below hV (Nat.le_refl _)).more hV.size))
  have HO3 := Lib.hid (fun V (hV : Below w.heap.size w V) => rordered_any A4 c4 turned (by omega) V ((r4.below hV (Nat.le_refl _)).more hV.size))
  rw [o1] at HO1
  rw [o2] at HRS
  rw [o3] at HO2
  rw [o4] at HO3
  have HB : Hid (Below w.heap.size w w) := Lib.hid (Below.refl _ _)
  have HAW := Lib.hid (fun key V (hV : Below w.heap.size w V) => rat_any A1 c1 was key V (by omega) ((r1.below hV (Nat.le_refl _)).more hV.size))
  have HAT := Lib.hid (fun key V (hV : Below w.heap.size w V) => rat_any A4 c4 turned key V (by omega) ((r4.below hV (Nat.le_refl _)).more hV.size))
  have HR1 := Lib.hid r1
  have HR2 := Lib.hid r2
  have HR3 := Lib.hid r3
  have HR4 := Lib.hid r4
  have HS1 := Lib.hid s1
  have HS4 := Lib.hid s4
  have HSN := Lib.hid (fun k hk => baseA_snoc was gone turned k hk)
  have HBL := Lib.hid (fun k => baseA_len gone turned (was.take k))
  have HON := Lib.hid (fun k hk => outA_snoc was gone fresh turned k hk)
  have HOP := Lib.hid (fun k => (outA_perm was s1 gone (fresh.take k) turned).2.length_eq)
  have HE6 := Lib.hid (fun h => errA_six (was := was) (gone := gone) (fresh := fresh) (turned := turned) ha h)
  have HE7 := Lib.hid (fun h h' => errA_seven (was := was) (gone := gone) (fresh := fresh) (turned := turned) ha h h')
  have HEE := Lib.hid (fun h h' => errA_end (was := was) (gone := gone) (fresh := fresh) (turned := turned) ha h h')
  have HND := Lib.hid (show noneA was gone turned = ((gone.any fun k => !foundK was k) || (turned.any fun e => !foundK was e.key)) from rfl)
  obtain ⟨n1, hn1⟩ : ∃ n, was.length = n := ⟨_, rfl⟩
  obtain ⟨n2, hn2⟩ : ∃ n, gone.length = n := ⟨_, rfl⟩
  obtain ⟨n3, hn3⟩ : ∃ n, fresh.length = n := ⟨_, rfl⟩
  obtain ⟨n4, hn4⟩ : ∃ n, turned.length = n := ⟨_, rfl⟩
  obtain ⟨z, hz⟩ : ∃ z, errA was gone fresh turned = z := ⟨_, rfl⟩
  have HN1 := Lib.hid hn1
  have HN2 := Lib.hid hn2
  have HN3 := Lib.hid hn3
  have HN4 := Lib.hid hn4
  rw [hn1] at HO1 HAW h1
  rw [hn2] at HRS h2
  rw [hn3] at HO2 h3
  rw [hn4] at HO3 HAT h4
  rw [hz] at HE6 HE7 HEE
  rw [hn1, hn2, hn3, hn4, hz]
  clear hn1 hn2 hn3 hn4 hz r1 r2 r3 r4 s1 s3 s4 o1 o2 o3 o4 ha
  go_enter Try.func26, Try.ntmps26
  go_upto_region 3 with (first | (go_at_call 17; (with_reducible refine (HO1.out _ HB.out).mono ?_); rintro e wx ⟨rfl, hbx⟩; have HB := Lib.hid (bTrans HB.out hbx); clear hbx) | (go_at_call 17; (with_reducible refine (HO2.out _ HB.out).mono ?_); rintro e wx ⟨rfl, hbx⟩; have HB := Lib.hid (bTrans HB.out hbx); clear hbx) | (go_at_call 17; (with_reducible refine (HO3.out _ HB.out).mono ?_); rintro e wx ⟨rfl, hbx⟩; have HB := Lib.hid (bTrans HB.out hbx); clear hbx) | (go_at_call 53; refine (HRS.out _ HB.out).mono ?_; rintro e wx ⟨rfl, hbx⟩; have HB := Lib.hid (bTrans HB.out hbx); clear hbx))
  clear HO1 HRS HO2 HO3
  go_wp2_with fail
  go_loopw [10] (fun v wr => ∃ k : Nat, k ≤ n2 ∧ v = .int .i64 k ∧ Hid ((gone.take k).any (fun k => !foundK was k) = false) ∧ Hid (Below w.heap.size w wr)) (fun v _ => n2 - (intOf v).toNat)
  case atStart => exact ⟨0, Nat.zero_le _, rfl, Lib.hid rfl, HB⟩
  case round =>
    clear HB
    obtain ⟨k, hk, rfl, HA, HB⟩ := hrel
    by_cases hlt : k < n2
    · have hkL : k < gone.length := by rw [HN2.out]; exact hlt
      obtain ⟨b, off, rfl, hbl, x0, x1, x2, x3⟩ := (HR2.out.below HB.out (Nat.le_refl _)).key4 hkL
      have hblw := Nat.lt_of_lt_of_le hbl HB.out.size
      have HAS := Lib.hid (any_snoc (p := fun k => !foundK was k) hkL)
      have HAA := Lib.hid (any_at (p := fun k => !foundK was k) hkL)
      obtain ⟨x, hx⟩ : ∃ x, gone[k] = x := ⟨_, rfl⟩
      rw [hx] at x0 x1 x2 x3 HAS HAA
      have HC := Lib.hid (HAW.out x wr HB.out)
      unfold Key4.val at HC
      clear hx
      cases hf : foundK was x
      · have hneg := atI_neg HS1.out hf
        obtain ⟨rfl, hl⟩ := HE6.out (by rw [HND.out, HAA.out (by rw [hf]; rfl)]; rfl)
        have HLL := Lib.hid hl
        rw [hneg] at HC
        clear hl hneg hf HE6 HE7 HEE
        go_wp2_with (first | (go_at_call 54; refine HC.out.mono ?_; rintro e w1 ⟨rfl, hb1⟩))
        go_ret2
        exact ⟨none, 0, 0, rfl, by rw [HLL.out]; exact OwnL.nil, bTrans HB.out hb1⟩
      · obtain ⟨j, hj, hjz, -⟩ := atI_pos HS1.out hf
        have HNX : Hid ((gone.take (k + 1)).any (fun k => !foundK was k) = false) := Lib.hid (by rw [HAS.out, HA.out, hf]; rfl)
        rw [hjz] at HC
        clear hf hj hjz
        go_wp2_with (first | (go_at_call 54; refine HC.out.mono ?_; rintro e w1 ⟨rfl, hb1⟩))
        go_roundw
        case rel => exact ⟨k + 1, by omega, by go_num, HNX, Lib.hid (bTrans HB.out hb1)⟩
        case measure => simp [intOf]; omega
    · obtain rfl : n2 = k := by omega
      have HG : Hid ((gone.any fun k => !foundK was k) = false) := Lib.hid (by
        have := HA.out
        rwa [List.take_of_length_le (by rw [HN2.out]; exact Nat.le_refl _)] at this)
      clear HA
      go_wp2_with fail
      go_loopw [11] (fun v wr => ∃ k : Nat, k ≤ n4 ∧ v = .int .i64 k ∧ Hid ((turned.take k).any (fun e => !foundK was e.key) = false) ∧ Hid (Below w.heap.size w wr)) (fun v _ => n4 - (intOf v).toNat)
      case atStart => exact ⟨0, Nat.zero_le _, rfl, Lib.hid rfl, HB⟩
      case round =>
        clear HB
        obtain ⟨i, hi, rfl, HA, HB⟩ := hrel
        by_cases hlt : i < n4
        · have hkL : i < turned.length := by rw [HN4.out]; exact hlt
          obtain ⟨b, off, rfl, hbl, x0, x1, x2, x3, -⟩ := (HR4.out.below HB.out (Nat.le_refl _)).ev hkL
          have hblw := Nat.lt_of_lt_of_le hbl HB.out.size
          have HAS := Lib.hid (any_snoc (p := fun e : Ev => !foundK was e.key) hkL)
          have HAA := Lib.hid (any_at (p := fun e : Ev => !foundK was e.key) hkL)
          obtain ⟨x, hx⟩ : ∃ x, turned[i] = x := ⟨_, rfl⟩
          rw [hx] at x0 x1 x2 x3 HAS HAA
          have HC := Lib.hid (HAW.out x.key wr HB.out)
          unfold Key4.val at HC
          clear hx
          cases hf : foundK was x.key
          · have hneg := atI_neg HS1.out hf
            obtain ⟨rfl, hl⟩ := HE6.out (by rw [HND.out, HAA.out (by rw [hf]; rfl)]; simp)
            have HLL := Lib.hid hl
            rw [hneg] at HC
            clear hl hneg hf HE6 HE7 HEE
            go_wp2_with (first | (go_at_call 54; refine HC.out.mono ?_; rintro e w1 ⟨rfl, hb1⟩))
            go_ret2
            exact ⟨none, 0, 0, rfl, by rw [HLL.out]; exact OwnL.nil, bTrans HB.out hb1⟩
          · obtain ⟨j, hj, hjz, -⟩ := atI_pos HS1.out hf
            have HNX : Hid ((turned.take (i + 1)).any (fun e => !foundK was e.key) = false) := Lib.hid (by rw [HAS.out, HA.out, hf]; rfl)
            rw [hjz] at HC
            clear hf hj hjz
            go_wp2_with (first | (go_at_call 54; refine HC.out.mono ?_; rintro e w1 ⟨rfl, hb1⟩))
            go_roundw
            case rel => exact ⟨i + 1, by omega, by go_num, HNX, Lib.hid (bTrans HB.out hb1)⟩
            case measure => simp [intOf]; omega
        · obtain rfl : n4 = i := by omega
          have HT4 : Hid ((turned.any fun e => !foundK was e.key) = false) := Lib.hid (by
            have := HA.out
            rwa [List.take_of_length_le (by rw [HN4.out]; exact Nat.le_refl _)] at this)
          have HNF : Hid (noneA was gone turned = false) := Lib.hid (by rw [HND.out, HG.out, HT4.out]; rfl)
          clear HA HG HT4 HND HE6
          obtain ⟨V0, hV0⟩ : ∃ V, wr = V := ⟨_, rfl⟩
          rw [hV0] at HB ⊢
          clear hV0
          go_upto_region 14 with fail
          obtain ⟨V1, hV1⟩ : ∃ V1, V1 = V0.alloc (.cells #[] 25) := ⟨_, rfl⟩
          have HO0 : Hid (OwnL V1 w.heap.size 25 9 (.slice (some ⟨V0.heap.size, 0, none⟩) 0 0) Ev.cells (baseA (was.take 0) gone turned)) := Lib.hid (by rw [hV1]; exact OwnL.lit (f := Ev.cells) [] #[] HB.out.size (by simp) Ev.cells_length rfl rfl rfl)
          have HB0 : Hid (Below w.heap.size w V1) := Lib.hid (by rw [hV1]; exact bAlloc HB.out _)
          rw [← hV1]
          clear hV1 HB
          go_wp2_with fail
          go_loopw [12, 13] (fun u v wr => ∃ k : Nat, k ≤ n1 ∧ v = .int .i64 k ∧ ∃ A' c' n', u = .slice A' n' c' ∧ Hid (OwnL wr w.heap.size 25 9 (.slice A' n' c') Ev.cells (baseA (was.take k) gone turned)) ∧ Hid (Below w.heap.size w wr)) (fun _ v _ => n1 - (intOf v).toNat)
          case atStart => exact ⟨0, Nat.zero_le _, rfl, _, _, _, rfl, HO0, HB0⟩
          case round =>
            clear HO0 HB0
            obtain ⟨q, hq, rfl, A', c', n', rfl, HO, HB⟩ := hrel
            have hn' := HO.out.len
            have hbl := HBL.out q
            rw [List.length_take] at hbl
            by_cases hlq : q < n1
            · have hkL : q < was.length := by rw [HN1.out]; exact hlq
              have HST := Lib.hid (HSN.out q hkL)
              obtain ⟨x, hx⟩ : ∃ x, was[q] = x := ⟨_, rfl⟩
              rw [hx] at HST
              have HX := Lib.hid hx
              obtain ⟨M, hM⟩ : ∃ M, baseA (was.take q) gone turned = M := ⟨_, rfl⟩
              rw [hM] at HO HST hn' hbl
              obtain ⟨V, hV⟩ : ∃ V, wr = V := ⟨_, rfl⟩
              rw [hV] at HO HB ⊢
              have hml : M.length ≤ 100 := by omega
              clear hx hM hn' hV hbl
              go_wp2_with fail
              go_loopw [14, 15] (fun a v wr => ∃ j : Nat, j ≤ n2 ∧ v = .int .i64 j ∧ a = .bool (decide (x.key ∈ gone.take j)) ∧ Hid (Below V.heap.size V wr)) (fun _ v _ => n2 - (intOf v).toNat)
              case atStart => exact ⟨0, Nat.zero_le _, rfl, by simp, Lib.hid (Below.refl _ _)⟩
              case round =>
                obtain ⟨j, hj, rfl, rfl, HQ⟩ := hrel
                have HBQ := Lib.hid (bTrans HB.out HQ.out)
                by_cases hlj : j < n2
                · have hjL : j < gone.length := by rw [HN2.out]; exact hlj
                  have HMS := Lib.hid (mem_snoc (key := x.key) hjL)
                  by_cases hin : x.key ∈ gone.take j
                  · rw [decide_eq_true hin]
                    have HNX : Hid (decide (x.key ∈ gone.take (j + 1)) = true) := Lib.hid (by rw [HMS.out, decide_eq_true hin]; rfl)
                    clear hin HMS
                    go_wp2_with fail
                    refine wp_region_mild (by kernel_rfl) (by kernel_rfl) ?_
                    repeat (go_big_quiet_step (fail))
                    refine wpQuiet_nil ?_
                    intro w1 hw'
                    obtain ⟨⟨wq, k1⟩, hw''⟩ := hw'
                    subst hw''
                    go_wp2
                    go_roundw
                    case rel => exact ⟨j + 1, by omega, by go_num, by rw [HNX.out], Lib.hid (bTrans HQ.out k1)⟩
                    case measure => simp [intOf]; omega
                  · obtain ⟨b, off, rfl, hbl, g0, g1, g2, g3⟩ := (HR2.out.below HBQ.out (Nat.le_refl _)).key4 hjL
                    obtain ⟨b2, off2, rfl, hbl2, x0, x1, x2, x3, -⟩ := (HR1.out.below HBQ.out (Nat.le_refl _)).ev hkL
                    have hblw := Nat.lt_of_lt_of_le hbl HBQ.out.size
                    have hblw2 := Nat.lt_of_lt_of_le hbl2 HBQ.out.size
                    obtain ⟨y, hy⟩ : ∃ y, gone[j] = y := ⟨_, rfl⟩
                    rw [hy] at g0 g1 g2 g3 HMS
                    rw [HX.out] at x0 x1 x2 x3
                    rw [decide_eq_false hin] at HMS ⊢
                    obtain ⟨e, he⟩ : ∃ e, decide (y = x.key) = e := ⟨_, rfl⟩
                    rw [he] at HMS
                    have HDX := Lib.hid he
                    clear hin hy he
                    go_wp2_with fail
                    refine wp_region_mild (by kernel_rfl) (by kernel_rfl) ?_
                    repeat (go_big_quiet_step (fail))
                    refine wpQuiet_runs_mild (.bool e) rfl (fun W => by rw [← HDX.out]; exact runs_eql rfl rfl rfl (by kernel_rfl) (key_eql _ _) W) ?_
                    simp only [Act.put, List.setIfInBounds_toArray, List.set_cons_zero, List.set_cons_succ]
                    repeat (go_big_quiet_step (fail))
                    refine wpQuiet_nil ?_
                    intro w1 hw'
                    obtain ⟨⟨wq, k1⟩, hw''⟩ := hw'
                    subst hw''
                    go_wp2
                    go_roundw
                    case rel => exact ⟨j + 1, by omega, by go_num, by rw [HMS.out]; rfl, Lib.hid (bTrans HQ.out k1)⟩
                    case measure => simp [intOf]; omega
                · obtain rfl : j = n2 := by omega
                  rw [List.take_of_length_le (by rw [HN2.out]; exact Nat.le_refl _)]
                  obtain ⟨b2, off2, rfl, hbl2, x0, x1, x2, x3, x4, x5, x6, x7, x8⟩ := (HR1.out.below HBQ.out (Nat.le_refl _)).ev hkL
                  have hblw2 := Nat.lt_of_lt_of_le hbl2 HBQ.out.size
                  rw [HX.out] at x0 x1 x2 x3 x4 x5 x6 x7 x8
                  have HC := Lib.hid (HAT.out x.key wr HBQ.out)
                  unfold Key4.val at HC
                  have HOQ := Lib.hid (HO.out.below HQ.out)
                  cases hf : foundK turned x.key
                  · have hneg := atI_neg HS4.out hf
                    rw [hneg] at HC
                    by_cases hin : x.key ∈ gone
                    · rw [decide_eq_true hin]
                      have HNX : Hid (baseA (was.take (q + 1)) gone turned = M) := Lib.hid (by rw [HST.out]; unfold stepA; rw [if_pos hin, List.append_nil])
                      clear hin hf hneg
                      go_wp2_with (first | (go_at_call 54; refine HC.out.mono ?_; rintro e w1 ⟨rfl, hb1⟩))
                      go_roundw
                      case rel => exact ⟨q + 1, by omega, by go_num, A', c', n', rfl, Lib.hid (by rw [HNX.out]; exact HOQ.out.below hb1), Lib.hid (bTrans HBQ.out hb1)⟩
                      case measure => simp [intOf]; omega
                    · rw [decide_eq_false hin]
                      have HNX : Hid (baseA (was.take (q + 1)) gone turned = M ++ [x]) := Lib.hid (by rw [HST.out]; unfold stepA; rw [if_neg hin, hf, if_neg (by decide)])
                      clear hin hf hneg
                      go_upto_region 23 with (first | (go_at_call 54; refine HC.out.mono ?_; rintro e w1 ⟨rfl, hb1⟩; have HB1 := Lib.hid (bTrans HBQ.out hb1); have HO1 := Lib.hid (HOQ.out.below hb1); clear hb1))
                      clear x0 x1 x2 x3 x4 x5 x6 x7 x8 hblw2
                      obtain ⟨b3, off3, hA3, hbl3, x0, x1, x2, x3, x4, x5, x6, x7, x8⟩ := (HR1.out.below HB1.out (Nat.le_refl _)).ev hkL
                      simp only [Option.some.injEq, Addr.mk.injEq, and_true] at hA3
                      obtain ⟨rfl, rfl⟩ := hA3
                      have hblw2 := Nat.lt_of_lt_of_le hbl3 HB1.out.size
                      rw [HX.out] at x0 x1 x2 x3 x4 x5 x6 x7 x8
                      have hgw := HB1.out.size
                      go_wp2_with (first | (at_builtin; refine wpList_app_ev rfl (.tmp 111) (.tmp 116) rfl w.heap.size _ M [x] (HO1.out.alloc _) rfl _ _ 1 1 rfl rfl (rd_ev1 _ x) (by simp only [List.length_cons, List.length_nil]; omega) (by simp; omega) ?_; intro A6 c6 n6 w6 hn6 ho6 hg6))
                      have HO6 : Hid (OwnL w6 w.heap.size 25 9 (.slice A6 n6 c6) Ev.cells (baseA (was.take (q + 1)) gone turned)) := Lib.hid (by rw [HNX.out]; exact ho6)
                      have HB6 := Lib.hid (Below.grown (bAlloc HB1.out _) hg6 (by simp; omega) HO1.out.base_le)
                      clear ho6 hg6
                      go_wp2
                      go_roundw
                      case rel => exact ⟨q + 1, by omega, by go_num, A6, c6, n6, rfl, HO6, HB6⟩
                      case measure => simp [intOf]; omega
                  · obtain ⟨i, hi, hiz, hie⟩ := atI_pos HS4.out hf
                    rw [hiz] at HC
                    by_cases hin : x.key ∈ gone
                    · rw [decide_eq_true hin]
                      have HNX : Hid (baseA (was.take (q + 1)) gone turned = M) := Lib.hid (by rw [HST.out]; unfold stepA; rw [if_pos hin, List.append_nil])
                      clear hin hf hi hiz hie
                      go_wp2_with (first | (go_at_call 54; refine HC.out.mono ?_; rintro e w1 ⟨rfl, hb1⟩))
                      go_roundw
                      case rel => exact ⟨q + 1, by omega, by go_num, A', c', n', rfl, Lib.hid (by rw [HNX.out]; exact HOQ.out.below hb1), Lib.hid (bTrans HBQ.out hb1)⟩
                      case measure => simp [intOf]; omega
                    · rw [decide_eq_false hin]
                      obtain ⟨y, hy⟩ : ∃ y, findE turned x.key = y := ⟨_, rfl⟩
                      rw [hy] at hie
                      have HNX : Hid (baseA (was.take (q + 1)) gone turned = M ++ [y]) := Lib.hid (by rw [HST.out]; unfold stepA; rw [if_neg hin, hf, if_pos rfl, hy])
                      have HIE := Lib.hid hie
                      have hi4 : i < n4 := by rw [← HN4.out]; exact hi
                      clear hin hf hiz hie hy
                      go_upto_region 23 with (first | (go_at_call 54; refine HC.out.mono ?_; rintro e w1 ⟨rfl, hb1⟩; have HB1 := Lib.hid (bTrans HBQ.out hb1); have HO1 := Lib.hid (HOQ.out.below hb1); clear hb1))
                      clear x0 x1 x2 x3 x4 x5 x6 x7 x8 hblw2
                      obtain ⟨b3, off3, rfl, hbl3, x0, x1, x2, x3, x4, x5, x6, x7, x8⟩ := (HR4.out.below HB1.out (Nat.le_refl _)).ev hi
                      have hblw2 := Nat.lt_of_lt_of_le hbl3 HB1.out.size
                      rw [HIE.out] at x0 x1 x2 x3 x4 x5 x6 x7 x8
                      have hgw := HB1.out.size
                      go_wp2_with (first | (at_builtin; refine wpList_app_ev rfl (.tmp 102) (.tmp 107) rfl w.heap.size _ M [y] (HO1.out.alloc _) rfl _ _ 1 1 rfl rfl (rd_ev1 _ y) (by simp only [List.length_cons, List.length_nil]; omega) (by simp; omega) ?_; intro A6 c6 n6 w6 hn6 ho6 hg6))
                      have HO6 : Hid (OwnL w6 w.heap.size 25 9 (.slice A6 n6 c6) Ev.cells (baseA (was.take (q + 1)) gone turned)) := Lib.hid (by rw [HNX.out]; exact ho6)
                      have HB6 := Lib.hid (Below.grown (bAlloc HB1.out _) hg6 (by simp; omega) HO1.out.base_le)
                      clear ho6 hg6
                      go_wp2
                      go_roundw
                      case rel => exact ⟨q + 1, by omega, by go_num, A6, c6, n6, rfl, HO6, HB6⟩
                      case measure => simp [intOf]; omega
            · obtain rfl : q = n1 := by omega
              rw [List.take_of_length_le (by rw [HN1.out]; exact Nat.le_refl _)] at HO
              clear hn' hbl
              have HO0 : Hid (OwnL wr w.heap.size 25 9 (.slice A' n' c') Ev.cells (outA was gone (fresh.take 0) turned)) := HO
              clear HO
              go_wp2_with fail
              go_loopw [12, 17] (fun u v wr => ∃ k : Nat, k ≤ n3 ∧ v = .int .i64 k ∧ Hid ((fresh.take k).any (fun e => foundK was e.key) = false) ∧ ∃ A' c' n', u = .slice A' n' c' ∧ Hid (OwnL wr w.heap.size 25 9 (.slice A' n' c') Ev.cells (outA was gone (fresh.take k) turned)) ∧ Hid (Below w.heap.size w wr)) (fun _ v _ => n3 - (intOf v).toNat)
              case atStart => exact ⟨0, Nat.zero_le _, rfl, Lib.hid rfl, _, _, _, rfl, HO0, HB⟩
              case round =>
                clear HO0 HB
                obtain ⟨i, hi, rfl, HA, A', c', n', rfl, HO, HB⟩ := hrel
                have hn' := HO.out.len
                have hop := HOP.out i
                rw [List.length_append, List.length_take] at hop
                have hbl := HBL.out q
                rw [List.take_of_length_le (by rw [HN1.out]; exact Nat.le_refl _), HN1.out] at hbl
                by_cases hli : i < n3
                · have hkL : i < fresh.length := by rw [HN3.out]; exact hli
                  obtain ⟨b, off, rfl, hbl', x0, x1, x2, x3, x4, x5, x6, x7, x8⟩ := (HR3.out.below HB.out (Nat.le_refl _)).ev hkL
                  have hblw := Nat.lt_of_lt_of_le hbl' HB.out.size
                  have HAS := Lib.hid (any_snoc (p := fun e : Ev => foundK was e.key) hkL)
                  have HAA := Lib.hid (any_at (p := fun e : Ev => foundK was e.key) hkL)
                  have HSO := Lib.hid (HON.out i hkL)
                  obtain ⟨x, hx⟩ : ∃ x, fresh[i] = x := ⟨_, rfl⟩
                  rw [hx] at x0 x1 x2 x3 x4 x5 x6 x7 x8 HAS HAA HSO
                  have HC := Lib.hid (HAW.out x.key wr HB.out)
                  unfold Key4.val at HC
                  obtain ⟨M, hM⟩ : ∃ M, outA was gone (fresh.take i) turned = M := ⟨_, rfl⟩
                  rw [hM] at HO HSO hn' hop
                  have hml : M.length ≤ 1000 := by omega
                  have HX := Lib.hid hx
                  clear hx hM hop hbl
                  cases hf : foundK was x.key
                  · have hneg := atI_neg HS1.out hf
                    have HNX : Hid ((fresh.take (i + 1)).any (fun e => foundK was e.key) = false) := Lib.hid (by rw [HAS.out, HA.out, hf]; rfl)
                    rw [hneg] at HC
                    subst hn'
                    clear hf hneg
                    go_upto_region 32 with (first | (go_at_call 54; refine HC.out.mono ?_; rintro e w1 ⟨rfl, hb1⟩; have HB1 := Lib.hid (bTrans HB.out hb1); have HO1 := Lib.hid (HO.out.below hb1); clear hb1))
                    clear x0 x1 x2 x3 x4 x5 x6 x7 x8 hblw
                    obtain ⟨b3, off3, hA3, hbl3, x0, x1, x2, x3, x4, x5, x6, x7, x8⟩ := (HR3.out.below HB1.out (Nat.le_refl _)).ev hkL
                    simp only [Option.some.injEq, Addr.mk.injEq, and_true] at hA3
                    obtain ⟨rfl, rfl⟩ := hA3
                    have hblw := Nat.lt_of_lt_of_le hbl3 HB1.out.size
                    rw [HX.out] at x0 x1 x2 x3 x4 x5 x6 x7 x8
                    have HPU := Lib.hid (r11Put_any A' c' M x w1 (by omega) HO1.out.rd)
                    unfold Ev.val at HPU
                    go_wp2_with (first | (go_at_call 36; refine HPU.out.mono ?_; rintro e w2 ⟨A6, c6, n6, rfl, ho6, hb6⟩))
                    have HO6 : Hid (OwnL w2 w.heap.size 25 9 (.slice A6 n6 c6) Ev.cells (outA was gone (fresh.take (i + 1)) turned)) := Lib.hid (by rw [HSO.out]; exact ho6.more HB1.out.size)
                    clear ho6
                    go_roundw
                    case rel => exact ⟨i + 1, by omega, by go_num, HNX, A6, c6, n6, rfl, HO6, Lib.hid (bTrans HB1.out hb6)⟩
                    case measure => simp [intOf]; omega
                  · obtain ⟨j, hj, hjz, -⟩ := atI_pos HS1.out hf
                    obtain ⟨rfl, hl⟩ := HE7.out HNF.out (HAA.out hf)
                    have HLL := Lib.hid hl
                    rw [hjz] at HC
                    clear hf hj hjz hl hn' HEE HE7
                    go_wp2_with (first | (go_at_call 54; refine HC.out.mono ?_; rintro e w1 ⟨rfl, hb1⟩))
                    go_ret2
                    exact ⟨none, 0, 0, rfl, by rw [HLL.out]; exact OwnL.nil, bTrans HB.out hb1⟩
                · obtain rfl : i = n3 := by omega
                  have HTF : Hid (thereA was fresh = false) := Lib.hid (by
                    have := HA.out
                    rwa [List.take_of_length_le (by rw [HN3.out]; exact Nat.le_refl _)] at this)
                  rw [List.take_of_length_le (by rw [HN3.out]; exact Nat.le_refl _)] at HO hn'
                  have HLEN : Hid ((baseA was gone turned ++ fresh).length = n') := Lib.hid (by
                    have := HOP.out i
                    rw [List.take_of_length_le (by rw [HN3.out]; exact Nat.le_refl _)] at this
                    rw [← this, hn'])
                  have HED := Lib.hid (HEE.out HNF.out HTF.out)
                  rw [HLEN.out] at HED
                  have hnb : n' ≤ 1000 := by
                    rw [← HLEN.out, List.length_append, HN3.out]
                    omega
                  clear hn' hop hbl HA
                  by_cases h64 : n' ≤ 64
                  · obtain ⟨rfl, hl⟩ := HED.out.1 h64
                    have HLL := Lib.hid hl
                    clear hl HED HEE HE7
                    go_wp2
                    go_ret2
                    exact ⟨A', c', n', rfl, by rw [HLL.out]; exact HO.out, HB.out⟩
                  · obtain ⟨rfl, hl⟩ := HED.out.2 h64
                    have HLL := Lib.hid hl
                    clear hl HED HEE HE7
                    go_wp2
                    go_ret2
                    exact ⟨none, 0, 0, rfl, by rw [HLL.out]; exact OwnL.nil, HB.out⟩
theorem rapply_any (h1 : was.length ≤ 100) (h2 : gone.length ≤ 100) (h3 : fresh.length ≤ 100) (h4 : turned.length ≤ 100)
    (r1 : Rd w w.heap.size A1 (was.flatMap Ev.cells)) (r2 : Rd w w.heap.size A2 (gone.flatMap Key4.cells)) (r3 : Rd w w.heap.size A3 (fresh.flatMap Ev.cells)) (r4 : Rd w w.heap.size A4 (turned.flatMap Ev.cells)) :
    Calls Try.prog 26 #[.slice A1 was.length c1, .slice A2 gone.length c2, .slice A3 fresh.length c3, .slice A4 turned.length c4] w fun e w' =>
      ∃ A' c' n', e = .returned (.tuple #[.slice A' n' c', .int .i64 (errA was gone fresh turned)]) ∧ OwnL w' w.heap.size 25 9 (.slice A' n' c') Ev.cells (resA was gone fresh turned) ∧ Below w.heap.size w w' := by
  cases ha : argA was gone fresh turned
  · obtain ⟨e1, e2⟩ := errA_one ha
    rw [e1, e2]
    refine (rapply_bad h1 h2 h3 h4 r1 r2 r3 r4 ha).mono ?_
    rintro e w' ⟨rfl, hb⟩
    exact ⟨none, 0, 0, rfl, OwnL.nil, hb⟩
  · exact rapply_good h1 h2 h3 h4 r1 r2 r3 r4 ha
end
end Go.Proofs.Ytdjfpdndaobohaa
