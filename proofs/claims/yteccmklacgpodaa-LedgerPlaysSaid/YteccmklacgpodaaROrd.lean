/-
  The document's Ordered is the program's.
-/
import Derived.Test.YteccmklacgpodaaR11a
import Derived.Test.YteccmklacgpodaaOrd
import Derived.Test.YteccmklacgpodaaSame
import Derived.Test.YteccmklacgpodaaMildL
namespace Go.Proofs.Yteccmklacgpodaa
open Go.RowKit
set_option maxRecDepth 100000
set_option linter.unusedSimpArgs false
def bodyB (L : List Ev) : Bool := L.all evOk && risingF key0 (L.map Ev.key)
theorem lastF_take (L : List Ev) (k : Nat) (hk : k < L.length) : lastF key0 ((L.take (k + 1)).map Ev.key) = L[k].key := by
  rw [List.take_succ_eq_append_getElem hk, List.map_append]
  exact lastF_snoc _ _ _
theorem key0_lt {x : Key4} (h : keyOk x = true) : cmpK key0 x < 0 := by
  rw [cmpK_neg]
  left
  unfold keyOk at h
  simp only [Bool.and_eq_true, inB, decide_eq_true_eq] at h
  show (-1 : Int) < x.frame
  omega
theorem evOk_key {x : Ev} (h : evOk x = true) : keyOk x.key = true := by
  unfold evOk at h
  simp only [Bool.and_eq_true] at h
  exact h.1.1.1.1.1
theorem bodyB_bad (L : List Ev) (k : Nat) (hk : k < L.length) (h : evOk L[k] = false) : bodyB L = false := by
  unfold bodyB
  have : L.all evOk = false := by
    rw [← Bool.not_eq_true, List.all_eq_true]
    intro h'
    have := h' L[k] (List.getElem_mem hk)
    rw [h] at this
    cases this
  rw [this]; rfl
theorem bodyB_first (L : List Ev) (hk : 0 < L.length) (h : evOk L[0] = true) : bodyB (L.take 1) = true := by
  unfold bodyB
  rw [List.take_succ_eq_append_getElem hk]
  simp only [List.take_zero, List.nil_append, List.all_cons, List.all_nil, h, Bool.and_true, List.map_cons, List.map_nil, Bool.true_and]
  unfold risingF
  rw [evOk_key h, decide_eq_true (key0_lt (evOk_key h))]
  rfl
theorem bodyB_next (L : List Ev) (k : Nat) (hk : k + 1 < L.length) (hp : bodyB (L.take (k + 1)) = true) (h : evOk L[k + 1] = true) : bodyB (L.take (k + 2)) = decide (cmpK L[k].key L[k + 1].key < 0) := by
  unfold bodyB at hp ⊢
  rw [Bool.and_eq_true] at hp
  rw [List.take_succ_eq_append_getElem hk, List.all_append, List.map_append, hp.1]
  show (true && (evOk L[k + 1] && true) && risingF key0 ((L.take (k + 1)).map Ev.key ++ [L[k + 1].key])) = _
  rw [risingF_snoc, hp.2, lastF_take L k (by omega), h, evOk_key h]
  simp
theorem bodyB_take (L : List Ev) (k : Nat) (h : bodyB (L.take k) = false) : bodyB L = false := by
  unfold bodyB at h ⊢
  rw [Bool.and_eq_false_iff] at h ⊢
  rcases h with h | h
  · left
    rw [← Bool.not_eq_true, List.all_eq_true] at h ⊢
    exact fun h' => h fun x hx => h' x (List.mem_of_mem_take hx)
  · right
    rw [List.map_take] at h
    exact risingF_take _ _ _ h
set_option maxHeartbeats 4000000 in
theorem rordered_any (A : Option Addr) (c : Nat) (L : List Ev) (hL : L.length ≤ 1000) (w : World) (hr : Rd w w.heap.size A (L.flatMap Ev.cells)) :
    Calls Try.prog 51 #[.slice A L.length c] w fun e w' => e = .returned (.bool (orderedB L)) ∧ Below w.heap.size w w' := by
  obtain ⟨n, hn⟩ : ∃ n, L.length = n := ⟨_, rfl⟩
  have HOB := Lib.hid (show orderedB L = (decide (L.length ≤ 64) && bodyB L) from rfl)
  rw [hn] at HOB
  rw [hn] at hL ⊢
  have HN := Lib.hid hn
  have HR := Lib.hid hr
  clear hr hn
  go_enter Try.func51, Try.ntmps51
  go_wp2_with fail
  go_loopw [3] (fun v wr => ∃ k : Nat, k ≤ n ∧ v = .int .i64 k ∧ Hid (bodyB (L.take k) = true) ∧ Below w.heap.size w wr) (fun v _ => n - (intOf v).toNat)
  case atStart => exact ⟨0, Nat.zero_le _, rfl, Lib.hid (by simp [bodyB, risingF]), Below.refl _ _⟩
  case round =>
    obtain ⟨k, hk, rfl, HB, hb⟩ := hrel
    by_cases hlt : k < n
    · have hkL : k < L.length := by rw [HN.out]; exact hlt
      obtain ⟨b, off, rfl, hbl, hrg⟩ := (HR.out.below hb (Nat.le_refl _)).evr hkL
      have x0 := hrg 0 _ rfl
      have x1 := hrg 1 _ rfl
      have x2 := hrg 2 _ rfl
      have x3 := hrg 3 _ rfl
      rw [Nat.add_zero] at x0
      have hblw := Nat.lt_of_lt_of_le hbl hb.size
      obtain ⟨x, hx⟩ : ∃ x, L[k] = x := ⟨_, rfl⟩
      have HBAD := Lib.hid (bodyB_bad L k hkL)
      rw [hx] at hrg x0 x1 x2 x3 HBAD
      have HX := Lib.hid hx
      have HRI := Lib.hid (fun W => r11Right_any x W)
      unfold Ev.val at HRI
      clear hx
      cases hok : evOk x
      · have HF : Hid (orderedB L = false) := Lib.hid (by rw [HOB.out, HBAD.out hok, Bool.and_false])
        rw [hok] at HRI
        clear hok HBAD
        go_wp2_with fail
        refine wp_region_mild (by kernel_rfl) (by kernel_rfl) ?_
        repeat (go_big_quiet_step (fail))
        refine wpQuiet_load_mild rfl 43 (.tmp 12) rfl b (off + k * 9) rfl x.cells _ hblw hrg Try.underlying43 rfl (by kernel_rfl) ?_
        simp only [Act.put, List.setIfInBounds_toArray, List.set_cons_zero, List.set_cons_succ]
        repeat (go_big_quiet_step ((go_at_call 65; exact mild_of (HRI.out _))))
        refine wpQuiet_nil ?_
        intro w1 hw'
        obtain ⟨⟨wq, k1⟩, hw''⟩ := hw'
        subst hw''
        go_wp2
        go_ret
        exact ⟨ret_bool HF.out.symm, bTrans hb k1⟩
      · rw [hok] at HRI
        rcases k with _ | k
        · have HNX : Hid (bodyB (L.take (0 + 1)) = true) := Lib.hid (bodyB_first L hkL (by rw [HX.out]; exact hok))
          clear hok HBAD
          go_wp2_with fail
          refine wp_region_mild (by kernel_rfl) (by kernel_rfl) ?_
          repeat (go_big_quiet_step (fail))
          refine wpQuiet_load_mild rfl 43 (.tmp 12) rfl b (off + 0 * 9) rfl x.cells _ hblw hrg Try.underlying43 rfl (by kernel_rfl) ?_
          simp only [Act.put, List.setIfInBounds_toArray, List.set_cons_zero, List.set_cons_succ]
          repeat (go_big_quiet_step ((go_at_call 65; exact mild_of (HRI.out _))))
          refine wpQuiet_nil ?_
          intro w1 hw'
          obtain ⟨⟨wq, k1⟩, hw''⟩ := hw'
          subst hw''
          go_wp2
          go_roundw
          case rel => exact ⟨0 + 1, by omega, by go_num, HNX, bTrans hb k1⟩
          case measure => simp [intOf]; omega
        · have hstep := bodyB_next L k (by rw [HN.out]; exact hlt) HB.out (by rw [HX.out]; exact hok)
          obtain ⟨b', off', hA', hbl', y0, y1, y2, y3, -⟩ := (HR.out.below hb (Nat.le_refl _)).ev (k := k) (by rw [HN.out]; omega)
          simp only [Option.some.injEq, Addr.mk.injEq, and_true] at hA'
          obtain ⟨rfl, rfl⟩ := hA'
          obtain ⟨y, hy⟩ : ∃ y, L[k]'(by rw [HN.out]; omega) = y := ⟨_, rfl⟩
          rw [hy] at y0 y1 y2 y3 hstep
          rw [HX.out] at hstep
          have HCM := Lib.hid (fun W => r11Compare_any y.key x.key W)
          unfold Key4.val at HCM
          have hbd := cmpK_bd y.key x.key
          obtain ⟨q, hq⟩ : ∃ q, cmpK y.key x.key = q := ⟨_, rfl⟩
          rw [hq] at HCM hstep hbd
          have hsub : ((k : Int) + 1 - 1) = k := by omega
          have HST := Lib.hid hstep
          clear hok HBAD hy hq hstep
          by_cases hc : q < 0
          · have hd : decide (0 ≤ q) = false := decide_eq_false (by omega)
            have HNX : Hid (bodyB (L.take (k + 1 + 1)) = true) := Lib.hid (by rw [HST.out, decide_eq_true hc])
            clear hc
            go_wp2_with fail
            refine wp_region_mild (by kernel_rfl) (by kernel_rfl) ?_
            repeat (go_big_quiet_step (fail))
            refine wpQuiet_load_mild rfl 43 (.tmp 12) rfl b (off + (k + 1) * 9) rfl x.cells _ hblw hrg Try.underlying43 rfl (by kernel_rfl) ?_
            simp only [Act.put, List.setIfInBounds_toArray, List.set_cons_zero, List.set_cons_succ]
            repeat (go_big_quiet_step ((first | (go_at_call 65; exact mild_of (HRI.out _)) | (go_at_call 66; exact mild_of (HCM.out _)))))
            refine wpQuiet_nil ?_
            intro w1 hw'
            obtain ⟨⟨wq, k1⟩, hw''⟩ := hw'
            subst hw''
            go_wp2
            go_roundw
            case rel => exact ⟨k + 1 + 1, by omega, by go_num, HNX, bTrans hb k1⟩
            case measure => simp [intOf]; omega
          · have hd : decide (0 ≤ q) = true := decide_eq_true (by omega)
            have HF : Hid (orderedB L = false) := Lib.hid (by rw [HOB.out, bodyB_take L (k + 2) (by rw [HST.out, decide_eq_false hc]), Bool.and_false])
            clear hc
            go_wp2_with fail
            refine wp_region_mild (by kernel_rfl) (by kernel_rfl) ?_
            repeat (go_big_quiet_step (fail))
            refine wpQuiet_load_mild rfl 43 (.tmp 12) rfl b (off + (k + 1) * 9) rfl x.cells _ hblw hrg Try.underlying43 rfl (by kernel_rfl) ?_
            simp only [Act.put, List.setIfInBounds_toArray, List.set_cons_zero, List.set_cons_succ]
            repeat (go_big_quiet_step ((first | (go_at_call 65; exact mild_of (HRI.out _)) | (go_at_call 66; exact mild_of (HCM.out _)))))
            refine wpQuiet_nil ?_
            intro w1 hw'
            obtain ⟨⟨wq, k1⟩, hw''⟩ := hw'
            subst hw''
            go_wp2
            go_ret
            exact ⟨ret_bool HF.out.symm, bTrans hb k1⟩
    · obtain rfl : k = n := by omega
      have HT := HB.out
      rw [List.take_of_length_le (by rw [HN.out]; exact Nat.le_refl _)] at HT
      rw [HT, Bool.and_true] at HOB
      clear HT
      by_cases h64 : k ≤ 64
      · rw [decide_eq_true h64] at HOB
        go_wp2
        go_ret
        exact ⟨ret_bool (by rw [HOB.out]; simp; omega), hb⟩
      · rw [decide_eq_false h64] at HOB
        go_wp2
        go_ret
        exact ⟨ret_bool (by rw [HOB.out]; simp; omega), hb⟩
end Go.Proofs.Yteccmklacgpodaa
