/-
  The walk of the reference's Rounds.
-/
import Derived.Test.YtfcllbhkimjhkaaSeriesThr
namespace Go.Proofs.Ytfcllbhkimjhkaa
open Go.RowKit

theorem Try.infoRRound : (Try.prog.info? 38).map (fun i => (i.zero, i.size, i.bytes)) = some (some (.agg #[.int .i64 0, .int .i64 0, .int .i64 0, .int .i64 0]), 4, 32) := by kernel_rfl
theorem kills_at (A : Option Addr) (n c : Nat) (l : List Ev) (who : Int) (w : World) (hl : l.length = n) (hn : l.length ≤ 1000) (hr : Rd w w.heap.size A (l.flatMap Ev.cells)) (h0 : 0 ≤ who) (h1 : who ≤ 1) :
    Calls Try.prog 9 #[.slice A n c, .int .i64 who] w fun e w' => e = .returned (.int .i64 (killsOf l who)) ∧ w' = w := by
  subst hl
  exact (kills_any A c l who w hn hr h0 h1).mono fun _ _ ⟨a, b⟩ => ⟨a, b.symm⟩

/-- What is handed out behind the last round. -/
def restOf (l : List Ev) (k : Nat) : List Ev := (l.take l.length).drop k

set_option maxRecDepth 100000 in
set_option maxHeartbeats 1600000 in
theorem refRounds_any (A : Option Addr) (c : Nat) (l : List Ev) (w : World) (hn : l.length ≤ 1000) (hc : l.length ≤ c) (hcm : c ≤ maxLen) (hr : Rd w w.heap.size A (l.flatMap Ev.cells)) :
    Calls Try.prog 8 #[.slice A l.length c] w fun e w' => ∃ A' cp A2 n2 c2, ∃ rest : List Ev, e = .returned (.tuple #[.slice A' (thr l).out.length cp, .slice A2 n2 c2]) ∧
      OwnL w' w.heap.size 38 4 (.slice A' (thr l).out.length cp) Rnd.cells (thr l).out ∧ Below w.heap.size w w' ∧ rest.length = n2 ∧ n2 ≤ 1000 ∧ Rd w' w.heap.size A2 (rest.flatMap Ev.cells) ∧ killsOf rest 0 = (thr l).a ∧ killsOf rest 1 = (thr l).b := by
  unfold maxLen at hcm
  have HR := Lib.hid hr
  have HT := Lib.hid (thr_bd l)
  have HF := Lib.hid (fromOf_kills l)
  clear hr
  obtain ⟨i0, hi0, hz0, hz1, hz2⟩ := info_parts Try.infoRRound
  go_enter Try.func8, Try.ntmps8
  go_wp2
  go_loopw [4, 5, 6] (fun v fm i wr => ∃ k : Nat, k ≤ l.length ∧ i = .int .i64 k ∧ fm = .int .i64 (fromOf l k) ∧ ∃ A' cp, v = .slice A' (thr (l.take k)).out.length cp ∧ OwnL wr w.heap.size 38 4 (.slice A' (thr (l.take k)).out.length cp) Rnd.cells (thr (l.take k)).out ∧ Below w.heap.size w wr) (fun _ _ i _ => l.length - (intOf i).toNat)
  case atStart => exact ⟨0, Nat.zero_le _, rfl, rfl, some ⟨w.heap.size, 0, none⟩, 0, by simp [thr], by simpa [thr] using OwnL.lit (f := Rnd.cells) [] #[] (Nat.le_refl _) (by simp) Rnd.cells_length rfl rfl rfl, bAlloc (Below.refl _ _) _⟩
  case round =>
    obtain ⟨k, hk, rfl, rfl, A', cp, rfl, hown, hb⟩ := hrel
    have hfl := fromOf_le l k
    have HO := Lib.hid hown
    clear hown
    obtain ⟨t1, t2, t3, t4, t5, t6⟩ := HT.out k hk
    clear t6
    by_cases hlt : k < l.length
    · obtain ⟨b, off, rfl, hB, h0, h1, h2, -, -, -, -, -, -⟩ := (HR.out.below hb (Nat.le_refl _)).ev hlt
      have hst := thr_take l k hlt
      have HS := Lib.hid hst
      have hfs : fromOf l (k + 1) = if l[k].kind = 7 then k + 1 else fromOf l k := by rw [fromOf, List.getElem?_eq_getElem hlt]
      have HFS := Lib.hid hfs
      have hrs := (HR.out.below hb (Nat.le_refl _)).more hb.size |>.sub Ev.cells_length hfl (by omega)
      have hsl : ((l.take k).drop (fromOf l k)).length = k - fromOf l k := by rw [List.length_drop, List.length_take]; omega
      have HRS := Lib.hid hrs
      have HSL := Lib.hid hsl
      clear hst hfs hrs hsl
      by_cases h7 : (l[k].kind == 7) = true
      · have h7' : (l[k].kind != 7) = false := by simpa using h7
        go_wp2
        have q1 : (0 : Int) ≤ (fromOf l k : Int) := Int.natCast_nonneg _
        have q2 : (fromOf l k : Int) ≤ (k : Int) := by omega
        have q3 : (k : Int) ≤ (c : Int) := by omega
        have q4 : ¬ c = fromOf l k := by omega
        go_quiet ((go_at_call 9; exact Calls.quiet_of_same (kills_at _ _ _ _ _ _ HSL.out (by rw [HSL.out]; omega) HRS.out (by omega) (by omega))))
        obtain ⟨hfa, hfb⟩ := HF.out k hk
        rw [← hfa, ← hfb]
        clear hfa hfb
        obtain ⟨ta, hta⟩ : ∃ ta, (thr (l.take k)).a = ta := ⟨_, rfl⟩
        obtain ⟨tb, htb⟩ : ∃ tb, (thr (l.take k)).b = tb := ⟨_, rfl⟩
        obtain ⟨to, hto⟩ : ∃ to, (thr (l.take k)).out = to := ⟨_, rfl⟩
        rw [hta] at t1 t2 ⊢
        rw [htb] at t3 t4 ⊢
        rw [hto] at t5 HO ⊢
        have HTA := Lib.hid hta
        have HTB := Lib.hid htb
        have HTO := Lib.hid hto
        clear hta htb hto q1 q2 q3 q4
        rcases Int.lt_trichotomy ta tb with hab | hab | hab
        · have hab2 : ¬ tb < ta := by omega
          have hwin : winOf ta tb = 1 := by unfold winOf; rw [if_neg hab2, if_pos hab]
          have HWN := Lib.hid hwin
          clear hwin
          go_wp2_with (at_builtin; refine wpList_append_own _ rfl (.tmp 40) (.tmp 51) 32 rfl w.heap.size 38 i0 _ 4 32 Try.underlying32 hi0 hz0 hz1 hz2 rfl (by decide) (.slice A' to.length cp) to.length (to.flatMap Rnd.cells) rfl ?c0 ⟨wr.heap.size, 0, none⟩ 1 1 [.int .i64 l[k].frame, .int .i64 ta, .int .i64 tb, .int .i64 1] rfl rfl ?c1 ?c2 ?c3 ?c4 ?c5 ?_)
          case c0 => exact (HO.out.drewN _).alloc _
          case c1 => exact cell_new_row2 (wr.drewN nq) #[.int .i64 l[k].frame, .int .i64 ta, .int .i64 tb, .int .i64 1] 38 _ rfl
          case c2 => simp [Value.oneCell']
          case c3 => simp [maxLen]; omega
          case c4 => omega
          case c5 => have := hb.size; simp; omega
          intro v' w' hown' hgr hnil
          have hb2 : Below w.heap.size w w' := Below.grown ((below_drewN hb _).alloc hb.size _) hgr (by have := hb.size; simp; omega) HO.out.base_le
          have hw2 : OwnL w' w.heap.size 38 4 v' Rnd.cells (to ++ [⟨l[k].frame, ta, tb, winOf ta tb⟩]) := by
            unfold OwnL
            rw [HWN.out]
            simpa [Rnd.cells] using hown'
          obtain ⟨A2, c2, rfl⟩ := hw2.shape
          have HW2 := Lib.hid hw2
          clear hown' hgr hnil hw2
          go_wp2
          go_roundw
          case rel =>
            have hst : thr (l.take (k + 1)) = ⟨to ++ [⟨l[k].frame, ta, tb, winOf ta tb⟩], 0, 0⟩ := by
              rw [HS.out, stepT, if_pos (by simpa using h7), HTA.out, HTB.out, HTO.out]
            have hf1 : fromOf l (k + 1) = k + 1 := by rw [HFS.out, if_pos (by simpa using h7)]
            refine ⟨k + 1, by omega, by go_num, by rw [hf1]; go_num, A2, c2, by rw [hst], by rw [hst]; exact HW2.out, hb2⟩
          case measure => simp [intOf]; omega
        · have hab2 : ¬ tb < ta := by omega
          have hab3 : ¬ ta < tb := by omega
          clear hab
          have hwin : winOf ta tb = (-1) := by unfold winOf; rw [if_neg hab2, if_neg hab3]
          have HWN := Lib.hid hwin
          clear hwin
          go_wp2_with (at_builtin; refine wpList_append_own _ rfl (.tmp 40) (.tmp 51) 32 rfl w.heap.size 38 i0 _ 4 32 Try.underlying32 hi0 hz0 hz1 hz2 rfl (by decide) (.slice A' to.length cp) to.length (to.flatMap Rnd.cells) rfl ?c0 ⟨wr.heap.size, 0, none⟩ 1 1 [.int .i64 l[k].frame, .int .i64 ta, .int .i64 tb, .int .i64 (-1)] rfl rfl ?c1 ?c2 ?c3 ?c4 ?c5 ?_)
          case c0 => exact (HO.out.drewN _).alloc _
          case c1 => exact cell_new_row2 (wr.drewN nq) #[.int .i64 l[k].frame, .int .i64 ta, .int .i64 tb, .int .i64 (-1)] 38 _ rfl
          case c2 => simp [Value.oneCell']
          case c3 => simp [maxLen]; omega
          case c4 => omega
          case c5 => have := hb.size; simp; omega
          intro v' w' hown' hgr hnil
          have hb2 : Below w.heap.size w w' := Below.grown ((below_drewN hb _).alloc hb.size _) hgr (by have := hb.size; simp; omega) HO.out.base_le
          have hw2 : OwnL w' w.heap.size 38 4 v' Rnd.cells (to ++ [⟨l[k].frame, ta, tb, winOf ta tb⟩]) := by
            unfold OwnL
            rw [HWN.out]
            simpa [Rnd.cells] using hown'
          obtain ⟨A2, c2, rfl⟩ := hw2.shape
          have HW2 := Lib.hid hw2
          clear hown' hgr hnil hw2
          go_wp2
          go_roundw
          case rel =>
            have hst : thr (l.take (k + 1)) = ⟨to ++ [⟨l[k].frame, ta, tb, winOf ta tb⟩], 0, 0⟩ := by
              rw [HS.out, stepT, if_pos (by simpa using h7), HTA.out, HTB.out, HTO.out]
            have hf1 : fromOf l (k + 1) = k + 1 := by rw [HFS.out, if_pos (by simpa using h7)]
            refine ⟨k + 1, by omega, by go_num, by rw [hf1]; go_num, A2, c2, by rw [hst], by rw [hst]; exact HW2.out, hb2⟩
          case measure => simp [intOf]; omega
        · have hab2 : ¬ ta < tb := by omega
          have hwin : winOf ta tb = 0 := by unfold winOf; rw [if_pos hab]
          have HWN := Lib.hid hwin
          clear hwin
          go_wp2_with (at_builtin; refine wpList_append_own _ rfl (.tmp 40) (.tmp 51) 32 rfl w.heap.size 38 i0 _ 4 32 Try.underlying32 hi0 hz0 hz1 hz2 rfl (by decide) (.slice A' to.length cp) to.length (to.flatMap Rnd.cells) rfl ?c0 ⟨wr.heap.size, 0, none⟩ 1 1 [.int .i64 l[k].frame, .int .i64 ta, .int .i64 tb, .int .i64 0] rfl rfl ?c1 ?c2 ?c3 ?c4 ?c5 ?_)
          case c0 => exact (HO.out.drewN _).alloc _
          case c1 => exact cell_new_row2 (wr.drewN nq) #[.int .i64 l[k].frame, .int .i64 ta, .int .i64 tb, .int .i64 0] 38 _ rfl
          case c2 => simp [Value.oneCell']
          case c3 => simp [maxLen]; omega
          case c4 => omega
          case c5 => have := hb.size; simp; omega
          intro v' w' hown' hgr hnil
          have hb2 : Below w.heap.size w w' := Below.grown ((below_drewN hb _).alloc hb.size _) hgr (by have := hb.size; simp; omega) HO.out.base_le
          have hw2 : OwnL w' w.heap.size 38 4 v' Rnd.cells (to ++ [⟨l[k].frame, ta, tb, winOf ta tb⟩]) := by
            unfold OwnL
            rw [HWN.out]
            simpa [Rnd.cells] using hown'
          obtain ⟨A2, c2, rfl⟩ := hw2.shape
          have HW2 := Lib.hid hw2
          clear hown' hgr hnil hw2
          go_wp2
          go_roundw
          case rel =>
            have hst : thr (l.take (k + 1)) = ⟨to ++ [⟨l[k].frame, ta, tb, winOf ta tb⟩], 0, 0⟩ := by
              rw [HS.out, stepT, if_pos (by simpa using h7), HTA.out, HTB.out, HTO.out]
            have hf1 : fromOf l (k + 1) = k + 1 := by rw [HFS.out, if_pos (by simpa using h7)]
            refine ⟨k + 1, by omega, by go_num, by rw [hf1]; go_num, A2, c2, by rw [hst], by rw [hst]; exact HW2.out, hb2⟩
          case measure => simp [intOf]; omega
      · have h7' : (l[k].kind != 7) = true := by simpa using h7
        have hs7 : (thr (l.take (k + 1))).out = (thr (l.take k)).out ∧ fromOf l (k + 1) = fromOf l k := by
          have h7n : ¬ l[k].kind = 7 := by simpa using h7
          rw [HS.out, stepT, if_neg h7n, HFS.out]
          exact ⟨rfl, if_neg h7n⟩
        have HS7 := Lib.hid hs7
        clear hs7
        go_wp2
        go_roundw
        case rel => exact ⟨k + 1, by omega, by go_num, by rw [HS7.out.2], A', cp, by rw [HS7.out.1], by rw [HS7.out.1]; exact HO.out, hb⟩
        case measure => simp [intOf]; omega
    · have hkl : l.take k = l := List.take_of_length_le (by omega)
      obtain rfl : k = l.length := by omega
      obtain ⟨hfa, hfb⟩ := HF.out l.length (Nat.le_refl _)
      rw [List.take_length] at HO hfa hfb
      rw [List.take_length]
      have HFA := Lib.hid hfa
      have HFB := Lib.hid hfb
      have hlen : (l.drop (fromOf l l.length)).length = l.length - fromOf l l.length := List.length_drop
      have HL := Lib.hid hlen
      clear hkl hfa hfb hlen t1 t2 t3 t4 t5
      have q1 : (0 : Int) ≤ (fromOf l l.length : Int) := Int.natCast_nonneg _
      have q2 : (fromOf l l.length : Int) ≤ (l.length : Int) := by omega
      have q3 : (l.length : Int) ≤ (c : Int) := by omega
      go_wp2
      go_quiet (fail)
      go_wp2
      · have hd : l.drop (fromOf l l.length) = [] := List.drop_of_length_le (by omega)
        go_ret2
        exact ⟨A', cp, _, _, ⟨_, rfl⟩, HO.out.drewN _, below_drewN hb _, l.drop (fromOf l l.length), HL.out, by omega, by rw [hd]; exact Rd.nil _ _ _, HFA.out.symm, HFB.out.symm⟩
      · go_ret2
        exact ⟨A', cp, _, _, ⟨_, rfl⟩, HO.out.drewN _, below_drewN hb _, l.drop (fromOf l l.length), HL.out, by omega, ((HR.out.below hb (Nat.le_refl _)).tail Ev.cells_length hfl).drewN _, HFA.out.symm, HFB.out.symm⟩
end Go.Proofs.Ytfcllbhkimjhkaa
