/-
  The ledger: the entries of a frame, and whether a page can be told.
-/
import Derived.Test.YteccmklacgpodaaLgW
import Derived.Test.YteccmklacgpodaaAt
namespace Go.Proofs.Yteccmklacgpodaa
open Go.RowKit
set_option maxRecDepth 100000
set_option linter.unusedSimpArgs false
section
variable {w : World} {g gl gt : Nat} {most com : Int} {halt : Bool} {S : List Ev} {T : List TEnt}
/-- Live: just the entries. -/
theorem live_lg (h : LgW w g gl gt most S T com halt) (hS : LvOk S) (hl : S.length ≤ 1000) : Calls Try.prog 13 #[.pointer (some ⟨g, 0, none⟩)] w fun e w' => ∃ (A : Option Addr) (c : Nat), e = .returned (.slice A S.length c) ∧ OwnL w' w.heap.size 43 9 (.slice A S.length c) Ev.cells S ∧ Below w.heap.size w w' := by
  refine (live_any g gl (prs S) w (by rw [prs_len]; exact hl) h.cells.2.2.1 h.live).mono ?_
  rintro e w' ⟨A, c, M, rfl, h1, h2, h3, h4⟩
  rw [prs_snd] at h1
  have hM : S = M := sorts_one h1.symm (sortedW_of hS.sorted) h2 hS.sorted
  subst hM
  exact ⟨A, c, rfl, h3, h4⟩
set_option maxHeartbeats 1000000 in
theorem of_any (h : LgW w g gl gt most S T com halt) (hS : LvOk S) (hl : S.length ≤ 1000) (f : Int) : Calls Try.prog 46 #[.pointer (some ⟨g, 0, none⟩), .int .i64 f] w fun e w' => ∃ (A : Option Addr) (n c : Nat), e = .returned (.slice A n c) ∧ OwnL w' w.heap.size 43 9 (.slice A n c) Ev.cells (ofF f S) ∧ Below w.heap.size w w' := by
  have hfl : (S.filter fun x => !(!decide (x.frame = f))) = ofF f S := by unfold ofF; simp
  have HFL := Lib.hid hfl
  obtain ⟨w1, hw1⟩ : ∃ w1, w1 = w.alloc (.cells #[.int .i64 f] 3) := ⟨_, rfl⟩
  have HL := Lib.hid (show Calls Try.prog 13 #[.pointer (some ⟨g, 0, none⟩)] w1 fun e w' => ∃ (A : Option Addr) (c : Nat), e = .returned (.slice A S.length c) ∧ OwnL w' w1.heap.size 43 9 (.slice A S.length c) Ev.cells S ∧ Below w1.heap.size w1 w' by rw [hw1]; exact live_lg (h.alloc _) hS hl)
  have HQ : Hid (w1.cell? ⟨w.heap.size, 0, none⟩ = some (.int .i64 f)) := Lib.hid (by rw [hw1]; exact (Blk.new w 3 #[.int .i64 f]).cell 0)
  have HB : Hid (Below w.heap.size w w1) := Lib.hid (by rw [hw1]; exact bAlloc (Below.refl _ _) _)
  have hs1 : w.heap.size < w1.heap.size := by rw [hw1]; simp
  clear hfl h hS
  go_enter Try.func46, Try.ntmps46
  go_upto_region 1 with fail
  rw [← hw1]
  clear hw1
  go_wp2_with (first
    | (go_at_call 13; refine HL.out.mono ?_; rintro e w2 ⟨A, c, rfl, ho2, hb2⟩
       have HO2 := Lib.hid ho2
       have HB2 := Lib.hid (HB.out.trans (Below.mono hb2 HB.out.size))
       have HD2 := Lib.hid (del_gen (enters_of Try.func64 (by kernel_rfl) rfl) w.heap.size (.int .i64 f) (fun x => !decide (x.frame = f)) (fun x W hW => lofC_any x w.heap.size f W hW) w1.heap.size A c S w2 hl ho2 ((hb2.cell (p := ⟨w.heap.size, 0, none⟩) hs1).trans HQ.out) (fun k hk => by have := ho2.base_le k hk; omega))
       clear ho2 hb2)
    | (go_at_call 63; refine HD2.out.mono ?_; rintro e w3 ⟨n3, rfl, ho3, hg3⟩
       have HO3 := Lib.hid ho3
       have HB3 := Lib.hid (HB2.out.grown hg3 HB2.out.size (fun k hk => by have := HO2.out.base_le k hk; omega))
       clear ho3 hg3))
  go_ret
  have ho := HO3.out
  rw [HFL.out] at ho
  exact ⟨A, n3, c, rfl, ho.more (Nat.le_of_lt hs1), HB3.out⟩
/-- Why a page can't be told. -/
def fitsE (halt : Bool) (com : Int) (evs : List Ev) (f now : Int) : Int := if halt = true then 12 else if argB evs f now = true then (if f ≤ com then 10 else 0) else 1
set_option maxHeartbeats 2000000 in
theorem fits_any (h : LgW w g gl gt most S T com halt) (f now : Int) (A : Option Addr) (c : Nat) (evs : List Ev) (hn : evs.length ≤ 1000) (hr : Rd w w.heap.size A (evs.flatMap Ev.cells)) :
    Calls Try.prog 28 #[.pointer (some ⟨g, 0, none⟩), .agg #[.int .i64 f, .slice A evs.length c], .int .i64 now] w fun e w' => e = .returned (.int .i64 (fitsE halt com evs f now)) ∧ Below w.heap.size w w' := by
  obtain ⟨n, hnn⟩ : ∃ n, evs.length = n := ⟨_, rfl⟩
  obtain ⟨w1, hw1⟩ : ∃ w1, w1 = w.alloc (.cells #[.int .i64 f, .slice A n c] 30) := ⟨_, rfl⟩
  have HB : Hid (Below w.heap.size w w1) := Lib.hid (by rw [hw1]; exact bAlloc (Below.refl _ _) _)
  have HP : Hid (Blk w1 w.heap.size 30 #[.int .i64 f, .slice A n c]) := Lib.hid (by rw [hw1]; exact Blk.new _ _ _)
  have HG : Hid (LgW w1 g gl gt most S T com halt) := Lib.hid (by rw [hw1]; exact h.alloc _)
  have HR : Hid (Rd w1 w1.heap.size A (evs.flatMap Ev.cells)) := Lib.hid ((hr.below HB.out (Nat.le_refl _)).more HB.out.size)
  have HO := Lib.hid (ordered_any A c evs hn w1 HR.out)
  have HC : Hid (∀ W, Below w1.heap.size w1 W → Calls Try.prog 45 #[.slice A evs.length c, .func (.func 43) #[] #[.pointer (some ⟨w.heap.size, 0, none⟩)]] W fun e w' => e = .returned (.bool (otherB f evs)) ∧ Below W.heap.size W w') := Lib.hid (fun W hW =>
    cfE_gen (enters_of Try.func43 (by kernel_rfl) rfl) A c evs (fun x => !decide (x.frame = f)) W hn ((HR.out.below hW (Nat.le_refl _)).more hW.size) (fun x V hV => lfitsC_any x w.heap.size f V (by
      have := (HP.out.on hW).on hV
      exact this.cell 0)))
  have HE : Hid (fitsE halt com evs f now = if halt = true then 12 else if (orderedB evs && (!otherB f evs && (decide (f ≤ now) && decide (now ≤ 1073741824)))) = true then (if f ≤ com then 10 else 0) else 1) := Lib.hid rfl
  obtain ⟨ob, hob⟩ : ∃ ob, orderedB evs = ob := ⟨_, rfl⟩
  obtain ⟨tb, htb⟩ : ∃ tb, otherB f evs = tb := ⟨_, rfl⟩
  rw [hob, htb] at HE
  rw [hob] at HO
  rw [htb] at HC
  rw [hnn] at HO HC ⊢
  clear hob htb hnn hr h
  go_enter Try.func28, Try.ntmps28
  go_upto_region 1 with fail
  rw [← hw1]
  clear hw1
  obtain ⟨lg, -, -, -, c3, c4⟩ := HG.out.cells
  have p0 := HP.out.cell 0
  have p1 := HP.out.cell 1
  have lp := HP.out.lt
  simp only [List.getElem?_toArray, List.getElem?_cons_zero, List.getElem?_cons_succ] at p0 p1
  have HP2 : Hid (∀ W, Below w1.heap.size w1 W → (W.cell? ⟨w.heap.size, 0, none⟩ = some (.int .i64 f) ∧ W.cell? ⟨w.heap.size, 1, none⟩ = some (.slice A n c)) ∧ w.heap.size < W.heap.size ∧ g < W.heap.size ∧ W.cell? ⟨g, 3, none⟩ = some (.int .i64 com)) := Lib.hid (fun W hW => ⟨⟨(HP.out.on hW).cell 0, (HP.out.on hW).cell 1⟩, (HP.out.on hW).lt, (HG.out.on hW).cells.1, (HG.out.on hW).cells.2.2.2.2.1⟩)
  cases halt
  · have HE0 : Hid (∀ x, (if (ob && (!tb && (decide (f ≤ now) && decide (now ≤ 1073741824)))) = true then (if f ≤ com then (10 : Int) else 0) else 1) = x → fitsE false com evs f now = x) := Lib.hid (fun x hx => by rw [HE.out, if_neg (by decide)]; exact hx)
    clear HE
    cases ob
    · have HX := Lib.hid (HE0.out 1 (by simp))
      clear HE0
      go_wp2_with (first | (go_at_call 44; refine HO.out.mono ?_; rintro e w2 ⟨rfl, hb2⟩; have HB2 := Lib.hid (bTrans HB.out (hb2)); clear hb2))
      go_ret
      exact ⟨ret_int HX.out.symm, HB2.out⟩
    · cases tb
      · by_cases h1 : now < f
        · have HX := Lib.hid (HE0.out 1 (by rw [if_neg]; simp; omega))
          clear HE0
          go_wp2_with (first | (go_at_call 44; refine HO.out.mono ?_; rintro e w2 ⟨rfl, hb2⟩; obtain ⟨⟨p02, p12⟩, l2, lg2, c32⟩ := HP2.out w2 hb2; have HB2 := Lib.hid hb2; clear hb2) | (go_at_call 45; refine (HC.out _ HB2.out).mono ?_; rintro e w3 ⟨rfl, hb3⟩; obtain ⟨⟨p03, p13⟩, l3, lg3, c33⟩ := HP2.out w3 (bTrans HB2.out hb3); have HB3 := Lib.hid (bTrans HB.out (bTrans HB2.out hb3)); clear hb3))
          go_ret
          exact ⟨ret_int HX.out.symm, HB3.out⟩
        · by_cases h2 : 1073741824 < now
          · have HX := Lib.hid (HE0.out 1 (by rw [if_neg]; simp; omega))
            clear HE0
            go_wp2_with (first | (go_at_call 44; refine HO.out.mono ?_; rintro e w2 ⟨rfl, hb2⟩; obtain ⟨⟨p02, p12⟩, l2, lg2, c32⟩ := HP2.out w2 hb2; have HB2 := Lib.hid hb2; clear hb2) | (go_at_call 45; refine (HC.out _ HB2.out).mono ?_; rintro e w3 ⟨rfl, hb3⟩; obtain ⟨⟨p03, p13⟩, l3, lg3, c33⟩ := HP2.out w3 (bTrans HB2.out hb3); have HB3 := Lib.hid (bTrans HB.out (bTrans HB2.out hb3)); clear hb3))
            go_ret
            exact ⟨ret_int HX.out.symm, HB3.out⟩
          · by_cases h3 : f ≤ com
            · have HX := Lib.hid (HE0.out 10 (by rw [if_pos (by simp; omega), if_pos h3]))
              clear HE0
              go_upto_region 6 with (first | (go_at_call 44; refine HO.out.mono ?_; rintro e w2 ⟨rfl, hb2⟩; obtain ⟨⟨p02, p12⟩, l2, lg2, c32⟩ := HP2.out w2 hb2; have HB2 := Lib.hid hb2; clear hb2) | (go_at_call 45; refine (HC.out _ HB2.out).mono ?_; rintro e w3 ⟨rfl, hb3⟩; obtain ⟨⟨p03, p13⟩, l3, lg3, c33⟩ := HP2.out w3 (bTrans HB2.out hb3); have HB3 := Lib.hid (bTrans HB.out (bTrans HB2.out hb3)); clear hb3))
              refine wp_region_mild (by kernel_rfl) (by kernel_rfl) ?_
              repeat (go_big_quiet_step (fail))
              refine wpQuiet_nil ?_
              intro w4 hw'
              obtain ⟨⟨wq, k4⟩, hw''⟩ := hw'
              subst hw''
              go_wp2
              go_ret
              exact ⟨ret_int HX.out.symm, bTrans HB3.out k4⟩
            · have HX := Lib.hid (HE0.out 0 (by rw [if_pos (by simp; omega), if_neg h3]))
              clear HE0
              go_upto_region 6 with (first | (go_at_call 44; refine HO.out.mono ?_; rintro e w2 ⟨rfl, hb2⟩; obtain ⟨⟨p02, p12⟩, l2, lg2, c32⟩ := HP2.out w2 hb2; have HB2 := Lib.hid hb2; clear hb2) | (go_at_call 45; refine (HC.out _ HB2.out).mono ?_; rintro e w3 ⟨rfl, hb3⟩; obtain ⟨⟨p03, p13⟩, l3, lg3, c33⟩ := HP2.out w3 (bTrans HB2.out hb3); have HB3 := Lib.hid (bTrans HB.out (bTrans HB2.out hb3)); clear hb3))
              refine wp_region_mild (by kernel_rfl) (by kernel_rfl) ?_
              repeat (go_big_quiet_step (fail))
              refine wpQuiet_nil ?_
              intro w4 hw'
              obtain ⟨⟨wq, k4⟩, hw''⟩ := hw'
              subst hw''
              go_wp2
              go_ret
              exact ⟨ret_int HX.out.symm, bTrans HB3.out k4⟩
      · have HX := Lib.hid (HE0.out 1 (by simp))
        clear HE0
        go_wp2_with (first | (go_at_call 44; refine HO.out.mono ?_; rintro e w2 ⟨rfl, hb2⟩; obtain ⟨⟨p02, p12⟩, l2, lg2, c32⟩ := HP2.out w2 hb2; have HB2 := Lib.hid hb2; clear hb2) | (go_at_call 45; refine (HC.out _ HB2.out).mono ?_; rintro e w3 ⟨rfl, hb3⟩; obtain ⟨⟨p03, p13⟩, l3, lg3, c33⟩ := HP2.out w3 (bTrans HB2.out hb3); have HB3 := Lib.hid (bTrans HB.out (bTrans HB2.out hb3)); clear hb3))
        go_ret
        exact ⟨ret_int HX.out.symm, HB3.out⟩
  · have HX := Lib.hid (show fitsE true com evs f now = 12 from by rw [HE.out, if_pos rfl])
    clear HE
    go_wp2_with fail
    go_ret
    exact ⟨ret_int HX.out.symm, HB.out⟩
end
end Go.Proofs.Yteccmklacgpodaa
