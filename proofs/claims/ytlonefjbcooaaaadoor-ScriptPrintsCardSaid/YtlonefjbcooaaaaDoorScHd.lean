/-
  The document's small and Head.
-/
import Derived.Test.YtlonefjbcooaaaaDoorScPr
import Derived.Test.YtlonefjbcooaaaaDoorScSm
namespace Go.Proofs.YtlonefjbcooaaaaDoor
open Go.RowKit
set_option maxRecDepth 100000
set_option linter.unusedSimpArgs false
theorem small_any (n : Int) (w : World) : Calls Tryd.prog 27 #[.int .i64 n] w fun e w' => e = .returned (.bool (smallB n)) ∧ w = w' := by
  go_enter Tryd.func27, Tryd.ntmps27
  by_cases h0 : 0 ≤ n
  · by_cases h9 : n ≤ 999999999
    · go_wp2
      go_ret
      exact ⟨by simp [smallB, h0, h9], rfl⟩
    · go_wp2
      go_ret
      exact ⟨by simp [smallB, h0, h9], rfl⟩
  · go_wp2
    go_ret
    exact ⟨by simp [smallB, h0] <;> omega, rfl⟩
theorem digS (n : Int) (h : smallB n = true) (w : World) : Calls Tryd.prog 28 #[.int .i64 n] w fun e w' => e = .returned (.string ⟨(Lib.itoa n).toArray⟩) ∧ Below w.heap.size w w' := by
  have h2 := h
  simp only [smallB, Bool.and_eq_true, decide_eq_true_eq] at h2
  have hd := digits_any n.toNat w (by omega)
  rw [Int.toNat_of_nonneg h2.1] at hd
  have : Lib.itoa n = Lib.decDigits n.toNat := by
    have := Lib.itoa_nonneg n.toNat
    rwa [Int.toNat_of_nonneg h2.1] at this
  rw [this]
  exact hd
theorem itoaS_len (n : Int) (h : smallB n = true) : (Lib.itoa n).length ≤ 21 := by
  have h2 := h
  simp only [smallB, Bool.and_eq_true, decide_eq_true_eq] at h2
  exact itoa_len n ⟨by omega, by omega⟩
/-- What Head hands back. -/
def HdQ (s : Su) (w : World) (e : Ending) (w' : World) : Prop := (∃ x : List UInt8, e = .returned (.tuple #[.string ⟨x.toArray⟩, .bool s.ok]) ∧ (s.ok = true → x = headL s) ∧ x.length ≤ 200) ∧ Below w.heap.size w w'
theorem HdQ.bad {s : Su} {w w' : World} {e : Ending} (h : s.ok = false) (he : e = .returned (.tuple #[.string ⟨#[]⟩, .bool false])) (hb : Below w.heap.size w w') : HdQ s w e w' := by
  refine ⟨⟨[], ?_, fun e => (by rw [h] at e; cases e), by simp⟩, hb⟩
  rw [he, h]
theorem HdQ.good {s : Su} {w w' : World} {e : Ending} {x : ByteArray} (h : s.ok = true) (he : e = .returned (.tuple #[.string x, .bool true])) (hx : x = ⟨(headL s).toArray⟩) (hl : (headL s).length ≤ 200) (hb : Below w.heap.size w w') : HdQ s w e w' := by
  refine ⟨⟨headL s, ?_, fun _ => rfl, hl⟩, hb⟩
  rw [he, h, hx]
theorem infoCfg : (Tryd.prog.info? 25).map (·.size) = some 4 := by kernel_rfl
theorem headS_len (s : Su) (h : ∀ n ∈ s.nums, I64 n) : (headL s).length ≤ 154 := by
  have := lineL_len boutW s.nums (by decide) h
  have h6 : s.nums.length = 6 := rfl
  unfold headL
  omega
set_option maxHeartbeats 8000000 in
theorem rhead_any (s : Su) (hs0 : 0 ≤ s.seed) (hs1 : s.seed < 4294967296) (w : World) : Calls Tryd.prog 11 #[.agg s.cells.toArray] w (HdQ s w) := by
  obtain ⟨sd, dl, wi, me, no, pa, en, vo⟩ := s
  simp only at hs0 hs1
  simp only [Su.cells]
  go_enter Tryd.func11, Tryd.ntmps11
  go_upto_region 1 with fail
  refine named1 (F := fun W => Code.wp _ _ _ _ W) ?_
  intro w1 k1 hb1 hz1
  have K1 := Lib.hid k1
  have HB1 := Lib.hid hb1
  have kl := k1.lt
  have hr1 : w1.rangeAt w.heap.size 0 [.int .u32 sd, .int .i64 dl, .int .i64 wi, .int .i64 me] := fun i v hv => by
    rw [Nat.zero_add, k1.cell]
    rcases i with _ | _ | _ | _ | i <;> first | (simp at hv; done) | simpa using hv
  have HR1 := Lib.hid hr1
  clear k1 hb1 hz1 hr1
  go_upto_region 2 with (first
    | (refine wpList_load_mid rfl 25 (.tmp 5) rfl w.heap.size 0 rfl [.int .u32 sd, .int .i64 dl, .int .i64 wi, .int .i64 me] _ HR1.out Tryd.underlying25 rfl infoCfg ?_)
    | (refine wpList_store_mid rfl 25 (.tmp 4) (.tmp 6) rfl w1.heap.size 0 #[.int .u32 sd, .int .i64 dl, .int .i64 wi, .int .i64 me] rfl rfl (there_new _ _ _ rfl) infoCfg (by simp [Value.oneCell']) ?_
       refine named_put (F := fun W => wpList _ _ _ _ _ W) rfl ?_
       intro w2 k2 hb2 hz2
       have c0 := k2.cell 0
       have c1 := k2.cell 1
       have c2 := k2.cell 2
       have c3 := k2.cell 3
       have k12 := K1.out.on hb2
       have d4 := k12.cell 4
       have d5 := k12.cell 5
       have d6 := k12.cell 6
       have d7 := k12.cell 7
       have l2 := k2.lt
       have l1 := k12.lt
       have HB2 := Lib.hid (bTrans HB1.out hb2)
       clear k2 hb2 hz2 k12))
  simp only [List.getElem?_toArray, List.getElem?_cons_zero, List.getElem?_cons_succ] at c0 c1 c2 c3 d4 d5 d6 d7
  clear HR1 K1 HB1
  by_cases hs : smallB sd = true
  case neg =>
    have g : smallB sd = false := by simpa using hs
    clear hs
    go_wp2_with (go_at_call 27; refine (small_any _ _).mono ?_; rintro e w' ⟨rfl, rfl⟩)
    go_ret2
    exact HdQ.bad (by simp [Su.ok, Su.nums, g]) rfl HB2.out
  case pos =>
  have g1 := hs
  clear hs
  by_cases hs : smallB dl = true
  case neg =>
    have g : smallB dl = false := by simpa using hs
    clear hs
    go_wp2_with (go_at_call 27; refine (small_any _ _).mono ?_; rintro e w' ⟨rfl, rfl⟩)
    go_ret2
    exact HdQ.bad (by simp [Su.ok, Su.nums, g]) rfl HB2.out
  case pos =>
  have g2 := hs
  clear hs
  by_cases hs : smallB wi = true
  case neg =>
    have g : smallB wi = false := by simpa using hs
    clear hs
    go_wp2_with (go_at_call 27; refine (small_any _ _).mono ?_; rintro e w' ⟨rfl, rfl⟩)
    go_ret2
    exact HdQ.bad (by simp [Su.ok, Su.nums, g]) rfl HB2.out
  case pos =>
  have g3 := hs
  clear hs
  by_cases hm : me = 0
  case neg =>
    have gm : (me != 0) = true := by rw [bne_iff_ne]; exact hm
    go_wp2_with (go_at_call 27; refine (small_any _ _).mono ?_; rintro e w' ⟨rfl, rfl⟩)
    go_ret2
    exact HdQ.bad (by simp [Su.ok, hm]) rfl HB2.out
  case pos =>
  subst hm
  by_cases hm : no = 0
  case neg =>
    have gm : (no != 0) = true := by rw [bne_iff_ne]; exact hm
    go_wp2_with (go_at_call 27; refine (small_any _ _).mono ?_; rintro e w' ⟨rfl, rfl⟩)
    go_ret2
    exact HdQ.bad (by simp [Su.ok, hm]) rfl HB2.out
  case pos =>
  subst hm
  by_cases hs : smallB pa = true
  case neg =>
    have g : smallB pa = false := by simpa using hs
    clear hs
    go_wp2_with (go_at_call 27; refine (small_any _ _).mono ?_; rintro e w' ⟨rfl, rfl⟩)
    go_ret2
    exact HdQ.bad (by simp [Su.ok, Su.nums, g]) rfl HB2.out
  case pos =>
  have g4 := hs
  clear hs
  by_cases hs : smallB en = true
  case neg =>
    have g : smallB en = false := by simpa using hs
    clear hs
    go_wp2_with (go_at_call 27; refine (small_any _ _).mono ?_; rintro e w' ⟨rfl, rfl⟩)
    go_ret2
    exact HdQ.bad (by simp [Su.ok, Su.nums, g]) rfl HB2.out
  case pos =>
  have g5 := hs
  clear hs
  by_cases hs : smallB vo = true
  case neg =>
    have g : smallB vo = false := by simpa using hs
    clear hs
    go_wp2_with (go_at_call 27; refine (small_any _ _).mono ?_; rintro e w' ⟨rfl, rfl⟩)
    go_ret2
    exact HdQ.bad (by simp [Su.ok, Su.nums, g]) rfl HB2.out
  case pos =>
  have g6 := hs
  clear hs
  have HOK : Hid (Su.ok ⟨sd, dl, wi, 0, 0, pa, en, vo⟩ = true) := Lib.hid (by simp [Su.ok, Su.nums, g1, g2, g3, g4, g5, g6])
  have HLN : Hid ((headL ⟨sd, dl, wi, 0, 0, pa, en, vo⟩).length ≤ 154) := Lib.hid (headS_len _ (by
    have sm : ∀ n, smallB n = true → I64 n := fun n h => by
      simp only [smallB, Bool.and_eq_true, decide_eq_true_eq] at h
      exact ⟨by omega, by omega⟩
    intro n hn
    simp only [Su.nums, List.mem_cons, List.not_mem_nil, or_false] at hn
    rcases hn with rfl | rfl | rfl | rfl | rfl | rfl <;> (apply sm; assumption)))
  have HE : Hid (headL ⟨sd, dl, wi, 0, 0, pa, en, vo⟩ = [98, 111, 117, 116, 32] ++ (Lib.itoa sd ++ ([32] ++ (Lib.itoa dl ++ ([32] ++ (Lib.itoa wi ++ ([32] ++ (Lib.itoa pa ++ ([32] ++ (Lib.itoa en ++ ([32] ++ Lib.itoa vo))))))))))) := Lib.hid (by
    simp [headL, lineL, Su.nums, boutW, Lib.join_cons, Lib.joinTail])
  have D1 := Lib.hid (digS sd g1)
  have D2 := Lib.hid (digS dl g2)
  have D3 := Lib.hid (digS wi g3)
  have D4 := Lib.hid (digS pa g4)
  have D5 := Lib.hid (digS en g5)
  have D6 := Lib.hid (digS vo g6)
  have l1' := itoaS_len sd g1
  have l2' := itoaS_len dl g2
  have l3' := itoaS_len wi g3
  have l4' := itoaS_len pa g4
  have l5' := itoaS_len en g5
  have l6' := itoaS_len vo g6
  go_upto_region 4 with (go_at_call 27; refine (small_any _ _).mono ?_; rintro e w' ⟨rfl, rfl⟩)
  refine wp_region_mild (by kernel_rfl) (by kernel_rfl) ?_
  repeat (go_big_quiet_step ((go_at_call 28; first | (with_reducible exact mild_of (D1.out _)) | (with_reducible exact mild_of (D2.out _)) | (with_reducible exact mild_of (D3.out _)) | (with_reducible exact mild_of (D4.out _)) | (with_reducible exact mild_of (D5.out _)) | (with_reducible exact mild_of (D6.out _)))))
  refine wpQuiet_nil ?_
  intro w7 hw'
  obtain ⟨⟨wq, k7⟩, hw''⟩ := hw'
  subst hw''
  go_wp2
  go_ret2
  exact HdQ.good HOK.out rfl (by rw [HE.out]; simp only [str_append, ← List.append_assoc]) (Nat.le_trans HLN.out (by decide)) (bTrans HB2.out k7)
end Go.Proofs.YtlonefjbcooaaaaDoor
