/-
  ScriptPrints: the law's walk.
-/
import Derived.Test.YtlonefjbcooaaaaDoorScPt
import Derived.Test.YtlonefjbcooaaaaDoorScLi
namespace Go.Proofs.YtlonefjbcooaaaaDoor
open Go.RowKit
set_option maxRecDepth 100000
set_option linter.unusedSimpArgs false
theorem okAll_take (s : Su) (ms : List Mo) (k : Nat) (h : k < ms.length) : okAll s (ms.take (k + 1)) = (okAll s (ms.take k) && ms[k].ok) := by
  rw [List.take_succ_eq_append_getElem h]
  unfold okAll
  rw [List.all_append, Bool.and_assoc]
  simp only [List.all_cons, List.all_nil, Bool.and_true]
set_option maxHeartbeats 16000000 in
theorem prints_all (s : Su) (hs : s.Fits) (ms : List Mo) (hf : ∀ m ∈ ms, m.Fits) (A : Option Addr) (c : Nat) (w : World) (hmx : ms.length ≤ maxLen) (hr : Rd w w.heap.size A (ms.flatMap Mo.cells)) (h : ScW w w.heap.size) :
    Calls Tryd.prog 4 #[.agg s.cells.toArray, .slice A ms.length c] w fun e w' => e = .returned (.bool true) ∧ Below w.heap.size w w' := by
  have HS := Lib.hid h
  have HR := Lib.hid hr
  have HA := Lib.hid (fun W hW => awake27_any W hW)
  have HPR := Lib.hid (fun W hn hr hW => print_any s hs ms hf A c W hn hr hW)
  have HHD := Lib.hid (fun W => rhead_any s hs.seed0 hs.seed1 W)
  have HLI := Lib.hid (fun k (hk : k < ms.length) W => rline_any ms[k] (hf _ (List.getElem_mem hk)) W)
  have HOT := Lib.hid (fun k hk => okAll_take s ms k hk)
  have HTT := Lib.hid (fun k hk => text_take s ms k hk)
  have HPT := Lib.hid (fun ho => parse_text s ms hf ho)
  have HT0 : Hid (textL s (ms.take 0) = headL s ++ [10]) := Lib.hid (by simp [textL])
  have HO0 : Hid (okAll s (ms.take 0) = s.ok) := Lib.hid (by simp [okAll])
  have HEQ := Lib.hid (fun ns (e : setC ns = s.cells) => (e ▸ set_eql ns : ∀ w, (binOp .eql 27 (.agg s.cells.toArray) (.agg s.cells.toArray)).run Tryd.prog w = .ok (.bool true) w))
  have h8 : s.cells.length = 8 := rfl
  have h11 : s.cells.toArray.all (·.oneCell') = true := by simp [Su.cells, Value.oneCell']
  obtain ⟨sc, hsc⟩ : ∃ sc, s.cells = sc := ⟨_, rfl⟩
  rw [hsc] at HPR HHD HEQ HPT h8 h11 ⊢
  have h8a : sc.toArray.size = 8 := by rw [List.size_toArray]; exact h8
  obtain ⟨m, hm⟩ : ∃ m, ms.length = m := ⟨_, rfl⟩
  have HM := Lib.hid hm
  rw [hm] at HPR hmx ⊢
  unfold maxLen at hmx
  clear hr h hf hs hm hsc
  go_enter Tryd.func4, Tryd.ntmps4
  go_upto_region 1 with fail
  refine named1 (F := fun W => Code.wp _ _ _ _ W) ?_
  intro w1 k1 hb1 hz1
  have K1 := Lib.hid k1
  have HB1 := Lib.hid hb1
  have kl := k1.lt
  have HS1 := Lib.hid (HS.out.on hb1)
  clear k1 hb1 hz1
  go_upto_region 3 with (first | (go_at_call 6; refine (HA.out _ HS1.out).mono ?_; rintro e w2 ⟨rfl, hb2⟩; have HB2 := Lib.hid (bTrans HB1.out hb2); have K2 := Lib.hid (K1.out.on hb2); clear hb2))
  by_cases h200 : 200 < m
  case pos =>
    go_wp2
    go_ret
    exact ⟨rfl, HB2.out⟩
  case neg =>
  have hm2 : m ≤ 200 := by omega
  have HP2 := Lib.hid (HPR.out w2 hm2 ((HR.out.below HB2.out (Nat.le_refl _)).more HB2.out.size) (HS.out.on HB2.out))
  have hr2 : w2.rangeAt w.heap.size 0 sc := fun i v hv => by rw [Nat.zero_add, K2.out.cell]; simpa using hv
  have HR2 := Lib.hid hr2
  have kl2 := K2.out.lt
  clear hr2 HPR HA K1 HB1 HS1 h200
  obtain ⟨ob, hob⟩ : ∃ ob, okAll s ms = ob := ⟨_, rfl⟩
  obtain ⟨tx, htx⟩ : ∃ tx, (if okAll s ms then textL s ms else []) = tx := ⟨_, rfl⟩
  obtain ⟨er, her⟩ : ∃ er : Int, (if okAll s ms then 0 else 1) = er := ⟨_, rfl⟩
  go_upto_region 6 with (first
    | (refine wpList_load_mid rfl 27 (.tmp 2) rfl w.heap.size 0 rfl sc _ HR2.out Tryd.underlying27 rfl (by rw [h8]; exact setInfo) ?_)
    | (go_at_call 10; refine HP2.out.mono ?_; intro e w3 hq; unfold PrQ at hq; rw [htx, her] at hq; obtain ⟨rfl, hb3⟩ := hq; have HB23 := Lib.hid hb3; clear hb3))
  have HB3 := Lib.hid (bTrans HB2.out HB23.out)
  have K3 := Lib.hid (K2.out.on HB23.out)
  have hr3 : w3.rangeAt w.heap.size 0 sc := fun i v hv => by rw [Nat.zero_add, K3.out.cell]; simpa using hv
  have HR3 := Lib.hid hr3
  have kl3 := K3.out.lt
  have HTX := Lib.hid htx
  have HER := Lib.hid her
  have HOB := Lib.hid hob
  clear hr3 HP2 HR2 HB23 K2 HB2 kl2 htx her hob
  go_upto_region 7 with (first
    | (refine wpList_load_mid rfl 27 (.tmp 2) rfl w.heap.size 0 rfl sc _ HR3.out Tryd.underlying27 rfl (by rw [h8]; exact setInfo) ?_)
    | (go_at_call 11; refine (HHD.out _).mono ?_; intro e w4 hq; unfold HdQ at hq; obtain ⟨⟨x, rfl, hx, hxl⟩, hb4⟩ := hq; have HB34 := Lib.hid hb4; have HX4 := Lib.hid hx; clear hb4 hx))
  have HB4 := Lib.hid (bTrans HB3.out HB34.out)
  have K4 := Lib.hid (K3.out.on HB34.out)
  have hz4 := HB4.out.size
  clear HR3 HB34 K3 HB3 kl3 HHD
  go_wp2_with fail
  go_loopw [7, 8, 9] (fun wt ok i wr => ∃ (j : Nat) (X : List UInt8) (bb : Bool), j ≤ m ∧ i = .int .i64 j ∧ wt = .string ⟨X.toArray⟩ ∧ ok = .bool bb ∧ X.length ≤ 201 * (j + 1) ∧ Hid (okAll s (ms.take j) = bb) ∧ Hid (okAll s (ms.take j) = true → X = textL s (ms.take j)) ∧ Hid (Blk wr w.heap.size 27 sc.toArray) ∧ Hid (Below w.heap.size w wr)) (fun _ _ i _ => m - (intOf i).toNat)
  case atStart =>
    refine ⟨0, x ++ [10], s.ok, Nat.zero_le _, rfl, ?_, rfl, by simp; omega, HO0, Lib.hid (fun e => ?_), K4, HB4⟩
    · exact congrArg Value.string (str_append x [10])
    · rw [HT0.out, HX4.out (by rw [← HO0.out]; exact e)]
  case round =>
    obtain ⟨j, X, bb, hj, rfl, rfl, rfl, hXl, HBB, HXX, HK, HB⟩ := hrel
    by_cases hlt : j < m
    · have hjL : j < ms.length := by rw [HM.out]; exact hlt
      obtain ⟨b, off, rfl, hb, hat⟩ := (HR.out.below HB.out (Nat.le_refl _)).at_ Mo.cells_length (by decide) hjL
      have hli := HLI.out j hjL
      have hot := HOT.out j hjL
      have htt := HTT.out j hjL
      obtain ⟨mo, hmo⟩ : ∃ mo, ms[j] = mo := ⟨_, rfl⟩
      rw [hmo] at hat hli hot htt
      have h16 : mo.cells.length = 6 := rfl
      obtain ⟨mc, hmc⟩ : ∃ mc, mo.cells = mc := ⟨_, rfl⟩
      rw [hmc] at hat hli h16
      have HRG : Hid (wr.rangeAt b (off + j * 6) mc) := Lib.hid hat
      have HL1 := Lib.hid hli
      have HOT1 := Lib.hid hot
      have HTT1 := Lib.hid htt
      have hbl : b < wr.heap.size := Nat.lt_of_lt_of_le hb HB.out.size
      have e0 : (0 : Int) ≤ (j : Int) := Int.natCast_nonneg _
      have e1 : (j : Int) < (m : Int) := by omega
      clear hat hli hot htt hmo hmc
      go_upto_region 12 with (first
        | (refine wpList_load_mid rfl 40 (.tmp 43) rfl b (off + j * 6) rfl mc _ HRG.out Tryd.underlying40 rfl (by rw [h16]; exact mvInfo) ?_)
        | (go_at_call 12; refine (HL1.out _).mono ?_; intro e w5 hq; unfold LiQ at hq; obtain ⟨⟨y, rfl, hy, hyl⟩, hb5⟩ := hq; have HB45 := Lib.hid hb5; have HY := Lib.hid hy; clear hb5 hy))
      have HB5 := Lib.hid (bTrans HB.out HB45.out)
      have HK5 := Lib.hid (HK.out.on HB45.out)
      have hcat : ((⟨X.toArray⟩ : ByteArray) ++ ⟨y.toArray⟩) ++ ⟨#[10]⟩ = ⟨(X ++ (y ++ [10])).toArray⟩ := by
        have := str_append (X ++ y) [10]
        rw [← str_append X y] at this
        rw [List.append_assoc] at this
        exact this
      have HCAT := Lib.hid hcat
      obtain ⟨mk, hmk⟩ : ∃ mk, mo.ok = mk := ⟨_, rfl⟩
      rw [hmk] at HOT1 HY ⊢
      clear HRG HL1 HB45 HK HB hcat hmk
      cases bb with
      | false =>
        go_wp2
        go_roundw
        case rel =>
          refine ⟨j + 1, X ++ (y ++ [10]), false, by omega, by go_num, by rw [HCAT.out], rfl, by simp; omega, Lib.hid ?_, Lib.hid (fun e => ?_), HK5, HB5⟩
          · rw [HOT1.out, HBB.out]; rfl
          · rw [HOT1.out, HBB.out] at e; cases e
        case measure => simp [intOf]; omega
      | true =>
        go_wp2
        go_roundw
        case rel =>
          refine ⟨j + 1, X ++ (y ++ [10]), mk, by omega, by go_num, by rw [HCAT.out], rfl, by simp; omega, Lib.hid ?_, Lib.hid (fun e => ?_), HK5, HB5⟩
          · rw [HOT1.out, HBB.out]; rfl
          · rw [HOT1.out, HBB.out, Bool.true_and] at e
            rw [HTT1.out, HXX.out HBB.out, HY.out e]
        case measure => simp [intOf]; omega
    · obtain rfl : j = m := by omega
      have hfull : ms.take j = ms := List.take_of_length_le (by rw [HM.out]; exact Nat.le_refl _)
      rw [hfull] at HBB HXX
      have hbb : bb = ob := HBB.out.symm.trans HOB.out
      subst hbb
      clear hfull HOB HO0 HT0 HOT HTT HLI
      cases bb with
      | false =>
        have h1 : tx = [] := by rw [← HTX.out, HBB.out]; rfl
        have h2 : er = 1 := by rw [← HER.out, HBB.out]; rfl
        subst h1 h2
        go_wp2
        go_ret
        exact ⟨rfl, HB.out⟩
      | true =>
        have h1 : tx = X := by rw [← HTX.out, HBB.out, HXX.out HBB.out]; rfl
        have h2 : er = 0 := by rw [← HER.out, HBB.out]; rfl
        subst h1 h2
        obtain ⟨Lm, hpo, hLm, hLl, hcs⟩ := HPT.out HBB.out
        rw [← HXX.out HBB.out] at hpo
        have hlen : tx.length ≤ 200000 := by omega
        have HPA := Lib.hid (parse_any tx wr (HS.out.on HB.out))
        have HPO := Lib.hid hpo
        have hlm : Lm.length = j := hLl.trans HM.out
        have HRB := Lib.hid (HR.out.below HB.out (Nat.le_refl _))
        rw [← hLm] at HRB
        have HCS := Lib.hid hcs
        have HLM := Lib.hid hlm
        have HRSX : Hid (ResP tx (s.nums.map Int.toNat) Lm 0 0) := Lib.hid (.inr ⟨hlen, .inr ⟨hpo, rfl, rfl⟩⟩)
        clear hpo hLm hLl hcs hlm HPT HTX HER HXX HBB HX4
        go_upto_region 17 with (first
          | (go_at_call 7; refine HPA.out.mono ?_; intro e w5 hq; unfold PQ at hq; obtain ⟨ns, L, kn, er, A5, c5, rfl, ho5, hb5, hres5⟩ := hq
             obtain ⟨rfl, rfl, rfl, rfl⟩ := HRSX.out.same hres5
             rw [HCS.out]
             have HO5 := Lib.hid ho5
             have HB5 := Lib.hid hb5
             clear ho5 hb5 hres5)
          | (refine wpList_store_mid rfl 27 (.tmp 12) (.tmp 67) rfl w5.heap.size 0 sc.toArray rfl rfl (there_new _ _ _ (by rw [h8a]; rfl)) (by rw [h8a]; exact setInfo) h11 ?_
             refine named_put (F := fun W => wpList _ _ _ _ _ W) (by rw [Array.length_toList, h8a]; rfl) ?_
             intro w6 k6 hb6 hz6
             rw [Array.toArray_toList] at k6
             have HB56 := Lib.hid (bTrans HB5.out hb6)
             have K6 := Lib.hid k6
             have HO6 := Lib.hid (HO5.out.below hb6)
             clear k6 hb6 hz6))
        have HK6 := Lib.hid (HK.out.on HB56.out)
        have hr12 : w6.rangeAt w5.heap.size 0 sc := fun i v hv => by rw [Nat.zero_add, K6.out.cell]; simpa using hv
        have hr2 : w6.rangeAt w.heap.size 0 sc := fun i v hv => by rw [Nat.zero_add, HK6.out.cell]; simpa using hv
        have HR12 := Lib.hid hr12
        have HR2 := Lib.hid hr2
        have hl6 := K6.out.lt
        have hl2 := HK6.out.lt
        have hsa := same27_yes A5 A c5 c Lm w6 HO6.out.rd ((HRB.out.below HB56.out HB.out.size).more (Nat.le_trans HB.out.size HB56.out.size)) HO6.out.maxLen
        rw [HLM.out] at hsa
        have HSA := Lib.hid hsa
        have HQ := Lib.hid (HEQ.out _ HCS.out)
        rw [HLM.out]
        clear hr12 hr2 hsa
        go_wp2_with (first
          | (refine wpL_goes rfl (goL_load 27 (.tmp 12) rfl w5.heap.size 0 rfl sc _ HR12.out Tryd.underlying27 rfl (by rw [h8]; exact setInfo)) ?_; rintro _ _ ⟨rfl, rfl⟩)
          | (refine wpL_goes rfl (goL_load 27 (.tmp 2) rfl w.heap.size 0 rfl sc _ HR2.out Tryd.underlying27 rfl (by rw [h8]; exact setInfo)) ?_; rintro _ _ ⟨rfl, rfl⟩)
          | (refine wpS_runs (.bool true) rfl (runsS_eql rfl rfl rfl (by kernel_rfl) HQ.out _) ?_)
          | (go_at_call 9; refine HSA.out.mono ?_; rintro e w7 ⟨rfl, hb7⟩; have HB7 := Lib.hid hb7; clear hb7))
        go_ret
        exact ⟨rfl, bTrans HB.out (bTrans HB56.out HB7.out)⟩
end Go.Proofs.YtlonefjbcooaaaaDoor
