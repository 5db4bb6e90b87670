/-
  The document's Parse.
-/
import Derived.Test.YtlonefjbcooaaaaDoorScRp
import Derived.Test.YtlonefjbcooaaaaDoorScM
namespace Go.Proofs.YtlonefjbcooaaaaDoor
open Go.RowKit
set_option maxRecDepth 100000
set_option linter.unusedSimpArgs false
/-- What lies in memory while the lines are read. -/
structure RW (W : World) (B k7 B1 : Nat) (ns : List Nat) (av : Value) (ps : List (List UInt8)) : Prop where
  b2 : Blk W B 27 (setC []).toArray
  b7 : Blk W k7 27 (setC ns).toArray
  row : OwnL W B1 9 1 av sF ps
section
variable {W W1 : World} {B k7 B1 : Nat} {ns : List Nat} {av : Value} {ps : List (List UInt8)}
theorem RW.below (h : RW W B k7 B1 ns av ps) (hb : Below W.heap.size W W1) : RW W1 B k7 B1 ns av ps := ⟨h.b2.on hb, h.b7.on hb, h.row.below hb⟩
theorem RW.grown (h : RW W B k7 B1 ns av ps) {base : Nat} {u : Value} {L : List (Nat × List Nat)} (ho : OwnL W base 40 6 u mvF L) (hg : W.grownBy W1 u.ownBlock) : RW W1 B k7 B1 ns av ps :=
  ⟨h.b2.keptApart ho (by decide) hg, h.b7.keptApart ho (by decide) hg, h.row.keptApart ho (by decide) hg⟩
end
set_option maxHeartbeats 8000000 in
theorem rparse_any (t : List UInt8) (w : World) :
    Calls Tryd.prog 8 #[.string ⟨t.toArray⟩] w (PQ t w) := by
  go_enter Tryd.func8, Tryd.ntmps8
  go_upto_region 1 with fail
  refine named1 (F := fun W => Code.wp _ _ _ _ W) ?_
  intro w1 k0 hb1 hz1
  have K1 := Lib.hid k0
  have HB1 := Lib.hid hb1
  have hw1 := hb1.size
  clear k0 hb1 hz1
  by_cases hlong : 200000 < t.length
  case pos =>
    obtain ⟨wx, hwx, hth, hres, -, hgx⟩ := set_put (C := (setC []).toArray) K1.out rfl rfl
    have HTH := Lib.hid hth
    have HRES := Lib.hid hres
    have HWX := Lib.hid hwx
    have HGX := Lib.hid hgx
    clear hwx hth hres hgx
    go_wp2_with (first
      | (refine wpList_built rfl 27 [] rfl (setC []).toArray [] rfl built_s0 ?_)
      | (refine wpList_store_mid rfl 27 (.tmp 2) (.tmp 19) rfl w.heap.size 0 (setC []).toArray rfl rfl HTH.out setInfo (setC_one []) ?_; rw [HWX.out]))
    exact bodyPost_ret (results_c3 (a := 2) (t := 27) (x := 3) (y := 4) (z := 5) rfl rfl (HRES.out _ rfl)) rfl (PQ.long rfl hlong ((HB1.out).grown HGX.out (HB1.out).size (fun k e => by cases e; exact Nat.le_refl _)))
  case neg =>
  have hlong : t.length ≤ 200000 := by omega
  have HC := Lib.hid (rcut_any ⟨t.toArray⟩ 10 w1 (by simp [ByteArray.size]; omega))
  have HML := Lib.hid (fun p hp => cutL_len 10 t p hp)
  have hpl := cutL_length_le 10 t
  have HPO : Hid (parseO t = parseK (cutL 10 t).length (keptL (cutL 10 t) 1)) := Lib.hid rfl
  have hne := cutL_ne 10 t
  simp only [List.toList_toArray] at HC
  obtain ⟨ps, hps⟩ : ∃ ps, cutL 10 t = ps := ⟨_, rfl⟩
  rw [hps] at HC HML HPO hpl hne
  clear hps
  have hmp := List.length_pos_iff.2 hne
  obtain ⟨m, hm⟩ : ∃ m, ps.length = m := ⟨_, rfl⟩
  rw [hm] at HC HPO hpl hmp
  have HM := Lib.hid hm
  clear hne hm
  go_upto_region 4 with (first | (go_at_call 18; refine HC.out.mono ?_; rintro e w2 ⟨A2, c2, rfl, ho2, hb2⟩; have HO2 := Lib.hid ho2; have HB2 := Lib.hid (bTrans HB1.out hb2); have K2 := Lib.hid (K1.out.on hb2); have hw2 := hb2.size; clear ho2 hb2))
  obtain ⟨gb, rfl, -, hgb0, hgb⟩ := HO2.out.formA (by rw [HM.out]; exact hmp)
  go_upto_region 5 with fail
  refine named1 (F := fun W => Code.wp _ _ _ _ W) ?_
  intro w3 k7 hb3 hz3
  have HRW3 : Hid (RW w3 w.heap.size w2.heap.size w1.heap.size [] (.slice (some ⟨gb, 0, none⟩) m c2) ps) := Lib.hid ⟨K2.out.on hb3, k7, HO2.out.below hb3⟩
  have HB3 := Lib.hid (bTrans HB2.out hb3)
  have hw3 := hb3.size
  have hwB := K1.out.lt
  clear k7 hb3 hz3 HO2 K2 HC K1 HB1 HB2
  go_wp2_with fail
  go_loopw [8, 9, 10] (fun hs out i wr => ∃ (j : Nat) (has : Bool) (ns : List Nat) (L : List (Nat × List Nat)) (A' : Option Addr) (n' c' : Nat), j ≤ m ∧ i = .int .i64 j ∧ hs = .bool has ∧ out = .slice A' n' c' ∧ Hid (OwnL wr w.heap.size 40 6 (.slice A' n' c') mvF L) ∧ Hid (RefI ps j has ns L) ∧ Hid (RW wr w.heap.size w2.heap.size w1.heap.size ns (.slice (some ⟨gb, 0, none⟩) m c2) ps) ∧ Hid (Below w.heap.size w wr)) (fun _ _ i _ => m - (intOf i).toNat)
  case atStart =>
    exact ⟨0, false, [], [], some ⟨w3.heap.size, 0, none⟩, 0, 0, Nat.zero_le _, rfl, rfl, rfl, Lib.hid (OwnL.lit [] #[] (by omega) (by simp) mvF_length rfl rfl rfl), Lib.hid (RefI.start ps), Lib.hid (HRW3.out.below (bAlloc (Below.refl _ _) _)), Lib.hid (bAlloc HB3.out _)⟩
  case round =>
    obtain ⟨j, has, ns, L, A', n', c', hj, rfl, rfl, rfl, HO9, HI, HRW, HB⟩ := hrel
    by_cases hlt : j < m
    · have hjp : j < ps.length := by rw [HM.out]; exact hlt
      have xj := HRW.out.row.one (h := fun l : List UInt8 => Value.string ⟨l.toArray⟩) (fun _ => rfl) hjp
      have hgbr := HRW.out.row.block_lt gb rfl
      have hpm := HML.out ps[j] (List.getElem_mem hjp)
      have hSK := fun hs => HI.out.skip hjp hs
      have hBD := fun hs hb => HI.out.bad hjp hs hb m
      have HFI := Lib.hid (fun (e : has = false) ns' hs hl hso => (e ▸ HI.out : RefI ps j false ns L).first (ns' := ns') hjp hs hl hso)
      have HMO := Lib.hid (fun (e : has = true) c hs hl hso => (e ▸ HI.out : RefI ps j true ns L).more (c := c) hjp hs hl hso)
      have hLl := HI.out.len
      rw [HM.out] at hSK hBD
      rw [← HPO.out] at hBD
      have HSKI := Lib.hid hSK
      have HBAD := Lib.hid hBD
      clear hSK hBD
      obtain ⟨p, hp⟩ : ∃ p, ps[j] = p := ⟨_, rfl⟩
      rw [hp] at HSKI HBAD HFI HMO hpm xj
      clear hp
      rw [HM.out] at HFI HMO
      have hcs := fun W => rsetup_any ⟨p.toArray⟩ W (by simp [ByteArray.size]; omega)
      have hcv := fun W => rmove_any ⟨p.toArray⟩ W (by simp [ByteArray.size]; omega)
      simp only [List.toList_toArray] at hcs hcv
      obtain ⟨so, hso⟩ : ∃ so, setO (cutL 32 p) = so := ⟨_, rfl⟩
      rw [hso] at hcs
      obtain ⟨nq, hnq⟩ : ∃ nq, so.getD [] = nq := ⟨_, rfl⟩
      rw [hnq] at hcs
      have HCS := Lib.hid hcs
      have HCV := Lib.hid hcv
      have HSO := Lib.hid hso
      have HNQ := Lib.hid hnq
      clear hcs hcv hso hnq
      cases p with
      | nil =>
        have HSK := Lib.hid (HSKI.out (.inl rfl))
        clear HCS HCV HFI HMO HBAD HSKI hpm
        by_cases hl : j + 1 = m
        · have gl : (((j : Nat) : Int) == ((m : Nat) : Int) - 1) = true := by rw [beq_iff_eq]; omega
          go_wp2
          go_roundw
          case rel => exact ⟨j + 1, has, ns, L, A', n', c', by omega, by go_num, rfl, rfl, HO9, HSK, HRW, HB⟩
          case measure => simp [intOf]; omega
        · have gl : (((j : Nat) : Int) == ((m : Nat) : Int) - 1) = false := by rw [beq_eq_false_iff_ne]; omega
          go_wp2
          go_roundw
          case rel => exact ⟨j + 1, has, ns, L, A', n', c', by omega, by go_num, rfl, rfl, HO9, HSK, HRW, HB⟩
          case measure => simp [intOf]; omega
      | cons y0 yr =>
        obtain ⟨p, hpp⟩ : ∃ p, y0 :: yr = p := ⟨_, rfl⟩
        have hy0 : 0 < (⟨p.toArray⟩ : ByteArray).size := by subst hpp; simp [ByteArray.size]
        have hgy : (⟨p.toArray⟩ : ByteArray)[0]'hy0 = y0 := by subst hpp; rfl
        have hhd : p.head? = some y0 := by subst hpp; rfl
        have hne : p ≠ [] := by subst hpp; simp
        have gE : p.isEmpty = false := by subst hpp; rfl
        have gE2 : (p == []) = false := by rw [beq_eq_false_iff_ne]; exact hne
        rw [hpp] at HSKI HBAD HFI HMO hpm xj HCS HCV HSO
        clear hpp
        by_cases hl : j + 1 = m
        · have gl : (((j : Nat) : Int) == ((m : Nat) : Int) - 1) = true := by rw [beq_iff_eq]; omega
          have HX := Lib.hid (HBAD.out (by rintro (e | ⟨e, -⟩); exact hne e; omega) (.inl hl))
          clear HSKI HBAD HFI HMO hgy hhd hne
          go_upto_region 14 with (first
            | (go_at_call 19; refine (HCS.out _).mono ?_; rintro e w4 ⟨rfl, hb4⟩; have HB4 := Lib.hid hb4; clear hb4)
            | (go_at_call 20; refine (HCV.out _).mono ?_; intro e w6 hq; unfold MvPost at hq; obtain ⟨⟨C, bm, rfl, hC6, hC1, hbb, hCl⟩, hb6⟩ := hq
               have HB56 := Lib.hid hb6
               have HCl := Lib.hid hCl
               have HBB := Lib.hid hbb
               clear hb6 hCl hbb)
            | (refine wpList_store_mid rfl 27 (.tmp 12) (.tmp 57) rfl w4.heap.size 0 (setC nq).toArray rfl rfl (there_new _ _ _ rfl) setInfo (setC_one _) ?_
               refine named_put (F := fun W => wpList _ _ _ _ _ W) rfl ?_
               intro w5 k12 hb5 hz5
               have HBr5 := Lib.hid (bTrans HB4.out hb5)
               have K12 := Lib.hid k12
               have hx5 := (hb5.cell (p := ⟨gb, j, none⟩) (by have := HB4.out.size; show gb < w4.heap.size; omega)).trans ((HB4.out.cell (p := ⟨gb, j, none⟩) hgbr).trans xj)
               have hl5 : gb < w5.heap.size := by have := HB4.out.size; omega
               clear k12 hb5 hz5)
            | (refine wpList_store_mid rfl 40 (.tmp 14) (.tmp 65) rfl w6.heap.size 0 C rfl rfl (there_new _ _ _ (by rw [hC6]; rfl)) (by rw [hC6]; exact mvInfo) hC1 ?_
               refine named_put (F := fun W => wpList _ _ _ _ _ W) (by rw [Array.length_toList, hC6]; rfl) ?_
               intro w7 k14 hb7 hz7
               rw [Array.toArray_toList] at k14
               have HBr7 := Lib.hid (bTrans HBr5.out (bTrans HB56.out hb7))
               have K127 := Lib.hid (K12.out.on (bTrans HB56.out hb7))
               have K14 := Lib.hid k14
               have hl14 := k14.lt
               clear k14 hb7 hz7))
          have HRW7 := Lib.hid (HRW.out.below HBr7.out)
          have HO97 := Lib.hid (HO9.out.below HBr7.out)
          have HB7 := Lib.hid (bTrans HB.out HBr7.out)
          have hl12 := K127.out.lt
          have hz7 := HB7.out.size
          clear hx5 hl5 xj HCS HCV HRW HO9 HB HBr7 K12 HB56 HBr5 HB4
          obtain ⟨wx, hwx, hth, hres, -, hgx⟩ := set_put (C := (setC []).toArray) HRW7.out.b2 rfl rfl
          have HTH := Lib.hid hth
          have HRES := Lib.hid hres
          have HWX := Lib.hid hwx
          have HGX := Lib.hid hgx
          clear hwx hth hres hgx
          go_wp2_with (first
            | (refine wpList_built rfl 27 [] rfl (setC []).toArray [] rfl built_s0 ?_)
            | (refine wpList_store_mid rfl 27 (.tmp 2) (.tmp 83) rfl w.heap.size 0 (setC []).toArray rfl rfl HTH.out setInfo (setC_one []) ?_; rw [HWX.out]))
          exact bodyPost_ret (results_c3 (a := 2) (t := 27) (x := 3) (y := 4) (z := 5) rfl rfl (HRES.out _ rfl)) rfl (PQ.fail (k := j + 1) rfl hlong HX.out ((HB7.out).grown HGX.out (HB7.out).size (fun k e => by cases e; exact Nat.le_refl _)))
        · have gl : (((j : Nat) : Int) == ((m : Nat) : Int) - 1) = false := by rw [beq_eq_false_iff_ne]; omega
          by_cases h35 : y0 = 35
          · have HSK := Lib.hid (HSKI.out (.inr ⟨by omega, by rw [hhd, h35]⟩))
            have g35 : (((((⟨p.toArray⟩ : ByteArray)[0]'hy0).toNat : Nat) : Int) == 35) = true := by rw [hgy, h35]; rfl
            clear HSKI HBAD HFI HMO hgy hhd hne HCS HCV h35
            go_wp2
            go_roundw
            case rel => exact ⟨j + 1, has, ns, L, A', n', c', by omega, by go_num, rfl, rfl, HO9, HSK, HRW, HB⟩
            case measure => simp [intOf]; omega
          · have hns : ¬ (p = [] ∨ (j + 1 < m ∧ p.head? = some 35)) := by
              rintro (e | ⟨-, e⟩)
              · exact hne e
              · rw [hhd] at e; exact h35 (Option.some.inj e)
            have g35 : (((((⟨p.toArray⟩ : ByteArray)[0]'hy0).toNat : Nat) : Int) == 35) = false := by
              rw [hgy, beq_eq_false_iff_ne]; intro e; exact h35 (UInt8.toNat_inj.1 (by show y0.toNat = 35; omega))
            have HBA := Lib.hid (fun hb => HBAD.out hns hb)
            have HFI2 := Lib.hid (fun e ns' hso => HFI.out e ns' hns hl hso)
            have HMO2 := Lib.hid (fun e c hso => HMO.out e c hns hl hso)
            clear HSKI HBAD HFI HMO hgy hhd hne hns h35
            go_upto_region 14 with (first
              | (go_at_call 19; refine (HCS.out _).mono ?_; rintro e w4 ⟨rfl, hb4⟩; have HB4 := Lib.hid hb4; clear hb4)
              | (go_at_call 20; refine (HCV.out _).mono ?_; intro e w6 hq; unfold MvPost at hq; obtain ⟨⟨C, bm, rfl, hC6, hC1, hbb, hCl⟩, hb6⟩ := hq
                 have HB56 := Lib.hid hb6
                 have HCl := Lib.hid hCl
                 have HBB := Lib.hid hbb
                 clear hb6 hCl hbb)
              | (refine wpList_store_mid rfl 27 (.tmp 12) (.tmp 57) rfl w4.heap.size 0 (setC nq).toArray rfl rfl (there_new _ _ _ rfl) setInfo (setC_one _) ?_
                 refine named_put (F := fun W => wpList _ _ _ _ _ W) rfl ?_
                 intro w5 k12 hb5 hz5
                 have HBr5 := Lib.hid (bTrans HB4.out hb5)
                 have K12 := Lib.hid k12
                 have hx5 := (hb5.cell (p := ⟨gb, j, none⟩) (by have := HB4.out.size; show gb < w4.heap.size; omega)).trans ((HB4.out.cell (p := ⟨gb, j, none⟩) hgbr).trans xj)
                 have hl5 : gb < w5.heap.size := by have := HB4.out.size; omega
                 clear k12 hb5 hz5)
              | (refine wpList_store_mid rfl 40 (.tmp 14) (.tmp 65) rfl w6.heap.size 0 C rfl rfl (there_new _ _ _ (by rw [hC6]; rfl)) (by rw [hC6]; exact mvInfo) hC1 ?_
                 refine named_put (F := fun W => wpList _ _ _ _ _ W) (by rw [Array.length_toList, hC6]; rfl) ?_
                 intro w7 k14 hb7 hz7
                 rw [Array.toArray_toList] at k14
                 have HBr7 := Lib.hid (bTrans HBr5.out (bTrans HB56.out hb7))
                 have K127 := Lib.hid (K12.out.on (bTrans HB56.out hb7))
                 have K14 := Lib.hid k14
                 have hl14 := k14.lt
                 clear k14 hb7 hz7))
            have HRW7 := Lib.hid (HRW.out.below HBr7.out)
            have HO97 := Lib.hid (HO9.out.below HBr7.out)
            have HB7 := Lib.hid (bTrans HB.out HBr7.out)
            have hl12 := K127.out.lt
            have hz7 := HB7.out.size
            clear hx5 hl5 xj HCS HCV HRW HO9 HB HBr7 K12 HB56 HBr5 HB4
            cases has with
            | false =>
              cases so with
              | none =>
                have HX := Lib.hid (HBA.out (.inr (.inl ⟨rfl, HSO.out⟩)))
                clear HBA HFI2 HMO2 HBB HCl
                obtain ⟨wx, hwx, hth, hres, -, hgx⟩ := set_put (C := (setC []).toArray) HRW7.out.b2 rfl rfl
                have HTH := Lib.hid hth
                have HRES := Lib.hid hres
                have HWX := Lib.hid hwx
                have HGX := Lib.hid hgx
                clear hwx hth hres hgx
                go_wp2_with (first
                  | (refine wpList_built rfl 27 [] rfl (setC []).toArray [] rfl built_s0 ?_)
                  | (refine wpList_store_mid rfl 27 (.tmp 2) (.tmp 83) rfl w.heap.size 0 (setC []).toArray rfl rfl HTH.out setInfo (setC_one []) ?_; rw [HWX.out]))
                exact bodyPost_ret (results_c3 (a := 2) (t := 27) (x := 3) (y := 4) (z := 5) rfl rfl (HRES.out _ rfl)) rfl (PQ.fail (k := j + 1) rfl hlong HX.out ((HB7.out).grown HGX.out (HB7.out).size (fun k e => by cases e; exact Nat.le_refl _)))
              | some nsq =>
                have hq : nsq = nq := HNQ.out
                subst hq
                have HIN := Lib.hid (HFI2.out rfl nsq HSO.out)
                have hr12 : w7.rangeAt w4.heap.size 0 (setC nsq) := fun i v hv => by rw [Nat.zero_add, K127.out.cell]; simpa using hv
                have HR12 := Lib.hid hr12
                obtain ⟨wx, hwx, hth, -, hbx, hgx⟩ := set_put (C := (setC nsq).toArray) HRW7.out.b7 rfl rfl
                have HTH := Lib.hid hth
                have HBX := Lib.hid hbx
                have HWX := Lib.hid hwx
                have HGX := Lib.hid hgx
                have hk2 := HRW7.out.b7.lt
                clear hwx hth hbx hgx hr12 HBA HFI2 HMO2 HBB HCl HI
                go_wp2_with (first
                  | (refine wpList_load_mid rfl 27 (.tmp 12) rfl w4.heap.size 0 rfl (setC nsq) _ HR12.out Tryd.underlying27 rfl setInfo ?_)
                  | (refine wpList_store_mid rfl 27 (.tmp 7) (.tmp 91) rfl w2.heap.size 0 (setC nsq).toArray rfl rfl HTH.out setInfo (setC_one _) ?_; rw [HWX.out]))
                go_roundw
                case rel =>
                  refine ⟨j + 1, true, nsq, L, A', n', c', by omega, by go_num, rfl, rfl, Lib.hid ?_, HIN, Lib.hid ⟨?_, HBX.out, ?_⟩, Lib.hid ?_⟩
                  · exact HO97.out.kept HGX.out (.inr (HRW7.out.b7.apart HO97.out (by decide)))
                  · exact HRW7.out.b2.grown HGX.out (by intro e; have := Option.some.inj e; omega)
                  · exact HRW7.out.row.kept HGX.out (.inr (HRW7.out.b7.apart HRW7.out.row (by decide)))
                  · exact HB7.out.grown HGX.out HB7.out.size (fun k e => by cases e; omega)
                case measure => simp [intOf]; omega
            | true =>
              have hbb := HBB.out
              rw [mvO_eq] at hbb
              cases hmv : mvP (cutL 32 p) with
              | none =>
                rw [hmv] at hbb
                have hbf : bm = false := hbb
                subst hbf
                have HX := Lib.hid (HBA.out (.inr (.inr ⟨rfl, hmv⟩)))
                clear HBA HFI2 HMO2 HBB HCl hbb hmv
                obtain ⟨wx, hwx, hth, hres, -, hgx⟩ := set_put (C := (setC []).toArray) HRW7.out.b2 rfl rfl
                have HTH := Lib.hid hth
                have HRES := Lib.hid hres
                have HWX := Lib.hid hwx
                have HGX := Lib.hid hgx
                clear hwx hth hres hgx
                go_wp2_with (first
                  | (refine wpList_built rfl 27 [] rfl (setC []).toArray [] rfl built_s0 ?_)
                  | (refine wpList_store_mid rfl 27 (.tmp 2) (.tmp 83) rfl w.heap.size 0 (setC []).toArray rfl rfl HTH.out setInfo (setC_one []) ?_; rw [HWX.out]))
                exact bodyPost_ret (results_c3 (a := 2) (t := 27) (x := 3) (y := 4) (z := 5) rfl rfl (HRES.out _ rfl)) rfl (PQ.fail (k := j + 1) rfl hlong HX.out ((HB7.out).grown HGX.out (HB7.out).size (fun k e => by cases e; exact Nat.le_refl _)))
              | some mv =>
                have hcl := HCl.out (mvF mv) (by rw [mvO_eq, hmv]; rfl)
                rw [hmv] at hbb
                have hbf : bm = true := hbb
                subst hbf
                have HIN := Lib.hid (HMO2.out rfl mv hmv)
                have HCM := Lib.hid hcl
                have hr14 : w7.rangeAt w6.heap.size 0 C.toList := fun i v hv => by rw [Nat.zero_add, K14.out.cell]; simpa using hv
                have HR14 := Lib.hid hr14
                clear HBA HFI2 HMO2 HBB HCl HI hbb hmv hcl hr14
                go_wp2_with (first
                  | (refine wpList_load_mid rfl 40 (.tmp 14) rfl w6.heap.size 0 rfl C.toList _ HR14.out Tryd.underlying40 rfl (by rw [Array.length_toList, hC6]; exact mvInfo) ?_; rw [Array.toArray_toList])
                  | (refine wpL_goes rfl (goL_bsN appM (by decide) (.tmp 88) rfl C hC6 rfl) ?_; rintro _ _ ⟨rfl, rfl⟩)
                  | (at_builtin; refine wpList_app appM rfl (.tmp 87) (.tmp 89) rfl w.heap.size _ L [mv] (HO97.out.alloc _) rfl _ _ 1 1 rfl rfl (rd_mv _ mv HCM.out) (by simp; omega) (by simp; omega) ?_
                     intro A8 c8 n8 w11 hn8 ho8 hg8
                     have HO8 := Lib.hid ho8
                     have HG8 := Lib.hid hg8
                     clear ho8 hg8))
                go_roundw
                case rel =>
                  refine ⟨j + 1, true, ns, L ++ [mv], A8, n8, c8, by omega, by go_num, rfl, rfl, HO8, HIN, Lib.hid ?_, Lib.hid ?_⟩
                  · exact (HRW7.out.below (bAlloc (Below.refl _ _) _)).grown (HO97.out.alloc _) HG8.out
                  · exact (bAlloc HB7.out _).grown HG8.out (by simp; omega) (fun q e => HO97.out.base_le q e)
                case measure => simp [intOf]; omega
    · obtain rfl : j = m := by omega
      have hI := HI.out
      rw [← HM.out] at hI
      have hD := hI.done ps.length
      rw [HM.out] at hD
      rw [← HPO.out] at hD
      cases has with
      | false =>
        have HX := Lib.hid (hD.1 rfl)
        clear hI hD
        obtain ⟨wx, hwx, hth, hres, -, hgx⟩ := set_put (C := (setC []).toArray) HRW.out.b2 rfl rfl
        have HTH := Lib.hid hth
        have HRES := Lib.hid hres
        have HWX := Lib.hid hwx
        have HGX := Lib.hid hgx
        clear hwx hth hres hgx
        go_wp2_with (first
          | (refine wpList_built rfl 27 [] rfl (setC []).toArray [] rfl built_s0 ?_)
          | (refine wpList_store_mid rfl 27 (.tmp 2) (.tmp 94) rfl w.heap.size 0 (setC []).toArray rfl rfl HTH.out setInfo (setC_one []) ?_; rw [HWX.out]))
        exact bodyPost_ret (results_c3 (a := 2) (t := 27) (x := 3) (y := 4) (z := 5) rfl rfl (HRES.out _ rfl)) rfl (PQ.fail (k := j) rfl hlong HX.out ((HB.out).grown HGX.out (HB.out).size (fun k e => by cases e; exact Nat.le_refl _)))
      | true =>
        have HX := Lib.hid (hD.2 rfl)
        clear hI hD
        have HPWb := HRW.out.b2
        have hr7 : wr.rangeAt w2.heap.size 0 (setC ns) := fun i v hv => by rw [Nat.zero_add, HRW.out.b7.cell]; simpa using hv
        have HR7 := Lib.hid hr7
        obtain ⟨wx, hwx, hth, hres, -, hgx⟩ := set_put (C := (setC ns).toArray) HPWb rfl rfl
        have HTH := Lib.hid hth
        have HRES := Lib.hid hres
        have HWX := Lib.hid hwx
        have HGX := Lib.hid hgx
        have h75 := HRW.out.b7.lt
        clear hwx hth hres hgx hr7
        go_wp2_with (first
          | (refine wpList_load_mid rfl 27 (.tmp 7) rfl w2.heap.size 0 rfl (setC ns) _ HR7.out Tryd.underlying27 rfl setInfo ?_)
          | (refine wpList_store_mid rfl 27 (.tmp 2) (.tmp 97) rfl w.heap.size 0 (setC ns).toArray rfl rfl HTH.out setInfo (setC_one _) ?_; rw [HWX.out]))
        exact bodyPost_ret (results_c3 (a := 2) (t := 27) (x := 3) (y := 4) (z := 5) rfl rfl (HRES.out _ rfl)) rfl (PQ.good rfl hlong HX.out (HO9.out.kept HGX.out (.inr (HPWb.apart HO9.out (by decide)))) (HB.out.grown HGX.out HB.out.size (fun k e => by cases e; exact Nat.le_refl _)))
end Go.Proofs.YtlonefjbcooaaaaDoor
