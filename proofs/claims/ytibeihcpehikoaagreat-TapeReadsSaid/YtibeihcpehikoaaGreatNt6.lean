/-
  What a body's fields are: the document's walk.
-/
import Derived.Test.YtibeihcpehikoaaGreatNt5
namespace Go.Proofs.YtibeihcpehikoaaGreat
section
open Go.RowKit
set_option maxRecDepth 100000
set_option linter.unusedSimpArgs false
set_option maxHeartbeats 8000000 in
theorem fields_any (u : ByteArray) (hs : u.size ≤ 1000000) (w : World) : Calls Tryz.prog 103 #[.string u] w fun e w' => FldQ w u e w' := by
  obtain ⟨i8, hi8, h8z, h81, h82⟩ := info_parts Tryz.infoU64
  obtain ⟨ib, hib, hbz, hb1, hb2⟩ := info_parts Tryz.infoU8
  have HPK := Lib.hid (fun sd d x m a b (h : IsPk u sd d x m a b) => h.nums)
  obtain ⟨C0, hC0⟩ : ∃ C0 : Array Value, #[.int .u32 0, .int .i64 0, .int .i64 0, .int .i64 0, .slice none 0 0, .slice none 0 0, .int .u32 0] = C0 := ⟨_, rfl⟩
  have HBT : Hid (Tryz.prog.built 76 [] = some C0) := Lib.hid (by rw [← hC0]; exact built_tp0)
  have HZ7 : Hid (C0.size = 7) := Lib.hid (by rw [← hC0]; rfl)
  have H1C : Hid (C0.all (·.oneCell') = true) := Lib.hid (by rw [← hC0]; simp [Value.oneCell'])
  have HSZ : Hid ((Tryz.prog.info? 76).map (·.size) = some C0.size) := Lib.hid (by rw [HZ7.out]; kernel_rfl)
  have HC0 : Hid (C0 = #[.int .u32 0, .int .i64 0, .int .i64 0, .int .i64 0, .slice none 0 0, .slice none 0 0, .int .u32 0]) := Lib.hid hC0.symm
  clear hC0
  by_cases h3 : u.size < 3
  · have HNO : Hid (∀ sd d x m a b, ¬ IsPk u sd d x m a b) := Lib.hid (fun sd d x m a b h => by have := (HPK.out _ _ _ _ _ _ h).2.1; omega)
    clear HPK
    go_enter Tryz.func103, Tryz.ntmps103
    go_upto_region 1 with fail
    refine named1 (F := fun W => Code.wp _ _ _ _ W) ?_
    intro w1 k0 hb1 hz1
    go_upto_region 2 with fail
    obtain ⟨wx, hwx, hth, hres, -, hgx⟩ := tape_put (C := C0) k0 rfl HZ7.out
    have HTH := Lib.hid hth
    have HRES := Lib.hid hres
    have HWX := Lib.hid hwx
    have HGX := Lib.hid hgx
    clear hwx hth hres hgx
    go_wp2_with (first
      | (refine wpList_built rfl 76 [] rfl C0 [] rfl HBT.out ?_)
      | (refine wpList_store_mid rfl 76 (.tmp 2) (.tmp 24) rfl w.heap.size 0 C0 rfl rfl HTH.out HSZ.out H1C.out ?_; rw [HWX.out]))
    exact bodyPost_ret (results_c1 (a := 2) (t := 76) (x := 3) rfl rfl (HRES.out _ rfl)) rfl ⟨((hb1).grown HGX.out (hb1).size (fun k e => by cases e; exact Nat.le_refl _)), .inr ⟨by rw [HC0.out]; rfl, HNO.out⟩⟩
  by_cases hm3 : u.data.toList.take 3 = [80, 66, 49]
  case neg =>
    have HNO : Hid (∀ sd d x m a b, ¬ IsPk u sd d x m a b) := Lib.hid (fun sd d x m a b h => hm3 (HPK.out _ _ _ _ _ _ h).1)
    have hq : ((u.extract 0 3).toList == [80, 66, 49]) = false := by
      rw [beq_eq_false_iff_ne, ByteArray.toList_eq, extract_take]
      exact hm3
    clear HPK hm3
    go_enter Tryz.func103, Tryz.ntmps103
    go_upto_region 1 with fail
    refine named1 (F := fun W => Code.wp _ _ _ _ W) ?_
    intro w1 k0 hb1 hz1
    go_upto_region 2 with fail
    obtain ⟨wx, hwx, hth, hres, -, hgx⟩ := tape_put (C := C0) k0 rfl HZ7.out
    have HTH := Lib.hid hth
    have HRES := Lib.hid hres
    have HWX := Lib.hid hwx
    have HGX := Lib.hid hgx
    clear hwx hth hres hgx
    go_wp2_with (first
      | (refine wpList_built rfl 76 [] rfl C0 [] rfl HBT.out ?_)
      | (refine wpList_store_mid rfl 76 (.tmp 2) (.tmp 24) rfl w.heap.size 0 C0 rfl rfl HTH.out HSZ.out H1C.out ?_; rw [HWX.out]))
    exact bodyPost_ret (results_c1 (a := 2) (t := 76) (x := 3) rfl rfl (HRES.out _ rfl)) rfl ⟨((hb1).grown HGX.out (hb1).size (fun k e => by cases e; exact Nat.le_refl _)), .inr ⟨by rw [HC0.out]; rfl, HNO.out⟩⟩
  case pos =>
    have hq : ((u.extract 0 3).toList == [80, 66, 49]) = true := by
      rw [ByteArray.toList_eq, extract_take, hm3]
      rfl
    have hU0 : (u.extract 3 u.size).size ≤ 1000000 := by simp; omega
    obtain ⟨U0, eU0⟩ : ∃ U0, u.extract 3 u.size = U0 := ⟨_, rfl⟩
    have HPN : Hid (∀ sd d x m a b, IsPk u sd d x m a b → U0.data.toList = [sd.toNat, d.toNat, x.toNat, a.length].flatMap numB ++ (insB a ++ (insB b ++ be4 m.toNat)) ∧ (∀ z ∈ [sd.toNat, d.toNat, x.toNat, a.length], z ≤ 4294967295)) := Lib.hid (fun sd d x m a b h => by
      rw [← eU0]
      exact (HPK.out _ _ _ _ _ _ h).2.2)
    rw [eU0] at hU0
    go_enter Tryz.func103, Tryz.ntmps103
    go_upto_region 1 with fail
    refine named1 (F := fun W => Code.wp _ _ _ _ W) ?_
    intro w1 k0 hb1 hz1
    have K1 := Lib.hid k0
    have HB1 := Lib.hid hb1
    clear k0 hb1 hz1
    go_upto_region 4 with fail
    try rw [eU0]
    clear hm3 HPK hq eU0 h3
    go_wp2
    go_loopw [0, 4, 5] (fun uv v i wr => ∃ (l : List Nat) (U : ByteArray) (A : Option Addr) (c : Nat), i = .int .i64 (l.length : Nat) ∧ l.length ≤ 4 ∧ Hid (∀ z ∈ l, z ≤ 4294967295) ∧ uv = .string U ∧ U.size ≤ 1000000 ∧ v = .slice A l.length c ∧ Hid (OwnL wr w.heap.size 163 1 (.slice A l.length c) u6C l) ∧ Hid (Blk wr w.heap.size 76 #[.int .u32 0, .int .i64 0, .int .i64 0, .int .i64 0, .slice none 0 0, .slice none 0 0, .int .u32 0]) ∧ Hid (Below w.heap.size w wr) ∧ Hid (NumsAt U0 l U)) (fun _ _ i _ => (4 - intOf i).toNat)
    case atStart => exact ⟨[], U0, some ⟨w1.heap.size, 0, none⟩, 0, rfl, by decide, Lib.hid (by simp), rfl, hU0, rfl, Lib.hid (OwnL.lit (f := u6C) (m := 1) (E := 163) (n := 0) (c := 0) [] #[] HB1.out.size (by simp) (fun _ => rfl) rfl rfl rfl), Lib.hid (K1.out.alloc _), Lib.hid (HB1.out.alloc HB1.out.size _), Lib.hid (NumsAt.start U0)⟩
    case round =>
      obtain ⟨l, U, A, c, rfl, hl, HZ, rfl, hU, rfl, HO, HK, HB, HN⟩ := hrel
      clear K1 HB1
      by_cases hl4 : l.length < 4
      · have HR := Lib.hid (rrd_any U wr (by omega))
        unfold RdR at HR
        obtain ⟨hf1, hf2, -, -⟩ := rdN_fits U.data.toList
        rw [ba_len] at hf2
        have HNO := Lib.hid (fun hx => HN.out.no hl4 hx)
        have HMO := Lib.hid (HN.out.more hl4)
        obtain ⟨v, hv⟩ : ∃ v, (rdN U.data.toList).1 = v := ⟨_, rfl⟩
        obtain ⟨z, hz⟩ : ∃ z, (rdN U.data.toList).2.1 = z := ⟨_, rfl⟩
        obtain ⟨er, her⟩ : ∃ er, (rdN U.data.toList).2.2 = er := ⟨_, rfl⟩
        rw [hv] at HR hf1 HNO HMO
        rw [hz] at HR hf2 HMO
        rw [her] at HR HNO
        clear hv hz her HN
        by_cases hbad : er ≠ 0 ∨ 4294967295 < v
        · have HNP : Hid (∀ sd d x m a b, ¬ IsPk u sd d x m a b) := Lib.hid (fun sd d x m a b h => HNO.out hbad _ _ rfl (HPN.out _ _ _ _ _ _ h).2 (HPN.out _ _ _ _ _ _ h).1)
          clear HNO HMO HPN
          by_cases he : er = 0
          · subst he
            have hv2 : 4294967295 < v := by
              rcases hbad with h | h
              · exact absurd rfl h
              · exact h
            clear hbad
            go_upto_region 10 with (first | (go_at_call 168; refine HR.out.mono ?_; rintro e w2 ⟨rfl, rfl⟩))
            obtain ⟨wx, hwx, hth, hres, -, hgx⟩ := tape_put (C := C0) HK.out rfl HZ7.out
            have HTH := Lib.hid hth
            have HRES := Lib.hid hres
            have HWX := Lib.hid hwx
            have HGX := Lib.hid hgx
            clear hwx hth hres hgx
            go_wp2_with (first
              | (refine wpList_built rfl 76 [] rfl C0 [] rfl HBT.out ?_)
              | (refine wpList_store_mid rfl 76 (.tmp 2) (.tmp 44) rfl w.heap.size 0 C0 rfl rfl HTH.out HSZ.out H1C.out ?_; rw [HWX.out]))
            exact bodyPost_ret (results_c1 (a := 2) (t := 76) (x := 3) rfl rfl (HRES.out _ rfl)) rfl ⟨((HB.out).grown HGX.out (HB.out).size (fun k e => by cases e; exact Nat.le_refl _)), .inr ⟨by rw [HC0.out]; rfl, HNP.out⟩⟩
          · have hq : (er != 0) = true := by simpa using he
            clear hbad he
            go_upto_region 10 with (first | (go_at_call 168; refine HR.out.mono ?_; rintro e w2 ⟨rfl, rfl⟩))
            obtain ⟨wx, hwx, hth, hres, -, hgx⟩ := tape_put (C := C0) HK.out rfl HZ7.out
            have HTH := Lib.hid hth
            have HRES := Lib.hid hres
            have HWX := Lib.hid hwx
            have HGX := Lib.hid hgx
            clear hwx hth hres hgx
            go_wp2_with (first
              | (refine wpList_built rfl 76 [] rfl C0 [] rfl HBT.out ?_)
              | (refine wpList_store_mid rfl 76 (.tmp 2) (.tmp 44) rfl w.heap.size 0 C0 rfl rfl HTH.out HSZ.out H1C.out ?_; rw [HWX.out]))
            exact bodyPost_ret (results_c1 (a := 2) (t := 76) (x := 3) rfl rfl (HRES.out _ rfl)) rfl ⟨((HB.out).grown HGX.out (HB.out).size (fun k e => by cases e; exact Nat.le_refl _)), .inr ⟨by rw [HC0.out]; rfl, HNP.out⟩⟩
        · obtain ⟨rfl, hv2⟩ : er = 0 ∧ v ≤ 4294967295 := by
            constructor
            · exact Decidable.byContradiction (fun h => hbad (.inl h))
            · exact Nat.le_of_not_lt (fun h => hbad (.inr h))
          clear hbad HNO
          have HZ2 : Hid (∀ z ∈ l ++ [v], z ≤ 4294967295) := Lib.hid (fun z hz => by
            rcases List.mem_append.1 hz with h | h
            · exact HZ.out z h
            · rw [List.mem_singleton.1 h]; exact hv2)
          have hwr := HB.out.size
          have hU2 : (U.extract z U.size).size ≤ U.size := by simp
          go_wp2_with (first
            | (go_at_call 168; refine HR.out.mono ?_; rintro e w2 ⟨rfl, rfl⟩)
            | (at_builtin; refine wpList_append_own _ rfl (.tmp 45) (.tmp 47) 241 rfl w.heap.size 163 i8 _ 1 8 Tryz.underlying241 hi8 h8z h81 h82 rfl (by decide) (.slice A l.length c) l.length (l.flatMap u6C) rfl ?c0 ⟨wr.heap.size, 0, none⟩ 1 1 [.int .u64 v] rfl rfl ?c1 ?c2 ?c3 ?c4 ?c5 ?_))
          case c0 => exact World.ownsRow.alloc HO.out _
          case c1 => exact cell_new_row wr #[.int .u64 v] 163 _ rfl
          case c2 => simp [Value.oneCell']
          case c3 => simp [maxLen]; omega
          case c4 => omega
          case c5 => simp; omega
          intro v' w' hown' hgr hnil
          have hb3 : Below w.heap.size w w' := Below.grown (HB.out.alloc (by omega) _) hgr (by simp; omega) HO.out.base_le
          have hw2 : OwnL w' w.heap.size 163 1 v' u6C (l ++ [v]) := by
            unfold OwnL
            rw [List.length_append, List.flatMap_append]
            simpa [u6C] using hown'
          have hk3 : Blk w' w.heap.size 76 #[.int .u32 0, .int .i64 0, .int .i64 0, .int .i64 0, .slice none 0 0, .slice none 0 0, .int .u32 0] := (HK.out.alloc _).grown hgr (by
            have := HK.out.apart HO.out (by decide)
            exact this)
          obtain ⟨A2, c2, hv2⟩ := hw2.shape
          rw [List.length_append, List.length_singleton] at hv2
          subst hv2
          have HW3 := Lib.hid hw2
          have HB3 := Lib.hid hb3
          have HK3 := Lib.hid hk3
          obtain ⟨U', eU'⟩ : ∃ U', U.extract z U.size = U' := ⟨_, rfl⟩
          rw [eU'] at HMO hU2
          have HEU := Lib.hid eU'
          clear hown' hgr hnil hw2 hb3 hk3 eU'
          go_wp2
          rw [HEU.out]
          go_roundw
          case rel => exact ⟨l ++ [v], U', A2, c2, by simp, by simp; omega, HZ2, rfl, by omega, by simp, by simpa using HW3, HK3, HB3, HMO⟩
          case measure => simp [intOf]; omega
      · obtain ⟨sd, d, x, n, rfl⟩ : ∃ sd d x n, l = [sd, d, x, n] := by
          match l, hl, hl4 with
          | [p, q, r, s], _, _ => exact ⟨p, q, r, s, rfl⟩
          | [], _, h => simp at h
          | [_], _, h => simp at h
          | [_, _], _, h => simp at h
          | [_, _, _], _, h => simp at h
          | _ :: _ :: _ :: _ :: _ :: _, h, _ => simp at h
        rw [show ([sd, d, x, n] : List Nat).length = 4 from rfl] at HO ⊢
        rw [show (((4 : Nat) : Nat) : Int) = 4 from rfl]
        have hsd := HZ.out sd (by simp)
        have hd := HZ.out d (by simp)
        have hx := HZ.out x (by simp)
        have hn := HZ.out n (by simp)
        obtain ⟨gn, rfl, -, hgn0, hgn⟩ := HO.out.formA (by simp)
        have n0 := HO.out.one (h := fun z : Nat => Value.int .u64 (z : Int)) (fun _ => rfl) (k := 0) (by simp)
        have n1 := HO.out.one (h := fun z : Nat => Value.int .u64 (z : Int)) (fun _ => rfl) (k := 1) (by simp)
        have n2 := HO.out.one (h := fun z : Nat => Value.int .u64 (z : Int)) (fun _ => rfl) (k := 2) (by simp)
        have n3 := HO.out.one (h := fun z : Nat => Value.int .u64 (z : Int)) (fun _ => rfl) (k := 3) (by simp)
        simp only [List.getElem_cons_zero, List.getElem_cons_succ] at n0 n1 n2 n3
        have HST : Hid (∀ sd' d' x' m' a' b', IsPk u sd' d' x' m' a' b' → (sd' = (sd : Nat) ∧ d' = (d : Nat) ∧ x' = (x : Nat) ∧ a'.length = n) ∧ U.data.toList = insB a' ++ (insB b' ++ be4 m'.toNat)) := Lib.hid (fun sd' d' x' m' a' b' h => by
          obtain ⟨h1, h2⟩ := HPN.out _ _ _ _ _ _ h
          obtain ⟨e1, e2⟩ := HN.out _ _ rfl h2 h1
          obtain ⟨g1, g2, g3, g4, -⟩ := h
          obtain ⟨⟨q1, q2⟩, -, q3, ⟨q4, q5⟩, -, -⟩ := right_parts (rightTq_tp g4)
          simp only [List.length_cons, List.length_nil, List.take_succ_cons, List.take_zero, List.cons.injEq, and_true] at e1
          have := g1.1
          exact ⟨by omega, by simpa using e2⟩)
        clear HN HPN hl hl4 HZ
        by_cases hn2 : n ≤ 20000
        case neg =>
          have HNP : Hid (∀ sd d x m a b, ¬ IsPk u sd d x m a b) := Lib.hid (fun sd' d' x' m' a' b' h => by
            have h1 := (HST.out _ _ _ _ _ _ h).1
            have := h.2.2.1
            omega)
          clear HST
          go_upto_region 14 with fail
          obtain ⟨wx, hwx, hth, hres, -, hgx⟩ := tape_put (C := C0) HK.out rfl HZ7.out
          have HTH := Lib.hid hth
          have HRES := Lib.hid hres
          have HWX := Lib.hid hwx
          have HGX := Lib.hid hgx
          clear hwx hth hres hgx
          go_wp2_with (first
            | (refine wpList_built rfl 76 [] rfl C0 [] rfl HBT.out ?_)
            | (refine wpList_store_mid rfl 76 (.tmp 2) (.tmp 56) rfl w.heap.size 0 C0 rfl rfl HTH.out HSZ.out H1C.out ?_; rw [HWX.out]))
          exact bodyPost_ret (results_c1 (a := 2) (t := 76) (x := 3) rfl rfl (HRES.out _ rfl)) rfl ⟨((HB.out).grown HGX.out (HB.out).size (fun k e => by cases e; exact Nat.le_refl _)), .inr ⟨by rw [HC0.out]; rfl, HNP.out⟩⟩
        case pos =>
          go_upto_region 15 with fail
          have hKp := Keeps.base wr
          refine wp_region_mixedT [.pure, .pure, .held, .pure, .pure, .pure, .held, .pure, .pure, .pure, .held, .pure, .pure, .pure, .make, .tail] (fun | _ => newTold wr 76 #[.int .u32 0, .int .i64 0, .int .i64 0, .int .i64 0, .slice none 0 0, .slice none 0 0, .int .u32 0]) (by kernel_rfl) (by kernel_rfl) ?_
          iterate 12 (first | (refine mix_pure rfl rfl rfl (fun K hK => ?_); go_big_quiet_op; refine hK _ ?_; clear hK K) | (refine mix_held rfl rfl rfl (by assumption) (fun K hK => ?_); go_big_quiet_op; refine hK _ ?_; clear hK K))
          refine mix_built rfl rfl 24 [(0, .tmp 60), (1, .tmp 64), (2, .tmp 68)] rfl _ _ rfl (built_cfg (sd : Nat) (d : Nat) (x : Nat)) ?_
          simp only [Act.put, List.setIfInBounds_toArray, List.set_cons_zero, List.set_cons_succ]
          refine mix_built rfl rfl 76 [(0, .tmp 69)] rfl _ _ rfl (built_tp1 (sd : Nat) (d : Nat) (x : Nat) 0) ?_
          simp only [Act.put, List.setIfInBounds_toArray, List.set_cons_zero, List.set_cons_succ]
          refine mix_make rfl rfl (by assumption) newTold_st (newTold_makes rfl zero_tape rfl) ?_
          rintro v ⟨gt, rfl⟩ hKp4
          simp only [Act.put, List.setIfInBounds_toArray, List.set_cons_zero, List.set_cons_succ]
          refine mix_store rfl rfl 76 (.tmp 9) (.tmp 70) rfl gt 0 #[.int .u32 (sd : Nat), .int .i64 (d : Nat), .int .i64 (x : Nat), .int .i64 0, .slice none 0 0, .slice none 0 0, .int .u32 0] rfl rfl (fun V hV => ?_) (by kernel_rfl) (by simp [Value.oneCell']) ?_
          · exact Blk.there (hV.2 gt rfl).2 (by show 0 + 7 ≤ 7; decide)
          simp only [Act.put, List.setIfInBounds_toArray, List.set_cons_zero, List.set_cons_succ]
          refine mix_nil ?_
          rintro V' ⟨V, hD, rfl⟩
          obtain ⟨hg, hR⟩ := hD
          obtain ⟨hge, hBg⟩ := hR gt rfl
          have hg : Grown wr V := hg
          have hwr := HB.out.size
          have t8 := hBg.whole [.int .u32 (sd : Nat), .int .i64 (d : Nat), .int .i64 (x : Nat), .int .i64 0, .slice none 0 0, .slice none 0 0, .int .u32 0] rfl
          have k8 := (HK.out.on hg).farC (show w.heap.size ≠ gt by have := HK.out.lt; omega) 0 [.int .u32 (sd : Nat), .int .i64 (d : Nat), .int .i64 (x : Nat), .int .i64 0, .slice none 0 0, .slice none 0 0, .int .u32 0]
          have o8 : OwnL (V.setCells gt 0 [.int .u32 (sd : Nat), .int .i64 (d : Nat), .int .i64 (x : Nat), .int .i64 0, .slice none 0 0, .slice none 0 0, .int .u32 0]) w.heap.size 163 1 _ u6C [sd, d, x, n] := OwnL.kept (row := some gt) (HO.out.below hg) (oSetCells (oRefl _ _) 0 _) (.inr (hBg.apart (HO.out.below hg) (by decide)))
          have b8 := bSetCells (bTrans HB.out hg) (show w.heap.size ≤ gt by omega) 0 [.int .u32 (sd : Nat), .int .i64 (d : Nat), .int .i64 (x : Nat), .int .i64 0, .slice none 0 0, .slice none 0 0, .int .u32 0]
          obtain ⟨w8, hw8⟩ : ∃ w8, V.setCells gt 0 [.int .u32 (sd : Nat), .int .i64 (d : Nat), .int .i64 (x : Nat), .int .i64 0, .slice none 0 0, .slice none 0 0, .int .u32 0] = w8 := ⟨_, rfl⟩
          rw [hw8] at t8 k8 o8 b8
          first | rw [hw8] | (show Exit.then _ _ _ _ (V.setCells gt 0 [.int .u32 (sd : Nat), .int .i64 (d : Nat), .int .i64 (x : Nat), .int .i64 0, .slice none 0 0, .slice none 0 0, .int .u32 0]); rw [hw8])
          have T8 : Hid (Blk w8 gt 76 #[.int .u32 (sd : Nat), .int .i64 (d : Nat), .int .i64 (x : Nat), .int .i64 0, .slice none 0 0, .slice none 0 0, .int .u32 0]) := Lib.hid t8
          have K8 := Lib.hid k8
          have O8 := Lib.hid o8
          have HB8 := Lib.hid b8
          have hgt : w.heap.size < gt := by have := HK.out.lt; omega
          clear t8 k8 o8 b8 hw8 hBg hR hge hg hKp hKp4 HO HK HB n0 n1 n2 n3 hwr
          go_upto_region 17 with fail
          have HG0 : Hid (FL2 u w gt gn c sd d x n 0 U w8) := Lib.hid (.inl ⟨rfl, ⟨K8.out, T8.out, O8.out, HB8.out⟩, fun sd' d' x' m' a' b' h => by
            obtain ⟨⟨-, -, -, e4⟩, e5⟩ := HST.out _ _ _ _ _ _ h
            obtain ⟨-, -, q3, -, q6, -⟩ := right_parts (rightTq_tp h.2.2.2.1)
            exact ⟨rfl, e4, fun z hz => by have := q6 z hz; omega, e5⟩⟩)
          have HS4 : Hid (∀ sd' d' x' m' a' b', IsPk u sd' d' x' m' a' b' → sd' = (sd : Nat) ∧ d' = (d : Nat) ∧ x' = (x : Nat)) := Lib.hid (fun sd' d' x' m' a' b' h => by
            obtain ⟨⟨e1, e2, e3, -⟩, -⟩ := HST.out _ _ _ _ _ _ h
            exact ⟨e1, e2, e3⟩)
          have hw8 := HB8.out.size
          clear HST T8 K8 O8 hgn hgn0
          go_loopw [0, 10] (fun uv iv wr => ∃ (i : Nat) (R : ByteArray), iv = .int .i64 i ∧ i ≤ 2 ∧ uv = .string R ∧ R.size ≤ 1000000 ∧ Hid (FL2 u w gt gn c sd d x n i R wr) ∧ w.heap.size ≤ wr.heap.size) (fun _ iv _ => (2 - intOf iv).toNat)
          case atStart => exact ⟨0, U, rfl, by decide, rfl, hU, HG0, hw8⟩
          case round =>
            obtain ⟨i, Q, rfl, hi, rfl, hQ, HF, hwz⟩ := hrel
            clear HG0 HB8 hw8 hU
            by_cases hi2 : i < 2
            · obtain ⟨KEEP, hk0, hcore, hon, hbyte, hnone, hfin⟩ := HF.out.open_ hgt hi2
              have HCO := Lib.hid hcore
              have HON := Lib.hid hon
              have HBY := Lib.hid hbyte
              have HNN := Lib.hid hnone
              have HFI := Lib.hid hfin
              have HK0 := Lib.hid hk0
              clear hk0 hcore hon hbyte hnone hfin HF
              have HK1 : Hid (KEEP (wr.alloc (.cells #[] 5))) := Lib.hid (HON.out _ _ HK0.out (bAlloc (Below.refl _ _) _))
              have HO1 : Hid (OwnL (wr.alloc (.cells #[] 5)) wr.heap.size 5 1 (.slice (some ⟨wr.heap.size, 0, none⟩) 0 0) btC []) := Lib.hid (OwnL.lit (f := btC) (m := 1) (E := 5) (n := 0) (c := 0) [] #[] (Nat.le_refl _) (by simp) (fun _ => rfl) rfl rfl rfl)
              obtain ⟨m0, hm0⟩ : ∃ m0, wr.heap.size = m0 := ⟨_, rfl⟩
              rw [hm0] at HBY HFI HO1
              have HM0 := Lib.hid hm0
              have hwm : w.heap.size ≤ m0 := by rw [← hm0]; exact hwz
              clear hm0
              go_wp2
              rw [show decide ((i : Int) < 2) = true from decide_eq_true (by omega)]
              go_loopw [0, 11] (fun uv v wr => ∃ (l : List Nat) (R : ByteArray) (A : Option Addr) (cA : Nat), uv = .string R ∧ R.size ≤ 1000000 ∧ v = .slice A l.length cA ∧ Hid (OwnL wr m0 5 1 (.slice A l.length cA) btC l) ∧ l.length ≤ n ∧ Hid (KEEP wr) ∧ Hid (StandsAt Q false n l R false) ∧ m0 ≤ wr.heap.size) (fun _ v _ => n - slN v)
              case atStart => exact ⟨[], Q, some ⟨wr.heap.size, 0, none⟩, 0, rfl, hQ, rfl, by rw [HM0.out]; exact HO1, Nat.zero_le _, HK1, Lib.hid StandsAt.start, by rw [World.size_alloc, HM0.out]; omega⟩
              case round =>
                obtain ⟨l, R, A, cA, rfl, hR, rfl, HO, hl, HK, HS, hmz⟩ := hrel
                clear HK1 HO1 HK0 HM0
                obtain ⟨C, hC, hfk⟩ := HCO.out _ HK.out
                have n3 := hfk.num.one (h := fun z : Nat => Value.int .u64 (z : Int)) (fun _ => rfl) (k := 3) (by simp)
                simp only [List.getElem_cons_zero, List.getElem_cons_succ] at n3
                have HFK := Lib.hid hfk
                clear hfk
                by_cases hlt : l.length < n
                · by_cases h1 : 1 ≤ R.size
                  · have hR1 : (R.extract 1 R.size).size = R.size - 1 := by simp
                    have HNO := Lib.hid (fun hx => HS.out.no hlt hn2 hx)
                    have HMO := Lib.hid (fun k c hk hc => HS.out.more (k := k) (c := c) hlt hn2 hk h1 hc)
                    have HEX : Hid (∀ z, R.extract (1 + z) R.size = (R.extract 1 R.size).extract z (R.extract 1 R.size).size) := Lib.hid (fun z => data_ext _ _ (by rw [extract_drop, extract_drop, extract_drop, List.drop_drop]))
                    obtain ⟨R1, eR1⟩ : ∃ R1, R.extract 1 R.size = R1 := ⟨_, rfl⟩
                    rw [eR1] at HNO HMO HEX hR1
                    have HE1 := Lib.hid eR1
                    have HR := Lib.hid (fun V => rrd_any R1 V (by omega))
                    unfold RdR at HR
                    obtain ⟨hf1, hf2, -, -⟩ := rdN_fits R1.data.toList
                    rw [ba_len] at hf2
                    have HOK : Hid (nrOk R1 false (n - l.length) ↔ ((rdN R1.data.toList).2.2 = 0 ∧ (rdN R1.data.toList).1 ≤ n - l.length)) := Lib.hid ⟨fun h => h.2, fun h => ⟨rfl, h.1, h.2⟩⟩
                    obtain ⟨v, hv⟩ : ∃ v, (rdN R1.data.toList).1 = v := ⟨_, rfl⟩
                    obtain ⟨z, hz⟩ : ∃ z, (rdN R1.data.toList).2.1 = z := ⟨_, rfl⟩
                    obtain ⟨er, her⟩ : ∃ er, (rdN R1.data.toList).2.2 = er := ⟨_, rfl⟩
                    rw [hv] at HR hf1 HNO HMO HOK
                    rw [hz] at HR hf2 HMO
                    rw [her] at HR HOK
                    clear hv hz her HS eR1
                    have hex : R.extract 1 R.size = R1 := HE1.out
                    by_cases hbad : er ≠ 0 ∨ v = 0 ∨ n - l.length < v
                    · have HNP : Hid (∀ sd d x m a b, ¬ IsPk u sd d x m a b) := Lib.hid (HNN.out (HNO.out (.inr (by
                        rcases hbad with h | h | h
                        · exact .inl (fun h2 => h (HOK.out.1 h2).1)
                        · exact .inr h
                        · exact .inl (fun h2 => by have := (HOK.out.1 h2).2; omega)))))
                      have HKR := Lib.hid (HFK.out.res)
                      have HKB := Lib.hid (HFK.out.below)
                      clear HNO HMO HOK HNN HFI HBY HON HCO HEX HS4 HFK HO HK
                      have hcas : (∃ q, (er != 0) = q ∧ q = true) ∨ (er = 0 ∧ v = 0) ∨ (er = 0 ∧ v ≠ 0 ∧ n - l.length < v) := by
                        by_cases he : er = 0
                        · by_cases hv0 : v = 0
                          · exact .inr (.inl ⟨he, hv0⟩)
                          · refine .inr (.inr ⟨he, hv0, ?_⟩)
                            rcases hbad with h | h | h
                            · exact absurd he h
                            · exact absurd h hv0
                            · exact h
                        · exact .inl ⟨_, rfl, by simpa using he⟩
                      clear hbad
                      rcases hcas with ⟨q, hq, rfl⟩ | ⟨rfl, rfl⟩ | ⟨rfl, hv0, hgt2⟩
                      case' inr.inr => have hvz : ((v : Int) == 0) = false := by simp; omega
                      all_goals
                        go_upto_region 25 with (first | (go_at_call 168; refine (HR.out _).mono ?_; rintro e w2 ⟨rfl, rfl⟩))
                        obtain ⟨wx, hwx, hth, hres, -, hgx⟩ := tape_put (C := C0) HKR.out rfl HZ7.out
                        have HTH := Lib.hid hth
                        have HRES := Lib.hid hres
                        have HWX := Lib.hid hwx
                        have HGX := Lib.hid hgx
                        clear hwx hth hres hgx
                        go_wp2_with (first
                          | (refine wpList_built rfl 76 [] rfl C0 [] rfl HBT.out ?_)
                          | (refine wpList_store_mid rfl 76 (.tmp 2) (.tmp 111) rfl w.heap.size 0 C0 rfl rfl HTH.out HSZ.out H1C.out ?_; rw [HWX.out]))
                        exact bodyPost_ret (results_c1 (a := 2) (t := 76) (x := 3) rfl rfl (HRES.out _ rfl)) rfl ⟨((HKB.out).grown HGX.out (HKB.out).size (fun k e => by cases e; exact Nat.le_refl _)), .inr ⟨by rw [HC0.out]; rfl, HNP.out⟩⟩
                    · obtain ⟨rfl, hv0, hvm⟩ : er = 0 ∧ v ≠ 0 ∧ v ≤ n - l.length := by
                        refine ⟨Decidable.byContradiction (fun h => hbad (.inl h)), fun h => hbad (.inr (.inl h)), Nat.le_of_not_lt (fun h => hbad (.inr (.inr h)))⟩
                      have hvz : ((v : Int) == 0) = false := by simp; omega
                      obtain ⟨c0, hc0⟩ : ∃ c0, R[0].toNat = c0 := ⟨_, rfl⟩
                      have hc256 : c0 < 256 := by have := UInt8.toNat_lt R[0]; omega
                      have HMM := Lib.hid (HMO.out v c0 rfl hc0)
                      rw [← HEX.out z] at HMM
                      have hR2 : (R.extract (1 + z) R.size).size ≤ R.size := by simp
                      obtain ⟨R2, eR2⟩ : ∃ R2, R.extract (1 + z) R.size = R2 := ⟨_, rfl⟩
                      rw [eR2] at HMM hR2
                      have HE2 := Lib.hid eR2
                      clear hbad HNO HMO HOK HEX eR2
                      go_upto_region 26 with (first | (go_at_call 168; refine (HR.out _).mono ?_; rintro e w2 ⟨rfl, rfl⟩))
                      clear n3 HR
                      go_wp2
                      go_loopw [11, 15] (fun vv jv wr => ∃ (j : Nat) (A : Option Addr) (cA : Nat), j ≤ v ∧ jv = .int .u64 j ∧ vv = .slice A (l.length + j) cA ∧ Hid (OwnL wr m0 5 1 (.slice A (l.length + j) cA) btC (l ++ List.replicate j c0)) ∧ Hid (KEEP wr) ∧ m0 ≤ wr.heap.size) (fun _ jv _ => v - (intOf jv).toNat)
                      case atStart => exact ⟨0, A, cA, Nat.zero_le _, rfl, rfl, Lib.hid (by simpa using HO.out), HK, hmz⟩
                      case round =>
                        obtain ⟨j, A', c', hj, rfl, rfl, HOq, HKq, hmq⟩ := hrel
                        clear HO HK hmz HFK
                        by_cases hjk : j < v
                        · go_wp2_with (at_builtin; refine wpList_append_own _ rfl (.tmp 117) (.tmp 120) 25 rfl m0 5 ib _ 1 1 Tryz.underlying25 hib hbz hb1 hb2 rfl (by decide) (.slice A' (l.length + j) c') (l.length + j) ((l ++ List.replicate j c0).flatMap btC) rfl ?c0 ⟨wr.heap.size, 0, none⟩ 1 1 [.int .u8 c0] rfl rfl ?c1 ?c2 ?c3 ?c4 ?c5 ?_)
                          case c0 =>
                            have h := World.ownsRow.alloc HOq.out (.cells #[.int .u8 (c0 : Nat)] 5)
                            rwa [List.length_append, List.length_replicate] at h
                          case c1 => exact cell_new_row wr #[.int .u8 c0] 5 _ rfl
                          case c2 => simp [Value.oneCell']
                          case c3 => simp [maxLen]; omega
                          case c4 => omega
                          case c5 => simp; omega
                          intro v' w' hown' hgr hnil
                          have ho1 : OwnL (wr.alloc (.cells #[.int .u8 (c0 : Nat)] 5)) m0 5 1 (.slice A' (l.length + j) c') btC (l ++ List.replicate j c0) := HOq.out.alloc _
                          have hk3 : KEEP w' := HBY.out _ _ _ _ (HON.out _ _ HKq.out (bAlloc (Below.refl _ _) _)) ho1 hgr
                          have hsz : m0 ≤ w'.heap.size := by have := hgr.size; rw [World.size_alloc] at this; omega
                          have hw2 : OwnL w' m0 5 1 v' btC (l ++ List.replicate (j + 1) c0) := by
                            unfold OwnL
                            rw [List.replicate_succ', ← List.append_assoc, List.length_append, List.flatMap_append, List.length_append, List.length_replicate]
                            simpa [btC] using hown'
                          obtain ⟨A2, c2, hv2⟩ := hw2.shape
                          rw [List.length_append, List.length_replicate] at hv2
                          subst hv2
                          have HW3 := Lib.hid hw2
                          have HK3 := Lib.hid hk3
                          clear hown' hgr hnil hw2 hk3 ho1
                          go_wp2
                          go_roundw
                          case rel => exact ⟨j + 1, A2, c2, by omega, by go_num, rfl, HW3, HK3, hsz⟩
                          case measure => simp [intOf]; omega
                        · obtain rfl : j = v := by omega
                          clear hjk
                          go_wp2
                          go_roundw
                          case rel => exact ⟨l ++ List.replicate j c0, R2, A', c', by rw [HE2.out], by omega, by simp, Lib.hid (by simpa using HOq.out), by simp; omega, HKq, HMM, hmq⟩
                          case measure => simp [slN]; omega
                  · have HNP : Hid (∀ sd d x m a b, ¬ IsPk u sd d x m a b) := Lib.hid (HNN.out (HS.out.no hlt hn2 (.inl (by omega))))
                    have HKR := Lib.hid (HFK.out.res)
                    have HKB := Lib.hid (HFK.out.below)
                    clear HNN HFI HBY HON HCO HS4 HFK HO HK HS
                    go_upto_region 22 with fail
                    obtain ⟨wx, hwx, hth, hres, -, hgx⟩ := tape_put (C := C0) HKR.out rfl HZ7.out
                    have HTH := Lib.hid hth
                    have HRES := Lib.hid hres
                    have HWX := Lib.hid hwx
                    have HGX := Lib.hid hgx
                    clear hwx hth hres hgx
                    go_wp2_with (first
                      | (refine wpList_built rfl 76 [] rfl C0 [] rfl HBT.out ?_)
                      | (refine wpList_store_mid rfl 76 (.tmp 2) (.tmp 86) rfl w.heap.size 0 C0 rfl rfl HTH.out HSZ.out H1C.out ?_; rw [HWX.out]))
                    exact bodyPost_ret (results_c1 (a := 2) (t := 76) (x := 3) rfl rfl (HRES.out _ rfl)) rfl ⟨((HKB.out).grown HGX.out (HKB.out).size (fun k e => by cases e; exact Nat.le_refl _)), .inr ⟨by rw [HC0.out]; rfl, HNP.out⟩⟩
                · have hln : l.length = n := by omega
                  have HST : Hid (∀ (L : List Nat) (rest : List UInt8), Stands Q false n L rest → l = L ∧ R.data.toList = rest) := Lib.hid (fun L rest hL => by
                    obtain ⟨-, r, e1, e2⟩ := HS.out L rest hL
                    have h1 := hL.2.1
                    rw [e1, List.length_append] at h1
                    obtain rfl : r = [] := List.eq_nil_of_length_eq_zero (by omega)
                    exact ⟨by rw [e1]; simp, by rw [e2]; rfl⟩)
                  have HNX := Lib.hid (HFI.out _ A cA l R HK.out HO.out hln HST.out)
                  rw [hln] at HNX
                  have t4 : wr.cell? ⟨gt, 4, none⟩ = some (C[4]'(by omega)) := by rw [HFK.out.tp.cell 4, Array.getElem?_eq_getElem (by omega)]
                  have t5 : wr.cell? ⟨gt, 5, none⟩ = some (C[5]'(by omega)) := by rw [HFK.out.tp.cell 5, Array.getElem?_eq_getElem (by omega)]
                  have f4 := HFK.out.tp.frozen 4
                  have f5 := HFK.out.tp.frozen 5
                  have lt4 := HFK.out.tp.lt
                  have hwq := HFK.out.below.size
                  clear HNN HFI HBY HON HCO HFK HO HK HS HST
                  have hi01 : i = 0 ∨ i = 1 := by omega
                  rcases hi01 with rfl | rfl
                  all_goals
                    go_wp2
                    go_roundw
                    case rel => exact ⟨_, R, rfl, by decide, rfl, hR, HNX, by rw [World.size_setCell]; omega⟩
                    case measure => simp [intOf]
            · obtain rfl : i = 2 := by omega
              rcases HF.out with ⟨h, -⟩ | ⟨h, -⟩ | ⟨-, A, B, cA, cB, a, b, hfk, hoa, hob, hla, hlb, hst⟩
              · cases h
              · cases h
              have HST := Lib.hid hst
              have OA := Lib.hid hoa
              have OB := Lib.hid hob
              have HRS := Lib.hid hfk.res
              have HTP := Lib.hid hfk.tp
              have HBL := Lib.hid hfk.below
              clear HF hfk hoa hob hst
              by_cases hr4 : Q.size = 4
              · have HWD := Lib.hid (fun V => word7_any Q (by omega) V)
                have hwv : wordV Q.data.toList < 4294967296 := by
                  have := wordV_lt Q.data.toList
                  rw [ba_len, hr4] at this
                  exact Nat.lt_of_lt_of_le this (by decide)
                have HFM : Hid (∀ sd' d' x' m' a' b', IsPk u sd' d' x' m' a' b' → sd' = (sd : Nat) ∧ d' = (d : Nat) ∧ x' = (x : Nat) ∧ m' = (wordV Q.data.toList : Nat) ∧ a' = a ∧ b' = b) := Lib.hid (fun sd' d' x' m' a' b' h => by
                  obtain ⟨e1, e2, e3⟩ := HS4.out _ _ _ _ _ _ h
                  obtain ⟨e4, e5, e6⟩ := HST.out _ _ _ _ _ _ h
                  have h1 := h.2.1.1
                  have h2 := h.2.1.2
                  have e7 : wordV Q.data.toList = m'.toNat := by rw [e6]; exact wordV_be4 _ (by omega)
                  exact ⟨e1, e2, e3, by rw [e7]; omega, e4, e5⟩)
                obtain ⟨m, hm⟩ : ∃ m, wordV Q.data.toList = m := ⟨_, rfl⟩
                rw [hm] at HWD hwv HFM
                have t6 := HTP.out.cell 6
                have f6 := HTP.out.frozen 6
                have l6 := HTP.out.lt
                simp only [List.getElem?_toArray, List.getElem?_cons_zero, List.getElem?_cons_succ] at t6
                clear HST HS4 hm
                go_upto_region 37 with (first | (go_at_call 169; refine (HWD.out _).mono ?_; rintro e w2 ⟨rfl, rfl⟩))
                have kk := HRS.out.farG (show w.heap.size ≠ gt by omega) 6 (.int .u32 (m : Nat))
                have tt : Blk (wr.setCell ⟨gt, 6, none⟩ (.int .u32 (m : Nat))) gt 76 #[.int .u32 (sd : Nat), .int .i64 (d : Nat), .int .i64 (x : Nat), .int .i64 0, .slice A a.length cA, .slice B b.length cB, .int .u32 (m : Nat)] := HTP.out.set 6 (.int .u32 (m : Nat))
                have bb := bSetG HBL.out (show w.heap.size ≤ gt by omega) 6 (.int .u32 (m : Nat))
                have oo := OA.out.farG (HTP.out.apart OA.out (by decide)) 6 (.int .u32 (m : Nat))
                have pp := OB.out.farG (HTP.out.apart OB.out (by decide)) 6 (.int .u32 (m : Nat))
                obtain ⟨w15, hw15⟩ : ∃ w15, wr.setCell ⟨gt, 6, none⟩ (.int .u32 (m : Nat)) = w15 := ⟨_, rfl⟩
                rw [hw15] at kk tt bb oo pp ⊢
                obtain ⟨C1, hC1⟩ : ∃ C1 : Array Value, #[.int .u32 (sd : Nat), .int .i64 (d : Nat), .int .i64 (x : Nat), .int .i64 0, .slice A a.length cA, .slice B b.length cB, .int .u32 (m : Nat)] = C1 := ⟨_, rfl⟩
                rw [hC1] at tt
                have HC1 := Lib.hid hC1.symm
                have HY7 : Hid (C1.size = 7) := Lib.hid (by rw [← hC1]; rfl)
                have HY1 : Hid (C1.all (·.oneCell') = true) := Lib.hid (by rw [← hC1]; simp [Value.oneCell'])
                have HYZ : Hid ((Tryz.prog.info? 76).map (·.size) = some C1.size) := Lib.hid (by rw [HY7.out]; kernel_rfl)
                have HRG : Hid (w15.rangeAt gt 0 C1.toList) := Lib.hid (Blk.range (by simpa using tt))
                obtain ⟨wx, hwx, hth, hres, -, hgx⟩ := tape_put (C := C1) kk rfl HY7.out
                have HTH := Lib.hid hth
                have HRES := Lib.hid hres
                have HWX := Lib.hid hwx
                have HGX := Lib.hid hgx
                have HOA := Lib.hid (OwnL.kept (row := some w.heap.size) oo hgx (.inr (kk.apart oo (by decide))))
                have HOB := Lib.hid (OwnL.kept (row := some w.heap.size) pp hgx (.inr (kk.apart pp (by decide))))
                have HB15 := Lib.hid bb
                have hla2 : a.length ≤ 20000 := by omega
                have hlb2 : b.length ≤ 20000 := by omega
                clear hC1 hwx hth hres hgx kk tt bb oo pp hw15 HTP HRS HBL OA OB t6 f6 l6 hla hlb
                go_wp2_with (first
                  | (refine wpList_load_mid rfl 76 (.tmp 9) rfl gt 0 rfl C1.toList _ HRG.out Tryz.underlying76 rfl (by rw [Array.length_toList]; exact HYZ.out) ?_; rw [Array.toArray_toList])
                  | (refine wpList_store_mid rfl 76 (.tmp 2) (.tmp 140) rfl w.heap.size 0 C1 rfl rfl HTH.out HYZ.out HY1.out ?_; rw [HWX.out]))
                exact bodyPost_ret (results_c1 (a := 2) (t := 76) (x := 3) rfl rfl (HRES.out _ rfl)) rfl ⟨HB15.out.grown HGX.out HB15.out.size (fun k e => by cases e; exact Nat.le_refl _), .inl ⟨sd, d, x, m, a, b, A, B, cA, cB, by rw [HC1.out]; rfl, hsd, by omega, hla2, hlb2, HOA.out, HOB.out, HFM.out⟩⟩
              · have HNP : Hid (∀ sd d x m a b, ¬ IsPk u sd d x m a b) := Lib.hid (fun sd' d' x' m' a' b' h => by
                  obtain ⟨-, -, e6⟩ := HST.out _ _ _ _ _ _ h
                  refine hr4 ?_
                  rw [← ba_len, e6, be4_length])
                have hq : ((Q.size : Int) != 4) = true := by simp; omega
                clear HST HS4 HTP OA OB
                go_upto_region 35 with fail
                obtain ⟨wx, hwx, hth, hres, -, hgx⟩ := tape_put (C := C0) HRS.out rfl HZ7.out
                have HTH := Lib.hid hth
                have HRES := Lib.hid hres
                have HWX := Lib.hid hwx
                have HGX := Lib.hid hgx
                clear hwx hth hres hgx
                go_wp2_with (first
                  | (refine wpList_built rfl 76 [] rfl C0 [] rfl HBT.out ?_)
                  | (refine wpList_store_mid rfl 76 (.tmp 2) (.tmp 135) rfl w.heap.size 0 C0 rfl rfl HTH.out HSZ.out H1C.out ?_; rw [HWX.out]))
                exact bodyPost_ret (results_c1 (a := 2) (t := 76) (x := 3) rfl rfl (HRES.out _ rfl)) rfl ⟨((HBL.out).grown HGX.out (HBL.out).size (fun k e => by cases e; exact Nat.le_refl _)), .inr ⟨by rw [HC0.out]; rfl, HNP.out⟩⟩
end
end Go.Proofs.YtibeihcpehikoaaGreat
