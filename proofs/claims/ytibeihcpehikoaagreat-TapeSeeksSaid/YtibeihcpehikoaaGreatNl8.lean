/-
  The walks beneath: TapO, TapD, StEq, TapN.
-/
import Derived.Test.YtibeihcpehikoaaGreatNl7
namespace Go.Proofs.YtibeihcpehikoaaGreat
open Go.RowKit
set_option maxRecDepth 100000
set_option maxHeartbeats 16000000
set_option linter.unusedSimpArgs false
section
attribute [local irreducible] wpMixU
theorem tinp_none (s d x y m f : Int) (A B : Option Addr) (n c n' c' : Nat) (w : World) (hf : f < d) (hd : 0 ≤ d ∧ d ≤ 8) (hf0 : 0 ≤ f) :
  Calls Tryz.prog 85 #[.agg #[.int .u32 s, .int .i64 d, .int .i64 x, .int .i64 y, .slice A n c, .slice B n' c', .int .u32 m], .int .i64 f] w fun e w' => e = .returned (.agg #[.int .u8 0, .int .u8 0]) ∧ Below w.heap.size w w' := by
 go_enter Tryz.func85, Tryz.ntmps85
 go_upto_region 1 with fail
 refine named2 (F := fun W => Code.wp _ _ _ _ W) ?_
 intro w1 k0 k1 hb1 hz1
 have q7 := k0; have r0a := q7.cell 0; have r0b := q7.cell 1; have r0c := q7.cell 2; have r0d := q7.cell 3; have r0e := q7.cell 4; have r0f := q7.cell 5; have r0g := q7.cell 6; have r0l := q7.lt; simp only [zA, zB, zC] at r0a r0b r0c r0d r0e r0f r0g; clear q7
 have f0 := k1.frozen 0
 have f1 := k1.frozen 1
 have e0 := k1.cell 0
 have e1 := k1.cell 1
 have el := k1.lt
 simp only [zA, zB, zC] at e0 e1
 have K1 := zz k1
 clear k0 k1
 go_wp2
 have q3 := (K1.out.set 0 (.int .u8 0)).set 1 (.int .u8 0)
 have g0 := q3.cell 0
 have g1 := q3.cell 1
 simp only [Array.getElem?_setIfInBounds, zM, zH, zI] at g0 g1
 refine bodyPost_ret (v := .agg #[.int .u8 0, .int .u8 0]) (by simp [results, Tryz.results85, go_sem, g0, g1]) rfl ⟨rfl, ?_⟩
 exact bSetG (bSetG hb1 (by omega) _ _) (by omega) _ _
theorem tinp_some (s d x y m f : Int) (A B : Option Addr) (c c' : Nat) (a b : List Nat) (w : World) (hf : d ≤ f) (j : Nat) (hj : f - d = j) (h1 : j < a.length) (h2 : j < b.length) (ha : a.length ≤ 1000) (ra : Rd w w.heap.size A (a.flatMap btC)) (rb : Rd w w.heap.size B (b.flatMap btC)) :
  Calls Tryz.prog 85 #[.agg #[.int .u32 s, .int .i64 d, .int .i64 x, .int .i64 y, .slice A a.length c, .slice B b.length c', .int .u32 m], .int .i64 f] w fun e w' => e = .returned (.agg #[.int .u8 (a.getD j 0 : Nat), .int .u8 (b.getD j 0 : Nat)]) ∧ Below w.heap.size w w' := by
 obtain ⟨ga, oa, rfl, hga, ca⟩ := ra.at_ btC_length (by omega) h1
 obtain ⟨gb, ob, rfl, hgb, cb⟩ := rb.at_ btC_length (by omega) h2
 replace ca := ca 0 _ rfl
 replace cb := cb 0 _ rfl
 rw [Nat.add_zero, Nat.mul_one] at ca cb
 have hfj : f = d + j := by omega
 subst hfj
 obtain ⟨u, hu⟩ : ∃ u, a.getD j 0 = u := ⟨_, rfl⟩
 obtain ⟨v, hv⟩ : ∃ v, b.getD j 0 = v := ⟨_, rfl⟩
 rw [show a[j] = u from by rw [← hu]; simp [List.getD_eq_getElem?_getD, h1]] at ca
 rw [show b[j] = v from by rw [← hv]; simp [List.getD_eq_getElem?_getD, h2]] at cb
 rw [hu, hv]
 clear ra rb hu hv
 have hdj : d + (j : Int) - d = (j : Int) := by omega
 go_enter Tryz.func85, Tryz.ntmps85
 go_upto_region 1 with fail
 refine named2 (F := fun W => Code.wp _ _ _ _ W) ?_
 intro w1 k0 k1 hb1 hz1
 have ca1 := (hb1.cell (p := ⟨ga, oa + j, none⟩) hga).trans ca
 have cb1 := (hb1.cell (p := ⟨gb, ob + j, none⟩) hgb).trans cb
 have q7 := k0; have r0a := q7.cell 0; have r0b := q7.cell 1; have r0c := q7.cell 2; have r0d := q7.cell 3; have r0e := q7.cell 4; have r0f := q7.cell 5; have r0g := q7.cell 6; have r0l := q7.lt; simp only [zA, zB, zC] at r0a r0b r0c r0d r0e r0f r0g; clear q7
 have K1 := zz k1
 have hla : ga < w1.heap.size := by omega
 have hlb : gb < w1.heap.size := by omega
 clear k0 k1 ca cb hz1
 go_upto_region 4 with fail
 have hKp := Keeps.base w1
 refine wp_region_mixedT [.pure, .held, .pure, .pure, .held, .pure, .held, .pure, .pure, .held, .pure, .tail] (fun _ => ⟨fun _ => True, fun _ _ => True⟩) (by kernel_rfl) (by kernel_rfl) ?_
 repeat (first | (refine mix_pure rfl rfl rfl (fun K hK => ?_); go_big_quiet_op; refine hK _ ?_; clear hK K) | (refine mix_held rfl rfl rfl (by assumption) (fun K hK => ?_); go_big_quiet_op; refine hK _ ?_; clear hK K))
 refine mix_store rfl rfl 118 (.tmp 4) (.tmp 24) rfl (w.heap.size + 1) 0 #[.int .u8 (u : Int), .int .u8 (v : Int)] rfl rfl (fun V hV => Blk.there (K1.out.on hV) (by show 0 + 2 ≤ 2; decide)) (by kernel_rfl) (by simp [Value.oneCell']) ?_
 simp only [Act.put, zD, zE, zF]
 refine mix_nil ?_
 rintro V' ⟨V, hD, rfl⟩
 have hV : Grown w1 V := hD
 have q3 := (K1.out.on hV).whole [.int .u8 (u : Int), .int .u8 (v : Int)] rfl
 have hb9 := bSetCells (bTrans hb1 hV) (show w.heap.size ≤ w.heap.size + 1 by omega) 0 [.int .u8 (u : Int), .int .u8 (v : Int)]
 obtain ⟨w9, hw9⟩ : ∃ w9, V.setCells (w.heap.size + 1) 0 [.int .u8 (u : Int), .int .u8 (v : Int)] = w9 := ⟨_, rfl⟩
 rw [hw9] at q3 hb9
 first | rw [hw9] | (show Exit.then _ _ _ _ (V.setCells (w.heap.size + 1) 0 [.int .u8 (u : Int), .int .u8 (v : Int)]); rw [hw9])
 have g0 := q3.cell 0
 have g1 := q3.cell 1
 simp only [zA, zB, zC] at g0 g1
 clear hw9 hV hD hKp
 go_wp2
 exact bodyPost_ret (v := .agg #[.int .u8 u, .int .u8 v]) (by simp [results, Tryz.results85, go_sem, g0, g1]) rfl ⟨rfl, hb9⟩
theorem tinp_any {s d x y m : Int} {A B : Option Addr} {c c' : Nat} {a b : List Nat} {k : Nat} {w : World} (hd : 0 ≤ d ∧ d ≤ 8) (hk : (k : Int) < d + (min a.length b.length : Nat)) (ha : a.length ≤ 1000) (ra : Rd w w.heap.size A (a.flatMap btC)) (rb : Rd w w.heap.size B (b.flatMap btC)) :
  Calls Tryz.prog 85 #[.agg #[.int .u32 s, .int .i64 d, .int .i64 x, .int .i64 y, .slice A a.length c, .slice B b.length c', .int .u32 m], .int .i64 k] w fun e w' => e = .returned (.agg #[.int .u8 (inpT d.toNat a b k).1, .int .u8 (inpT d.toNat a b k).2]) ∧ Below w.heap.size w w' := by
 unfold inpT
 split
 ·exact tinp_none s d x y m k A B a.length c b.length c' w (by omega) hd (by omega)
 ·exact tinp_some s d x y m k A B c c' a b w (by omega) (k - d.toNat) (by omega) (by omega) (by omega) ha ra rb
end
section
attribute [local irreducible] wpMixU
theorem rightTp_of {d x y : Int} {a b : List Nat} (h : rightTp d x y a b = true) : (1 ≤ x ∧ x ≤ 16) ∧ y = 0 ∧ a.length = b.length ∧ ofB d a b = false := by
 unfold rightTp at h
 simp only [Bool.and_eq_true, decide_eq_true_eq, Bool.not_eq_true'] at h
 exact ⟨h.1, h.2.1, h.2.2.1, h.2.2.2⟩
theorem ofB_of {d : Int} {a b : List Nat} (h : ofB d a b = false) : (0 ≤ d ∧ d ≤ 8) ∧ (∀ x ∈ a, x < 64) ∧ ∀ x ∈ b, x < 64 := by
 unfold ofB badB at h
 simp only [Bool.or_eq_false_iff, decide_eq_false_iff_not, List.any_eq_false, decide_eq_true_eq] at h
 obtain ⟨⟨⟨h1, h2⟩, h3⟩, h4⟩ := h
 exact ⟨by omega, fun x hx => by have := h3 x hx; omega, fun x hx => by have := h4 x hx; omega⟩
structure DkW (w : World) (base g : Nat) (s d x m : Int) (a b : List Nat) (n ev F : Nat) (ks : List (Nat → Int)) : Prop where
 blk : ∃ (A B K : Option Addr) (cA cB nK cK : Nat), Blk w g 158 #[.int .u32 s, .int .i64 d, .int .i64 x, .int .i64 0, .slice A n cA, .slice B n cB, .int .u32 m, .int .i64 ev, .int .i64 F, .slice K nK cK] ∧ OwnL w base 5 1 (.slice A n cA) btC a ∧ OwnL w base 5 1 (.slice B n cB) btC b ∧ OwnL w base 41 60 (.slice K nK cK) stCells ks
theorem built_deck (s d x m ev F : Int) (A B : Option Addr) (n c n' c' : Nat) : Tryz.prog.built 158 [(0, .agg #[.int .u32 s, .int .i64 d, .int .i64 x, .int .i64 0, .slice A n c, .slice B n' c', .int .u32 m]), (1, .int .i64 ev), (2, .int .i64 F)] = some #[.int .u32 s, .int .i64 d, .int .i64 x, .int .i64 0, .slice A n c, .slice B n' c', .int .u32 m, .int .i64 ev, .int .i64 F, .slice none 0 0] := by kernel_rfl
structure OpF (w0 : World) (gd gs : Nat) (s d x m ev F : Int) (A7 A8 : Option Addr) (n c7 c8 : Nat) (a b : List Nat) (K : Option Addr) (nK cK : Nat) (ks : List (Nat → Int)) (T : Nat → Int) (w : World) : Prop where
 dk : Blk w gd 158 #[.int .u32 s, .int .i64 d, .int .i64 x, .int .i64 0, .slice A7 n c7, .slice A8 n c8, .int .u32 m, .int .i64 ev, .int .i64 F, .slice K nK cK]
 tk : Blk w w0.heap.size 76 #[.int .u32 s, .int .i64 d, .int .i64 x, .int .i64 0, .slice A7 n c7, .slice A8 n c8, .int .u32 m]
 kr : OwnL w (gs + 1) 41 60 (.slice K nK cK) stCells ks
 st : Blk w gs 41 (stCells T).toArray
 oa : OwnL w w0.heap.size 5 1 (.slice A7 n c7) btC a
 ob : OwnL w w0.heap.size 5 1 (.slice A8 n c8) btC b
 bl : Below w0.heap.size w0 w
 lt : w0.heap.size < gd ∧ gd < gs
section
variable {w0 : World} {gd gs : Nat} {s d x m ev F : Int} {A7 A8 : Option Addr} {n c7 c8 : Nat} {a b : List Nat} {K K2 : Option Addr} {nK cK n2 c2 : Nat} {ks ks2 : List (Nat → Int)} {T T2 : Nat → Int} {W W2 : World}
theorem OpF.on (h : OpF w0 gd gs s d x m ev F A7 A8 n c7 c8 a b K nK cK ks T W) (g : Grown W W2) : OpF w0 gd gs s d x m ev F A7 A8 n c7 c8 a b K nK cK ks T W2 :=
 ⟨h.dk.on g, h.tk.on g, h.kr.below g, h.st.on g, h.oa.below g, h.ob.below g, bTrans h.bl g, h.lt⟩
theorem OpF.push (h : OpF w0 gd gs s d x m ev F A7 A8 n c7 c8 a b K nK cK ks T W) (hg : W.grownBy W2 (Value.slice K nK cK).ownBlock) (hown : OwnL W2 (gs + 1) 41 60 (.slice K2 n2 c2) stCells ks2) : OpF w0 gd gs s d x m ev F A7 A8 n c7 c8 a b K2 n2 c2 ks2 T (W2.setCell ⟨gd, 9, none⟩ (.slice K2 n2 c2)) := by
 obtain ⟨l1, l2⟩ := h.lt
 have hdk := (h.dk.grown hg (h.kr.ne_low (by omega))).set 9 (.slice K2 n2 c2)
 have hap : ∀ {A : Option Addr} {c : Nat} {l : List Nat}, OwnL W w0.heap.size 5 1 (.slice A n c) btC l → OwnL (W2.setCell ⟨gd, 9, none⟩ (.slice K2 n2 c2)) w0.heap.size 5 1 (.slice A n c) btC l := fun {A c l} h3 => by
  have h4 : OwnL W2 w0.heap.size 5 1 (.slice A n c) btC l := OwnL.kept h3 hg (by
   cases hb : (Value.slice K nK cK).ownBlock with
   | none => cases hb3 : (Value.slice A n c).ownBlock with
    | none => exact .inl rfl
    | some q => exact .inr (by simp)
   | some q => exact .inr (OwnL.apart h3 h.kr (by decide) hb))
  exact h4.farG ((h.dk.grown hg (h.kr.ne_low (by omega))).apart h4 (by decide)) 9 _
 exact ⟨hdk, (h.tk.grown hg (h.kr.ne_low (by omega))).farG (by omega) 9 _, hown.farG (hown.ne_low (by omega)) 9 _, (h.st.grown hg (h.kr.ne_low (by omega))).farG (by omega) 9 _, hap h.oa, hap h.ob,
  bSetG (h.bl.grown hg h.bl.size (fun k e => by have := h.kr.base_le k e; omega)) (by omega) 9 _, h.lt⟩
theorem OpF.next (h : OpF w0 gd gs s d x m ev F A7 A8 n c7 c8 a b K nK cK ks T W) : OpF w0 gd gs s d x m ev F A7 A8 n c7 c8 a b K nK cK ks T2 (W.setCells gs 0 (stCells T2)) := by
 obtain ⟨l1, l2⟩ := h.lt
 have hap : ∀ {E : TypeId} {v : Value} {A : Type} {f : A → List Value} {k base : Nat} {l : List A}, OwnL W base E k v f l → v.ownBlock ≠ some gs → OwnL (W.setCells gs 0 (stCells T2)) base E k v f l := fun h3 hne => OwnL.kept (row := some gs) h3 (oSetCells (World.grownBy.refl W _) 0 (stCells T2)) (.inr hne)
 exact ⟨h.dk.farC (by omega) 0 _, h.tk.farC (by omega) 0 _, hap h.kr (h.kr.ne_low (by omega)), h.st.whole (stCells T2) (by rw [stCells_length, zM, stCells_length]), hap h.oa (h.st.apart h.oa (by decide)), hap h.ob (h.st.apart h.ob (by decide)), bSetCells h.bl (by omega) 0 _, h.lt⟩
end
theorem open_good (ev : Nat) (hev : 1 ≤ ev ∧ ev ≤ 20000) (s d x m : Int) (A B : Option Addr) (c c' : Nat) (a b : List Nat) (w : World) (hs : U32 s) (hok : rightTp d x 0 a b = true) (hm : (hapG s d a b : Int) = m) (ha : a.length ≤ 1000) (ra : Rd w w.heap.size A (a.flatMap btC)) (rb : Rd w w.heap.size B (b.flatMap btC)) :
  Calls Tryz.prog 31 #[.agg #[.int .u32 s, .int .i64 d, .int .i64 x, .int .i64 0, .slice A a.length c, .slice B b.length c', .int .u32 m], .int .i64 ev] w fun e w' => ∃ g, e = .returned (.tuple #[.pointer (some ⟨g, 0, none⟩), .int .i64 0]) ∧ w.heap.size ≤ g ∧ DkW w' w.heap.size g s d x m a b a.length ev (d.toNat + a.length) (keptS (inpT d.toNat a b) (beginS s) ev (d.toNat + a.length + 1)) ∧ Below w.heap.size w w' := by
 obtain ⟨hx, -, hab, hof⟩ := rightTp_of hok
 obtain ⟨hd, h63a, h63b⟩ := ofB_of hof
 have HVE := zz (fun (V : World) (hV : Below w.heap.size w V) => verify_good s d x m A B c c' a b V hs hok ha (by omega) ((ra.below hV (zL _)).more hV.size) ((rb.below hV (zL _)).more hV.size))
 rw [if_pos hm] at HVE
 have HRA := zz ra
 have HRB := zz rb
 have H63A := zz h63a
 have H63B := zz h63b
 have HOK := zz (begin_ok hs)
 have hbeg := fun V => gBegin_any s V
 have hz : (beginS s) 0 = 0 ∧ (beginS s) 2 = 0 := ⟨rfl, rfl⟩
 obtain ⟨T0, hT0⟩ : ∃ T0, beginS s = T0 := ⟨_, rfl⟩
 rw [hT0] at hbeg HOK hz ⊢
 obtain ⟨C0, hC0⟩ : ∃ C0 : Array Value, (stCells T0).toArray = C0 := ⟨_, rfl⟩
 rw [hC0] at hbeg
 have hsz : C0.size = 60 := by rw [← hC0, zM, stCells_length]
 have H1C : Hid (C0.all (·.oneCell') = true) := zz (by rw [← hC0]; exact all_oneCell_toArray (int_one _))
 have HSZ : Hid ((Tryz.prog.info? 41).map (·.size) = some C0.size) := zz (by rw [hsz]; kernel_rfl)
 have HSI := zz hsz
 have HC0 := zz hC0
 have HBEG := zz hbeg
 have HZ := zz hz
 have HAB := zz hab
 obtain ⟨n, hn⟩ : ∃ n, a.length = n := ⟨_, rfl⟩
 have hbn : b.length = n := by omega
 have HNA := zz hn
 have HNB := zz hbn
 rw [hn] at ha HVE ⊢
 rw [hbn] at HVE ⊢
 obtain ⟨F, hF⟩ : ∃ F : Nat, d + (n : Int) = F := ⟨(d + n).toNat, by omega⟩
 have hFN : d.toNat + n = F := by omega
 have HFF := zz hF
 rw [hFN]
 clear hF hFN
 obtain ⟨e1, e2⟩ := hev
 have e3 : (1 : Int) ≤ ev := by omega
 have e4 : (ev : Int) ≤ 20000 := by omega
 clear ra rb h63a h63b hbeg hsz hC0 hT0 hz hok hof hx hm hn hbn hab
 go_enter Tryz.func31, Tryz.ntmps31
 go_upto_region 1 with fail
 refine named1 (F := fun W => Code.wp _ _ _ _ W) ?_
 intro w1 k0 hb1 hz1
 have q7 := k0; have r0a := q7.cell 0; have r0b := q7.cell 1; have r0c := q7.cell 2; have r0d := q7.cell 3; have r0e := q7.cell 4; have r0f := q7.cell 5; have r0g := q7.cell 6; have r0l := q7.lt; simp only [zA, zB, zC] at r0a r0b r0c r0d r0e r0f r0g; clear q7
 have K0 := zz k0
 clear hz1 k0
 go_upto_region 6 with (first | (go_at_call 33; refine (HVE.out _ hb1).mono ?_; rintro e w2 ⟨rfl, hb2⟩; have HB2 := zz (bTrans hb1 hb2); have K2 := zz (K0.out.on hb2); clear hb2))
 clear r0a r0b r0c r0d r0e r0f r0g r0l hb1 K0 HVE
 have q7 := K2.out; have s0a := q7.cell 0; have s0b := q7.cell 1; have s0c := q7.cell 2; have s0d := q7.cell 3; have s0e := q7.cell 4; have s0f := q7.cell 5; have s0g := q7.cell 6; have s0l := q7.lt; simp only [zA, zB, zC] at s0a s0b s0c s0d s0e s0f s0g; clear q7
 have hz2 := HB2.out.size
 refine wp_region_mixedU [.pure, .held, .make, .pure, .held, .make, .pure, .tail, .pure, .tail] (by kernel_rfl) (by kernel_rfl) ?_
 (refine mixU_pure rfl rfl rfl (fun K hK => ?_); go_big_quiet_op; refine hK _ ?_; clear hK K)
 (refine mixU_held rfl rfl rfl (by first | exact fun _ h => h | exact fun _ h => h.2) (fun K hK => ?_); go_big_quiet_op; refine hK _ ?_; clear hK K)
 refine mixU_act rfl rfl (fun _ h => h) (fun v => ∃ A' c', v = .slice A' n c') (fun v W => OwnL W w.heap.size 5 1 v btC a) (fun W hW => goes_new_bt (.const (.slice none 0 0)) (.tmp 25) rfl rfl w.heap.size a w.heap.size A n c HNA.out.symm rfl (HRA.out.below (bTrans HB2.out hW) (zL _)) (by rw [HNA.out]; omega) (Nat.le_trans hz2 (Below.size hW))) ?_
 rintro v7 ⟨A7, c7, rfl⟩
 simp only [Act.put, zD, zE, zF]
 (refine mixU_pure rfl rfl rfl (fun K hK => ?_); go_big_quiet_op; refine hK _ ?_; clear hK K)
 (refine mixU_held rfl rfl rfl (by first | exact fun _ h => h | exact fun _ h => h.2) (fun K hK => ?_); go_big_quiet_op; refine hK _ ?_; clear hK K)
 refine mixU_act rfl rfl (fun _ h => h.2) (fun v => ∃ A' c', v = .slice A' n c') (fun v W => OwnL W w.heap.size 5 1 v btC b ∧ OwnL W w.heap.size 5 1 (.slice A7 n c7) btC a) (fun W hW => gE_mono (goes_new_bt (.const (.slice none 0 0)) (.tmp 28) rfl rfl w.heap.size b w.heap.size B n c' HNB.out.symm rfl (HRB.out.below (bTrans HB2.out hW.2) (zL _)) (by rw [HNB.out]; omega) (Nat.le_trans hz2 (Below.size hW.2))) (fun v W' h => ⟨⟨h.1.1, h.1.2, hW.1.below h.2⟩, h.2⟩)) ?_
 rintro v8 ⟨A8, c8, rfl⟩
 simp only [Act.put, zD, zE, zF]
 repeat (refine mixU_pure rfl rfl rfl (fun K hK => ?_); go_big_quiet_op; refine hK _ ?_; clear hK K)
 refine mixU_store1 rfl rfl 25 (.tmp 30) (.tmp 26) rfl w.heap.size 4 (.slice A7 n c7) rfl rfl (fun W hW => Blk.there (K2.out.on hW.2) (by show 4 + 1 ≤ 7; decide)) (by kernel_rfl) rfl rfl ?_
 rintro V ⟨⟨o8, o7⟩, hgV⟩
 have kV := (K2.out.on hgV).set 4 (.slice A7 n c7)
 have hbV := bSetG (bTrans HB2.out hgV) (zL _) 4 (.slice A7 n c7)
 have o7V := o7.farG ((K2.out.on hgV).apart o7 (by decide)) 4 (.slice A7 n c7)
 have o8V := o8.farG ((K2.out.on hgV).apart o8 (by decide)) 4 (.slice A7 n c7)
 obtain ⟨w8, hw8⟩ : ∃ w8, V.setCell ⟨w.heap.size, 4, none⟩ (.slice A7 n c7) = w8 := ⟨_, rfl⟩
 rw [hw8] at kV hbV o7V o8V ⊢
 have K8 : Hid (Blk w8 w.heap.size 76 #[.int .u32 s, .int .i64 d, .int .i64 x, .int .i64 0, .slice A7 n c7, .slice B n c', .int .u32 m]) := zz kV
 have HB8 := zz hbV
 have O7 := zz o7V
 have O8 := zz o8V
 clear kV hbV o7V o8V hw8 o7 o8 hgV K2 HB2
 simp only [Act.put, zD, zE, zF]
 repeat (refine mixU_pure rfl rfl rfl (fun K hK => ?_); go_big_quiet_op; refine hK _ ?_; clear hK K)
 refine mixU_store1 rfl rfl 25 (.tmp 31) (.tmp 29) rfl w.heap.size 5 (.slice A8 n c8) rfl rfl (fun W hW => Blk.there (K8.out.on hW) (by show 5 + 1 ≤ 7; decide)) (by kernel_rfl) rfl rfl ?_
 rintro V hgV
 have kV := (K8.out.on hgV).set 5 (.slice A8 n c8)
 have hbV := bSetG (bTrans HB8.out hgV) (zL _) 5 (.slice A8 n c8)
 have o7V := (O7.out.below hgV).farG ((K8.out.on hgV).apart (O7.out.below hgV) (by decide)) 5 (.slice A8 n c8)
 have o8V := (O8.out.below hgV).farG ((K8.out.on hgV).apart (O8.out.below hgV) (by decide)) 5 (.slice A8 n c8)
 obtain ⟨w9, hw9⟩ : ∃ w9, V.setCell ⟨w.heap.size, 5, none⟩ (.slice A8 n c8) = w9 := ⟨_, rfl⟩
 rw [hw9] at kV hbV o7V o8V ⊢
 have K9 : Hid (Blk w9 w.heap.size 76 #[.int .u32 s, .int .i64 d, .int .i64 x, .int .i64 0, .slice A7 n c7, .slice A8 n c8, .int .u32 m]) := zz kV
 have HB9 := zz hbV
 have O79 := zz o7V
 have O89 := zz o8V
 clear kV hbV o7V o8V hw9 hgV K8 HB8 O7 O8 s0a s0b s0c s0d s0e s0f s0g s0l
 simp only [Act.put, zD, zE, zF]
 refine mixU_nil ?_
 rintro w10 hg10
 have k10 := K9.out.on hg10
 have hb10 := bTrans HB9.out hg10
 have o710 := O79.out.below hg10
 have o810 := O89.out.below hg10
 have q7 := k10; have s0a := q7.cell 0; have s0b := q7.cell 1; have s0c := q7.cell 2; have s0d := q7.cell 3; have s0e := q7.cell 4; have s0f := q7.cell 5; have s0g := q7.cell 6; have s0l := q7.lt; simp only [zA, zB, zC] at s0a s0b s0c s0d s0e s0f s0g; clear q7
 have K10 := zz k10
 have HB10 := zz hb10
 have OA := zz o710
 have OB := zz o810
 clear k10 hb10 o710 o810 K9 HB9 O79 O89 hg10
 obtain ⟨CD, hCD⟩ : ∃ CD : Array Value, #[.int .u32 s, .int .i64 d, .int .i64 x, .int .i64 0, .slice A7 n c7, .slice A8 n c8, .int .u32 m, .int .i64 (ev : Int), .int .i64 (d + (n : Int)), .slice none 0 0] = CD := ⟨_, rfl⟩
 have hbd := built_deck s d x m ev (d + n) A7 A8 n c7 n c8
 rw [hCD] at hbd
 have HBD := zz hbd
 have HCD := zz hCD
 clear hbd hCD
 go_upto_region 8 with (first | (refine wpList_built rfl 158 [(0, .tmp 32), (1, .tmp 33), (2, .tmp 40)] rfl CD [(0, .agg #[.int .u32 s, .int .i64 d, .int .i64 x, .int .i64 0, .slice A7 n c7, .slice A8 n c8, .int .u32 m]), (1, .int .i64 (ev : Int)), (2, .int .i64 (d + (n : Int)))] ?_ HBD.out ?_; (case' hv => rfl)))
 refine named1 (F := fun W => Code.wp _ _ _ _ W) ?_
 intro w11 kd hb11 hz11
 try rw [← HCD.out] at kd
 have KD := zz kd
 have K11 := zz (K10.out.on hb11)
 have HB11 := zz (bTrans HB10.out hb11)
 have OA11 := zz (OA.out.below hb11)
 have OB11 := zz (OB.out.below hb11)
 have hlt0 : w.heap.size < w10.heap.size := K10.out.lt
 obtain ⟨gd, hgd⟩ : ∃ gd, w10.heap.size = gd := ⟨_, rfl⟩
 rw [hgd] at KD hlt0 ⊢
 clear s0a s0b s0c s0d s0e s0f s0g s0l K10 HB10 OA OB kd hb11 hz11 hgd hz2
 have q7 := K11.out; have s0a := q7.cell 0; have s0b := q7.cell 1; have s0c := q7.cell 2; have s0d := q7.cell 3; have s0e := q7.cell 4; have s0f := q7.cell 5; have s0g := q7.cell 6; have s0l := q7.lt; simp only [zA, zB, zC] at s0a s0b s0c s0d s0e s0f s0g; clear q7
 go_upto_region 9 with (first
  | (go_at_call 53; refine (HBEG.out _).mono ?_; rintro e w12 ⟨rfl, hb12⟩; have HB12 := zz hb12; clear hb12)
  | (refine wpList_store_mid rfl 41 (.tmp 8) (.tmp 46) rfl w12.heap.size 0 C0 rfl rfl (there_new _ _ _ (by rw [HSI.out]; rfl)) HSZ.out H1C.out ?_))
 refine named_put (F := fun W => Code.wp _ _ _ _ W) (by rw [zK, HSI.out]; rfl) ?_
 intro w13 ks hb13 hz13
 rw [zJ, ← HC0.out] at ks
 have hb1113 := bTrans HB12.out hb13
 have KD13 := zz (KD.out.on hb1113)
 have K13 := zz (K11.out.on hb1113)
 have HB13 := zz (bTrans HB11.out hb1113)
 have OA13 := zz (OA11.out.below hb1113)
 have OB13 := zz (OB11.out.below hb1113)
 have hltd : gd < w12.heap.size := Nat.lt_of_lt_of_le KD.out.lt HB12.out.size
 obtain ⟨gs, hgs⟩ : ∃ gs, w12.heap.size = gs := ⟨_, rfl⟩
 rw [hgs] at ks hltd ⊢
 have KS13 := zz ks
 have d8 := KD13.out.cell 8
 have dl := KD13.out.lt
 simp only [zA, zB, zC] at d8
 clear s0a s0b s0c s0d s0e s0f s0g s0l K11 HB11 HB12 OA11 OB11 KD ks hb13 hz13 hb1113 hgs HBEG H1C HSZ HSI HC0
 rw [HFF.out] at KD13 d8
 have HFR : Hid (OpF w gd gs s d x m ev F A7 A8 n c7 c8 a b none 0 0 [] T0 w13) := zz ⟨KD13.out, K13.out, OwnL.nil, KS13.out, OA13.out, OB13.out, HB13.out, ⟨hlt0, hltd⟩⟩
 clear KD13 K13 KS13 OA13 OB13 HB13 HBD HCD
 go_wp2_with fail
 go_loopw [51] (fun v wr => ∃ (k : Nat) (K : Option Addr) (nK cK : Nat), k ≤ F ∧ v = .int .i64 k ∧ Hid (OpF w gd gs s d x m ev F A7 A8 n c7 c8 a b K nK cK (keptS (inpT d.toNat a b) T0 ev k) (stT (inpT d.toNat a b) T0 k) wr)) (fun v _ => F - (intOf v).toNat)
 case atStart => exact ⟨0, none, 0, 0, Nat.zero_le _, rfl, HFR⟩
 case round =>
 obtain ⟨k, K, nK, cK, hk, rfl, HR⟩ := hrel
 clear HFR d8 dl
 obtain ⟨hw1, hw2⟩ := HR.out.lt
 have dl := HR.out.dk.lt
 have d8 := HR.out.dk.cell 8
 have sl := HR.out.st.lt
 simp only [zA, zB, zC] at d8
 have hFb : F ≤ 1008 := by have := HFF.out; omega
 have hkp : keptS (inpT d.toNat a b) T0 ev (k + 1) = if k % ev = 0 then keptS (inpT d.toNat a b) T0 ev k ++ [stT (inpT d.toNat a b) T0 k] else keptS (inpT d.toNat a b) T0 ev k := rfl
 have hkl := keptS_length (inpT d.toNat a b) T0 ev (by omega) k
 have hkl2 : (keptS (inpT d.toNat a b) T0 ev k).length ≤ 50000 := by
  rw [hkl]
  refine Nat.le_trans (Nat.div_le_self _ _) ?_
  omega
 have HKP := zz hkp
 obtain ⟨ks, hks⟩ : ∃ ks, keptS (inpT d.toNat a b) T0 ev k = ks := ⟨_, rfl⟩
 obtain ⟨T, hT⟩ : ∃ T, stT (inpT d.toNat a b) T0 k = T := ⟨_, rfl⟩
 have HT := zz hT
 rw [hks, hT] at HKP
 rw [hks] at hkl2 HR
 rw [hT] at HR
 have HKL := zz hkl2
 clear hkp hkl hkl2 hks hT
 by_cases hlt : k < F
 ·as_aux_lemma =>
  go_upto_if 57 with fail
  go_cut [] (fun wx => ∃ (K : Option Addr) (nK cK : Nat), Hid (OpF w gd gs s d x m ev F A7 A8 n c7 c8 a b K nK cK (keptS (inpT d.toNat a b) T0 ev (k + 1)) T wx))
  case first =>
   have hem : ((k : Int) % (ev : Int)) = ((k % ev : Nat) : Int) := by simp
   by_cases h0 : k % ev = 0
   ·have hq : ((k : Int) % (ev : Int) == 0) = true := by rw [hem, h0]; rfl
    have HKN : Hid (keptS (inpT d.toNat a b) T0 ev (k + 1) = ks ++ [T]) := zz (by rw [HKP.out, if_pos h0])
    have d9 := HR.out.dk.cell 9
    simp only [zA, zB, zC] at d9
    clear h0 hem HKP
    go_upto_region 13 with fail
    refine wp_region_mixedU [.pure, .pure, .pure, .pure, .held, .held, .make, .tail, .pure, .pure, .tail] (by kernel_rfl) (by kernel_rfl) ?_
    repeat (refine mixU_pure rfl rfl rfl (fun K hK => ?_); go_big_quiet_op; refine hK _ ?_; clear hK K)
    (refine mixU_held rfl rfl rfl (by first | exact fun _ h => h | exact fun _ h => h.2) (fun K hK => ?_); go_big_quiet_op; refine hK _ ?_; clear hK K)
    refine mixU_load rfl rfl (fun _ h => h) 41 (.tmp 8) rfl gs 0 rfl (stCells T) _ sl (Blk.range HR.out.st) Tryz.underlying41 rfl (by kernel_rfl) ?_
    simp only [Act.put, zD, zE, zF]
    refine mixU_act rfl rfl (fun _ h => h) (fun v => ∃ g, v = .slice (some ⟨g, 0, none⟩) 1 1) (fun v W => Grown wr W ∧ ∃ g, v = .slice (some ⟨g, 0, none⟩) 1 1 ∧ Rd W W.heap.size (some ⟨g, 0, none⟩) (stCells T)) (fun W hW => gE_mono (goes_bs_st (.tmp 63) rfl T rfl) ?_) ?_
    ·rintro v W' ⟨rfl, rfl⟩
     refine ⟨⟨⟨_, rfl⟩, bTrans hW (bAlloc (Below.refl _ _) _), _, rfl, ?_⟩, bAlloc (Below.refl _ _) _⟩
     have := rd_new W (stCells T).toArray 41 W.heap.size rfl (W.alloc (.cells (stCells T).toArray 41)).heap.size (by simp)
     exact this
    rintro v ⟨g7, rfl⟩
    simp only [Act.put, zD, zE, zF]
    refine mixU_write rfl rfl (fun v W' => ∃ W0, Grown wr W0 ∧ OwnL W' (gs + 1) 41 60 v stCells (ks ++ [T]) ∧ W0.grownBy W' (Value.slice K nK cK).ownBlock) (fun W hW => ?_) ?_
    ·obtain ⟨⟨hgr, g, hv, hrd⟩, -⟩ := hW
     simp only [Value.slice.injEq, Option.some.injEq, Addr.mk.injEq, and_true] at hv
     subst hv
     refine gE_mono (goes_app_st (.tmp 62) (.tmp 64) rfl (gs + 1) (.slice K nK cK) ks [T] (HR.out.kr.below hgr) rfl W.heap.size (some ⟨g7, 0, none⟩) 1 1 rfl rfl (by simpa using hrd) (by have := HKL.out; simp; omega) (by have := Below.size hgr; omega)) (fun v W' h => ⟨W, hgr, h.1, h.2⟩)
    rintro v8 W8 ⟨W0, hg0, ho8, hg8⟩
    obtain ⟨A9, c9, rfl⟩ := ho8.shape
    have HG0 := zz hg0
    have HO8 := zz ho8
    have HG8 := zz hg8
    have hdk8 := ((HR.out.on hg0).dk.grown hg8 ((HR.out.on hg0).kr.ne_low (by omega)))
    have HK8 := zz hdk8
    clear ho8 hg8 hg0 hdk8
    obtain ⟨n9, hn9⟩ : ∃ n9, (ks ++ [T]).length = n9 := ⟨_, rfl⟩
    rw [hn9] at HO8 ⊢
    clear hn9
    simp only [Act.put, zD, zE, zF]
    repeat (refine mixU_pure rfl rfl rfl (fun K hK => ?_); go_big_quiet_op; refine hK _ ?_; clear hK K)
    refine mixU_store1 rfl rfl 48 (.tmp 67) (.tmp 65) rfl gd 9 (.slice A9 n9 c9) rfl rfl (fun W hW => Blk.there (HK8.out.on hW) (by show 9 + 1 ≤ 10; decide)) (by kernel_rfl) rfl rfl ?_
    rintro V hgV
    have HPV : Hid (OpF w gd gs s d x m ev F A7 A8 n c7 c8 a b A9 n9 c9 (ks ++ [T]) T (V.setCell ⟨gd, 9, none⟩ (.slice A9 n9 c9))) := zz ((HR.out.on HG0.out).push ⟨hgV.os.trans HG8.out.os, hgV.tape.trans HG8.out.tape, hgV.output.trans HG8.out.output, Nat.le_trans HG8.out.size (Below.size hgV), fun k hk hr => (hgV.block k (Nat.lt_of_lt_of_le hk HG8.out.size)).trans (HG8.out.block k hk hr)⟩ (HO8.out.below hgV))
    simp only [Act.put, zD, zE, zF]
    refine mixU_nil ?_
    rintro W9 hg9
    go_wp2_with fail
    go_meet
    exact ⟨A9, n9, c9, by rw [HKN.out]; exact zz (HPV.out.on hg9)⟩
   ·have hq : ((k : Int) % (ev : Int) == 0) = false := by rw [hem]; simp; omega
    have HKN : Hid (keptS (inpT d.toNat a b) T0 ev (k + 1) = ks) := zz (by rw [HKP.out, if_neg h0])
    clear h0 hem HKP
    go_wp2_with fail
    go_meet
    exact ⟨K, nK, cK, by rw [HKN.out]; exact HR⟩
  case rest =>
  obtain ⟨K2, nK2, cK2, HR2⟩ := hcut
  clear HR d8 dl sl HKP HKL
  obtain ⟨q1, q2, q3, q4⟩ := stT_ok (inp := inpT d.toNat a b) HOK.out HZ.out.1 HZ.out.2 k (by omega)
  have hsucc : stT (inpT d.toNat a b) T0 (k + 1) = (rdT (inpT d.toNat a b) T0 k).1 := rfl
  have hrd : rdT (inpT d.toNat a b) T0 k = stepS (inpT d.toNat a b k).1 (inpT d.toNat a b k).2 (stT (inpT d.toNat a b) T0 k) := rfl
  obtain ⟨hx64, hy64⟩ := inpT_lt (d := d.toNat) H63A.out H63B.out k
  rw [HT.out] at q1 q2 q3 q4 hrd
  have hna := HNA.out
  have hnb := HNB.out
  have hff := HFF.out
  have hin := fun (V : World) (hV : Below wc.heap.size wc V) => tinp_any (s := s) (x := x) (y := 0) (m := m) (A := A7) (B := A8) (c := c7) (c' := c8) (a := a) (b := b) (k := k) (w := V) hd (by omega) (by omega) (by have := (HR2.out.oa.below hV).rd; exact this) (by have := (HR2.out.ob.below hV).rd; exact this)
  rw [hna, hnb] at hin
  obtain ⟨p1, hp1⟩ : ∃ x, (inpT d.toNat a b k).1 = x := ⟨_, rfl⟩
  obtain ⟨p2, hp2⟩ : ∃ y, (inpT d.toNat a b k).2 = y := ⟨_, rfl⟩
  rw [hp1] at hx64 hrd hin
  rw [hp2] at hy64 hrd hin
  obtain ⟨T', L', hTL⟩ : ∃ T' L', stepS p1 p2 T = (T', L') := ⟨_, _, rfl⟩
  rw [hTL] at hrd
  rw [hrd] at hsucc
  have HIN := zz hin
  have HST := zz (fun V (hV : Grown wc V) => stTold_of (w := wc) hV q1 (by omega) hx64 hy64 hTL)
  have HTN : Hid (stT (inpT d.toNat a b) T0 (k + 1) = T') := zz hsucc
  have hsl := HR2.out.st.lt
  have htl := HR2.out.tk.lt
  clear q1 q2 q3 q4 hsucc hp1 hp2 hTL hrd hin HOK HZ hx64 hy64 hna hnb hff
  go_upto_region 14 with fail
  have hKp := Keeps.base wc
  refine wp_region_mixedT [.held, .held, .pure, .make, .make, .pure, .pure, .pure, .pure, .make, .tail, .pure, .pure] (fun | 3 => valF (.agg #[.int .u8 (p1 : Int), .int .u8 (p2 : Int)]) | 4 => stTold wc T' L' | _ => newTold wc 41 (stCells zeroT).toArray) (by kernel_rfl) (by kernel_rfl) ?_
  refine mix_load rfl rfl (by assumption) 41 (.tmp 8) rfl gs 0 rfl (stCells T) _ hsl (Blk.range HR2.out.st) Tryz.underlying41 rfl (by kernel_rfl) ?_
  simp only [Act.put, zD, zE, zF]
  refine mix_load rfl rfl (by assumption) 76 (.tmp 2) rfl w.heap.size 0 rfl [.int .u32 s, .int .i64 d, .int .i64 x, .int .i64 0, .slice A7 n c7, .slice A8 n c8, .int .u32 m] _ htl (Blk.range HR2.out.tk) Tryz.underlying76 rfl (by kernel_rfl) ?_
  simp only [Act.put, zD, zE, zF]
  repeat (first | (refine mix_pure rfl rfl rfl (fun K hK => ?_); go_big_quiet_op; refine hK _ ?_; clear hK K) | (refine mix_held rfl rfl rfl (by assumption) (fun K hK => ?_); go_big_quiet_op; refine hK _ ?_; clear hK K))
  refine mix_make rfl rfl (by assumption) valF_st (fun V hV => ?_) ?_
  ·have HS2 := zz (valF_of (HIN.out V hV))
   go_simp
   exact HS2.out
  rintro _ rfl hKp2
  simp only [Act.put, zD, zE, zF]
  refine mix_make rfl rfl (by assumption) stTold_st (fun V hV => ?_) ?_
  ·have HS2 := zz (HST.out V hV)
   go_simp
   exact HS2.out
  rintro v ⟨AN, cN, rfl⟩ hKp3
  simp only [Act.put, zD, zE, zF]
  repeat (first | (refine mix_pure rfl rfl rfl (fun K hK => ?_); go_big_quiet_op; refine hK _ ?_; clear hK K) | (refine mix_held rfl rfl rfl (by assumption) (fun K hK => ?_); go_big_quiet_op; refine hK _ ?_; clear hK K))
  refine mix_make rfl rfl (by assumption) newTold_st (newTold_makes rfl zero_state rfl) ?_
  rintro v ⟨g5, rfl⟩ hKp4
  simp only [Act.put, zD, zE, zF]
  refine mix_store rfl rfl 41 (.tmp 10) (.tmp 74) rfl g5 0 (stCells T').toArray rfl rfl (fun V hV => ?_) (by kernel_rfl) (all_oneCell_toArray (int_one T')) ?_
  ·have := (hV.2 g5 rfl).2
   exact Blk.there this (by rw [zM, zM, stCells_length, stCells_length]; decide)
  simp only [Act.put, zD, zE, zF]
  repeat (first | (refine mix_pure rfl rfl rfl (fun K hK => ?_); go_big_quiet_op; refine hK _ ?_; clear hK K) | (refine mix_held rfl rfl rfl (by assumption) (fun K hK => ?_); go_big_quiet_op; refine hK _ ?_; clear hK K))
  refine mix_nil ?_
  rintro V' ⟨V, hD, rfl⟩
  obtain ⟨⟨⟨hg, -⟩, -⟩, hR2⟩ := hD
  obtain ⟨hge, hBg⟩ := hR2 g5 rfl
  have hg : Grown wc V := hg
  have hn6 := hBg.whole (stCells T') (by rw [zM, stCells_length, stCells_length])
  have hz6 : Grown wc (V.setCells g5 0 (stCells T')) := bSetCells hg hge 0 (stCells T')
  have hop := HR2.out.on hz6
  obtain ⟨w6, hw6⟩ : ∃ w6, V.setCells g5 0 (stCells T') = w6 := ⟨_, rfl⟩
  rw [hw6] at hn6 hop
  first | rw [hw6] | (show Exit.then _ _ _ _ (V.setCells g5 0 (stCells T')); rw [hw6])
  have HN6 := zz hn6
  have HO6 := zz hop
  have HONE := zz (int_one T')
  have hl6 := hn6.lt
  have hs6 := hop.st.lt
  have HTH : Hid (w6.there gs 0 (stCells T').toArray.size) := zz (Blk.there hop.st (by rw [zM, zM, stCells_length, stCells_length]; decide))
  have hnx := hop.next (T2 := T')
  obtain ⟨w7, hw7⟩ : ∃ w7, w6.setCells gs 0 (stCells T') = w7 := ⟨_, rfl⟩
  rw [hw7] at hnx
  have HW7 : Hid (w6.setCells gs 0 (stCells T').toArray.toList = w7) := zz hw7
  have HNX := zz hnx
  clear hw6 hn6 hop hnx hw7 hg hge hBg hR2 hz6 hKp hKp2 hKp3 hKp4 HIN HST HR2 hsl htl
  go_wp2_with (first
   | (refine wpList_load_mid rfl 41 (.tmp 10) rfl g5 0 rfl (stCells T') _ (Blk.range HN6.out) Tryz.underlying41 rfl (by kernel_rfl) ?_)
   | (refine wpList_store_mid rfl 41 (.tmp 8) (.tmp 80) rfl gs 0 (stCells T').toArray rfl rfl HTH.out (by kernel_rfl) (all_oneCell_toArray HONE.out) ?_; rw [HW7.out]))
  go_roundw
  ·exact ⟨k + 1, K2, nK2, cK2, by omega, by push_cast; rfl, by rw [HTN.out]; exact HNX⟩
  ·have e1 : intOf (Value.int .i64 ((k : Int) + 1)) = (k : Int) + 1 := rfl
   have e2 : intOf (Value.int .i64 (k : Int)) = (k : Int) := rfl
   rw [e1, e2]; omega
 ·obtain rfl : F = k := by omega
  have HDK : Hid (∀ (W : World) (K : Option Addr) (nK cK : Nat) (l : List (Nat → Int)), OpF w gd gs s d x m ev F A7 A8 n c7 c8 a b K nK cK l T W → DkW W w.heap.size gd s d x m a b n ev F l ∧ Below w.heap.size w W) := zz (fun W K nK cK l h => ⟨⟨A7, A8, K, c7, c8, nK, cK, h.dk, h.oa, h.ob, h.kr.more (by omega)⟩, h.bl⟩)
  have hem : ((F : Int) % (ev : Int)) = ((F % ev : Nat) : Int) := by simp
  by_cases h0 : F % ev = 0
  ·have hq : ((F : Int) % (ev : Int) == 0) = true := by rw [hem, h0]; rfl
   have HKN : Hid (keptS (inpT d.toNat a b) T0 ev (F + 1) = ks ++ [T]) := zz (by rw [HKP.out, if_pos h0])
   have d9 := HR.out.dk.cell 9
   simp only [zA, zB, zC] at d9
   clear h0 hem HKP
   go_upto_region 20 with fail
   refine wp_region_mixedU [.pure, .pure, .pure, .pure, .held, .held, .make, .tail, .pure, .pure, .tail] (by kernel_rfl) (by kernel_rfl) ?_
   repeat (refine mixU_pure rfl rfl rfl (fun K hK => ?_); go_big_quiet_op; refine hK _ ?_; clear hK K)
   (refine mixU_held rfl rfl rfl (by first | exact fun _ h => h | exact fun _ h => h.2) (fun K hK => ?_); go_big_quiet_op; refine hK _ ?_; clear hK K)
   refine mixU_load rfl rfl (fun _ h => h) 41 (.tmp 8) rfl gs 0 rfl (stCells T) _ sl (Blk.range HR.out.st) Tryz.underlying41 rfl (by kernel_rfl) ?_
   simp only [Act.put, zD, zE, zF]
   refine mixU_act rfl rfl (fun _ h => h) (fun v => ∃ g, v = .slice (some ⟨g, 0, none⟩) 1 1) (fun v W => Grown wr W ∧ ∃ g, v = .slice (some ⟨g, 0, none⟩) 1 1 ∧ Rd W W.heap.size (some ⟨g, 0, none⟩) (stCells T)) (fun W hW => gE_mono (goes_bs_st (.tmp 94) rfl T rfl) ?_) ?_
   ·rintro v W' ⟨rfl, rfl⟩
    refine ⟨⟨⟨_, rfl⟩, bTrans hW (bAlloc (Below.refl _ _) _), _, rfl, ?_⟩, bAlloc (Below.refl _ _) _⟩
    have := rd_new W (stCells T).toArray 41 W.heap.size rfl (W.alloc (.cells (stCells T).toArray 41)).heap.size (by simp)
    exact this
   rintro v ⟨g7, rfl⟩
   simp only [Act.put, zD, zE, zF]
   refine mixU_write rfl rfl (fun v W' => ∃ W0, Grown wr W0 ∧ OwnL W' (gs + 1) 41 60 v stCells (ks ++ [T]) ∧ W0.grownBy W' (Value.slice K nK cK).ownBlock) (fun W hW => ?_) ?_
   ·obtain ⟨⟨hgr, g, hv, hrd⟩, -⟩ := hW
    simp only [Value.slice.injEq, Option.some.injEq, Addr.mk.injEq, and_true] at hv
    subst hv
    refine gE_mono (goes_app_st (.tmp 93) (.tmp 95) rfl (gs + 1) (.slice K nK cK) ks [T] (HR.out.kr.below hgr) rfl W.heap.size (some ⟨g7, 0, none⟩) 1 1 rfl rfl (by simpa using hrd) (by have := HKL.out; simp; omega) (by have := Below.size hgr; omega)) (fun v W' h => ⟨W, hgr, h.1, h.2⟩)
   rintro v8 W8 ⟨W0, hg0, ho8, hg8⟩
   obtain ⟨A9, c9, rfl⟩ := ho8.shape
   have HG0 := zz hg0
   have HO8 := zz ho8
   have HG8 := zz hg8
   have hdk8 := ((HR.out.on hg0).dk.grown hg8 ((HR.out.on hg0).kr.ne_low (by omega)))
   have HK8 := zz hdk8
   clear ho8 hg8 hg0 hdk8
   obtain ⟨n9, hn9⟩ : ∃ n9, (ks ++ [T]).length = n9 := ⟨_, rfl⟩
   rw [hn9] at HO8 ⊢
   clear hn9
   simp only [Act.put, zD, zE, zF]
   repeat (refine mixU_pure rfl rfl rfl (fun K hK => ?_); go_big_quiet_op; refine hK _ ?_; clear hK K)
   refine mixU_store1 rfl rfl 48 (.tmp 98) (.tmp 96) rfl gd 9 (.slice A9 n9 c9) rfl rfl (fun W hW => Blk.there (HK8.out.on hW) (by show 9 + 1 ≤ 10; decide)) (by kernel_rfl) rfl rfl ?_
   rintro V hgV
   have HPV : Hid (OpF w gd gs s d x m ev F A7 A8 n c7 c8 a b A9 n9 c9 (ks ++ [T]) T (V.setCell ⟨gd, 9, none⟩ (.slice A9 n9 c9))) := zz ((HR.out.on HG0.out).push ⟨hgV.os.trans HG8.out.os, hgV.tape.trans HG8.out.tape, hgV.output.trans HG8.out.output, Nat.le_trans HG8.out.size (Below.size hgV), fun k hk hr => (hgV.block k (Nat.lt_of_lt_of_le hk HG8.out.size)).trans (HG8.out.block k hk hr)⟩ (HO8.out.below hgV))
   simp only [Act.put, zD, zE, zF]
   refine mixU_nil ?_
   rintro W9 hg9
   obtain ⟨hd1, hd2⟩ := HDK.out W9 _ _ _ _ (HPV.out.on hg9)
   rw [← HKN.out] at hd1
   go_wp2_with fail
   go_ret2
   exact ⟨gd, rfl, by omega, hd1, hd2⟩
  ·have hq : ((F : Int) % (ev : Int) == 0) = false := by rw [hem]; simp; omega
   have HKN : Hid (keptS (inpT d.toNat a b) T0 ev (F + 1) = ks) := zz (by rw [HKP.out, if_neg h0])
   clear h0 hem HKP
   obtain ⟨hd1, hd2⟩ := HDK.out wr _ _ _ _ HR.out
   rw [← HKN.out] at hd1
   go_wp2_with fail
   go_ret2
   exact ⟨gd, rfl, by omega, hd1, hd2⟩
end
section
theorem frames_deck {w : World} {base g : Nat} {s d x m : Int} {a b : List Nat} {n ev F : Nat} {ks : List (Nat → Int)} (h : DkW w base g s d x m a b n ev F ks) : Calls Tryz.prog 38 #[.pointer (some ⟨g, 0, none⟩)] w fun e w' => e = .returned (.int .i64 F) ∧ w = w' := by
 obtain ⟨A, B, K, cA, cB, nK, cK, hk, -, -, -⟩ := h.blk
 have d8 := hk.cell 8
 have dl := hk.lt
 simp only [zA, zB, zC] at d8
 clear h hk
 go_enter Tryz.func38, Tryz.ntmps38
 go_wp2
 go_ret
 exact ⟨rfl, rfl⟩
theorem built_cfg28 : Tryz.prog.built 24 [(1, .int .i64 2), (2, .int .i64 1)] = some #[.int .u32 0, .int .i64 2, .int .i64 1, .int .i64 0] := by kernel_rfl
theorem preT_same {inp inq : Nat → Nat × Nat} {S : Nat → Int} {N : Nat} (h : ∀ j, j < N → inp j = inq j) : preT inp S N = preT inq S N := by
 unfold preT
 refine List.map_congr_left fun k hk => ?_
 rw [List.mem_range] at hk
 exact rdT_same k (fun j hj => h j (by omega))
theorem hapG_cut (s d : Int) (a b : List Nat) (n : Nat) (hn : n = min a.length b.length) : hapG s d (a.take n) (b.take n) = hapG s d a b := by
 have e : min (a.take n).length (b.take n).length = min a.length b.length := by rw [List.length_take, List.length_take]; omega
 unfold hapG
 rw [e, preT_same (inq := inpT d.toNat a b) (fun j hj => inpT_cut (by omega))]
theorem awake28_any (w : World) : Calls Tryz.prog 29 #[] w fun e w' => e = .returned (.bool true) ∧ Below w.heap.size w w' := by
 have HRC := zz (fun (V : World) (A B : Option Addr) (ra : Rd V V.heap.size A ([1, 2, 3].flatMap btC)) (rb : Rd V V.heap.size B ([0, 0, 0, 0].flatMap btC)) => record_good 0 2 1 0 A B 3 4 [1, 2, 3] [0, 0, 0, 0] 3 rfl V (by unfold U32; omega) (by decide) (by decide) (by decide) (by decide) (by decide) (by decide) ra rb)
 go_enter Tryz.func29, Tryz.ntmps29
 go_upto_region 2 with (first
  | (refine wpList_built rfl 24 [(1, .const (.int .i64 2)), (2, .const (.int .i64 1))] rfl #[.int .u32 0, .int .i64 2, .int .i64 1, .int .i64 0] [(1, .int .i64 2), (2, .int .i64 1)] ?_ built_cfg28 ?_; (case' hv => rfl))
  | (go_at_call 30; go_loud (refine (HRC.out _ _ _ ?ra ?rb).mono ?_)))
 case ra => exact (((rd_new w #[.int .u8 1, .int .u8 2, .int .u8 3] 5 w.heap.size rfl (w.heap.size + 1) (Nat.lt_succ_self _)).below (bAlloc (Below.refl _ _) _) (by simp)).more (by simp))
 case rb => exact rd_new (w.alloc (.cells #[.int .u8 1, .int .u8 2, .int .u8 3] 5)) #[.int .u8 0, .int .u8 0, .int .u8 0, .int .u8 0] 5 (w.heap.size + 1) (by simp) _ (by simp)
 have hb0 : Below w.heap.size w ((w.alloc (.cells #[.int .u8 1, .int .u8 2, .int .u8 3] 5)).alloc (.cells #[.int .u8 0, .int .u8 0, .int .u8 0, .int .u8 0] 5)) := bAlloc (bAlloc (Below.refl _ _) _) _
 obtain ⟨w1, hw1⟩ : ∃ w1, ((w.alloc (.cells #[.int .u8 1, .int .u8 2, .int .u8 3] 5)).alloc (.cells #[.int .u8 0, .int .u8 0, .int .u8 0, .int .u8 0] 5)) = w1 := ⟨_, rfl⟩
 rw [hw1] at hb0 ⊢
 have hcut := hapG_cut 0 2 [1, 2, 3] [0, 0, 0, 0] 3 rfl
 rw [show ([1, 2, 3] : List Nat).take 3 = [1, 2, 3] from rfl, show ([0, 0, 0, 0] : List Nat).take 3 = [0, 0, 0] from rfl] at hcut ⊢
 have hop := fun (V : World) (A B : Option Addr) (c c' : Nat) (ra : Rd V V.heap.size A ([1, 2, 3].flatMap btC)) (rb : Rd V V.heap.size B ([0, 0, 0].flatMap btC)) => open_good 2 (by decide) 0 2 1 _ A B c c' [1, 2, 3] [0, 0, 0] V (by unfold U32; omega) (by decide) (congrArg Nat.cast hcut) (by decide) ra rb
 obtain ⟨H, hH⟩ : ∃ H, hapG 0 2 [1, 2, 3] [0, 0, 0, 0] = H := ⟨_, rfl⟩
 rw [hH] at hop ⊢
 have HOP := zz hop
 have HB0 := zz hb0
 clear hw1 hb0 hop hH hcut HRC
 rintro e w3 ⟨A', B', cA, cB, rfl, ho1, ho2, hb3⟩
 have HO1 := zz ho1
 have HO2 := zz ho2
 have HB3 := zz (bTrans HB0.out hb3)
 clear ho1 ho2 hb3 HB0
 go_upto_region 2 with fail
 refine named1 (F := fun W => Code.wp _ _ _ _ W) ?_
 intro w4 k4 hb4 hz4
 have K4 := zz k4
 have HB4 := zz (bTrans HB3.out hb4)
 have hra := (HO1.out.below hb4).rd
 have hrb := (HO2.out.below hb4).rd
 have HRA := zz hra
 have HRB := zz hrb
 have q7 := K4.out; have s0a := q7.cell 0; have s0b := q7.cell 1; have s0c := q7.cell 2; have s0d := q7.cell 3; have s0e := q7.cell 4; have s0f := q7.cell 5; have s0g := q7.cell 6; have s0l := q7.lt; simp only [zA, zB, zC] at s0a s0b s0c s0d s0e s0f s0g; clear q7
 clear k4 hb4 hz4 hra hrb HO1 HO2 HB3
 go_upto_region 3 with (first
  | (go_at_call 31; refine (HOP.out w4 A' B' cA cB HRA.out HRB.out).mono ?_; rintro e w5 ⟨g, rfl, hg, hdk, hb5⟩; have HDK := zz hdk; have HB5 := zz (bTrans HB4.out hb5); have K5 := zz (K4.out.on hb5); clear hdk hb5))
 have HFR := zz (frames_deck HDK.out)
 clear s0a s0b s0c s0d s0e s0f s0g s0l
 have q7 := K5.out; have s0a := q7.cell 0; have s0b := q7.cell 1; have s0c := q7.cell 2; have s0d := q7.cell 3; have s0e := q7.cell 4; have s0f := q7.cell 5; have s0g := q7.cell 6; have s0l := q7.lt; simp only [zA, zB, zC] at s0a s0b s0c s0d s0e s0f s0g; clear q7
 go_wp2_with (first | (go_at_call 38; refine HFR.out.mono ?_; rintro e w6 ⟨rfl, rfl⟩))
 go_ret
 exact ⟨rfl, HB5.out⟩
end
end Go.Proofs.YtibeihcpehikoaaGreat
