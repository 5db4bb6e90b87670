/-
  The walks beneath: TrF, TrG.
-/
import Derived.Test.YtibeihcpehikoaaGreatNk38
import Derived.Test.YtibeihcpehikoaaGreatNk40
namespace Go.Proofs.YtibeihcpehikoaaGreat
set_option maxRecDepth 100000
set_option maxHeartbeats 16000000
set_option linter.unusedSimpArgs false
section
open Go.RowKit Go.Shelf
attribute [local go_sem] Oper.semAt_some
structure TrR where
 T : Nat → Int
 L : List Ev
 A : Option Addr
 c : Nat
def TrR.encs (r : TrR) : Array Value := #[.slice r.A r.L.length r.c, .agg (stCells r.T).toArray]
def TrR.core (r : TrR) : (Nat → Int) × List Ev := (r.T, r.L)
def TpM (N m : Nat) (pre : List TrR) (r : TrR) (A : World) : Prop := OwnL A m 62 9 (.slice r.A r.L.length r.c) Ev.cells r.L ∧ r.L.length ≤ 22 ∧ pre.length < N
def KpT (B0 : Nat) (X : Nat → Prop) (A B : World) : Prop := A.heap.size ≤ B.heap.size ∧ (∀ r, r < B0 → ¬ X r → B.heap[r]? = A.heap[r]?) ∧ ∀ r t cs, Blk A r t cs → t ≠ 54 → ¬ X r → Blk B r t cs
def LowK (B0 : Nat) (X : Nat → Prop) (A B : World) : Prop := ∀ r, r < B0 → ¬ X r → B.heap[r]? = A.heap[r]?
theorem cell_heap {w W : World} {b : Nat} (h : W.heap[b]? = w.heap[b]?) (o : Nat) : W.cell? ⟨b, o, none⟩ = w.cell? ⟨b, o, none⟩ := by
 simp only [World.cell?, h]
theorem Rd.low {w W : World} {B B0 : Nat} {X : Nat → Prop} {A : Option Addr} {xs : List Value} (h : Rd w B A xs) (hX : ∀ r, X r → B ≤ r) (hB : B ≤ B0) (k : LowK B0 X w W) : Rd W B A xs := fun hn => by
 obtain ⟨b, off, rfl, hb, hc⟩ := h hn
 exact ⟨b, off, rfl, hb, fun i u hu => by rw [cell_heap (k b (by omega) (fun e => by have := hX b e; omega))]; exact hc i u hu⟩
theorem LowK.below {B0 : Nat} {X : Nat → Prop} {w W V : World} (h : LowK B0 X w W) (hb : Below W.heap.size W V) (hB : B0 ≤ W.heap.size) : LowK B0 X w V := fun r hr hx => (hb.block r (by omega)).trans (h r hr hx)
theorem LowK.farC {B0 : Nat} {X : Nat → Prop} {w W : World} (h : LowK B0 X w W) {g : Nat} (hg : B0 ≤ g) (o : Nat) (vs : List Value) : LowK B0 X w (W.setCells g o vs) := fun r hr hx => (setCells_block W g vs o r (by omega)).trans (h r hr hx)
def stTold (w : World) (T : Nat → Int) (L : List Ev) : Told :=
 ⟨fun v => ∃ A c, v = .tuple #[.agg (stCells T).toArray, .slice A L.length c, .int .i64 0], fun v W => ∀ A c, v = .tuple #[.agg (stCells T).toArray, .slice A L.length c, .int .i64 0] → OwnL W w.heap.size 62 9 (.slice A L.length c) Ev.cells L⟩
theorem stTold_st {w : World} {T : Nat → Int} {L : List Ev} : ∀ v W U, (stTold w T L).R v W → Grown W U → (stTold w T L).R v U := fun _ _ _ h k A c hv => (h A c hv).below k
theorem stTold_of {w W : World} {S T : Nat → Int} {L : List Ev} {n0 n1 : Nat} (hW : Grown w W) (hok : StOk S) (hF : S 0 < 1073741824) (h0 : n0 < 64) (h1 : n1 < 64) (hTL : stepS n0 n1 S = (T, L)) :
  Calls Tryz.prog 55 #[.agg (stCells S).toArray, .agg #[.int .u8 n0, .int .u8 n1]] W fun e w' => ∃ v, e = .returned v ∧ ((stTold w T L).S v ∧ (stTold w T L).R v w') ∧ Grown W w' := by
 have := gStep_yes (w := W) hok hF h0 h1
 rw [hTL] at this
 refine this.mono ?_
 rintro e w' ⟨A, c, rfl, ho, hb⟩
 refine ⟨_, rfl, ⟨⟨A, c, rfl⟩, fun A' c' hv => ?_⟩, hb⟩
 simp only [Value.tuple.injEq, Array.mk.injEq, List.cons.injEq, Value.slice.injEq, true_and, and_true] at hv
 obtain ⟨rfl, rfl⟩ := hv
 exact ho.more (Below.size hW)
theorem getD_lt {a : List Nat} (h : ∀ x ∈ a, x < 64) (j : Nat) : a.getD j 0 < 64 := by
 rw [List.getD_eq_getElem?_getD]
 cases hj : a[j]? with
 | none => decide
 | some x => exact h x (List.mem_of_getElem? hj)
theorem inpT_lt {d : Nat} {a b : List Nat} (ha : ∀ x ∈ a, x < 64) (hb : ∀ x ∈ b, x < 64) (k : Nat) : (inpT d a b k).1 < 64 ∧ (inpT d a b k).2 < 64 := by
 unfold inpT
 split
 ·exact ⟨by decide, by decide⟩
 ·exact ⟨getD_lt ha _, getD_lt hb _⟩
theorem input_any {s d : Int} {A B : Option Addr} {c c' : Nat} {a b : List Nat} {k : Nat} {w : World} (hd : 0 ≤ d) (hk : (k : Int) < d + (min a.length b.length : Nat)) (ha : a.length ≤ 1000) (ra : Rd w w.heap.size A (a.flatMap btC)) (rb : Rd w w.heap.size B (b.flatMap btC)) :
  Calls Tryz.prog 144 #[.agg #[.int .u32 s, .int .i64 d, .slice A a.length c, .slice B b.length c'], .int .i64 k] w fun e w' => e = .returned (.agg #[.int .u8 (inpT d.toNat a b k).1, .int .u8 (inpT d.toNat a b k).2]) ∧ Below w.heap.size w w' := by
 unfold inpT
 split
 ·exact input_none s d k A B a.length c b.length c' w (by omega)
 ·exact input_some s d k A B c c' a b w (by omega) (k - d.toNat) (by omega) (by omega) (by omega) ha ra rb
theorem frames_seq (n : Nat) (hn : 1 ≤ n) (s d : Int) (A B : Option Addr) (c c' : Nat) (a b : List Nat) (N Bq : Nat) (X : Nat → Prop) (w : World) (gm : Nat) (hs : U32 s) (hd : 0 ≤ d ∧ d ≤ 8) (hN : (N : Int) = d + (min a.length b.length : Nat)) (ha : a.length ≤ 1000) (hb : b.length ≤ 1000)
  (h63a : ∀ x ∈ a, x < 64) (h63b : ∀ x ∈ b, x < 64) (ra : Rd w Bq A (a.flatMap btC)) (rb : Rd w Bq B (b.flatMap btC)) (hBq : Bq ≤ w.heap.size) (hgm : Blk w gm 133 #[.int .u32 s, .int .i64 d, .slice A a.length c, .slice B b.length c']) (hx : ∀ r, X r → Bq ≤ r ∧ r < w.heap.size ∧ r ≠ gm) :
  SeqSt n Tryz.prog 143 #[.pointer (some ⟨gm, 0, none⟩)] TrR.encs (TpM N) (KpT w.heap.size X) (fun xs => xs.map TrR.core = preT (inpT d.toNat a b) (beginS s) N) w := by
 intro l J W hW hJ hJ0 hY
 have HJ := zz hJ
 have HJ0 := zz hJ0
 have HY := zz hY
 have HOK := zz (begin_ok hs)
 obtain ⟨T0, hT0⟩ : ∃ T0, beginS s = T0 := ⟨_, rfl⟩
 have hbeg := fun V => gBegin_any s V
 have hz : T0 0 = 0 ∧ T0 2 = 0 := by rw [← hT0]; exact ⟨rfl, rfl⟩
 rw [hT0] at hbeg HOK ⊢
 obtain ⟨C0, hC0⟩ : ∃ C0 : Array Value, (stCells T0).toArray = C0 := ⟨_, rfl⟩
 rw [hC0] at hbeg
 have hsz : C0.size = 60 := by rw [← hC0, zM, stCells_length]
 have H1C : Hid (C0.all (·.oneCell') = true) := zz (by rw [← hC0]; exact all_oneCell_toArray (int_one _))
 have HSZ : Hid ((Tryz.prog.info? 41).map (·.size) = some C0.size) := zz (by rw [hsz]; kernel_rfl)
 have HSI := zz hsz
 have HC0 := zz hC0
 have HBEG := zz hbeg
 have HZ := zz hz
 have HRA := zz ra
 have HRB := zz rb
 have HX := zz hx
 have H63A := zz h63a
 have H63B := zz h63b
 have HLOW : Hid (LowK w.heap.size X w W) := zz (fun r hr _ => hW.block r hr)
 have BM := zz (hgm.on hW)
 have hwW := hW.size
 have HKN : Hid (∀ V, Calls Tryz.prog 70 #[.agg #[.int .u32 s, .int .i64 d, .slice A a.length c, .slice B b.length c']] V fun e w' => e = .returned (.int .i64 (N : Int)) ∧ Below V.heap.size V w') := zz (fun V => by rw [hN]; exact known_any s d A B a.length c b.length c' V hd (by omega) (by omega))
 have m0a := (BM.out).cell 0; have m0b := (BM.out).cell 1; have m0c := (BM.out).cell 2; have m0d := (BM.out).cell 3; have m0e := (BM.out).frozen 0; have m0f := (BM.out).frozen 1; have m0g := (BM.out).frozen 2; have m0h := (BM.out).frozen 3; have m0l := (BM.out).lt; simp only [zA, zB, zC] at m0a m0b m0c m0d
 clear hJ hJ0 hY hbeg hsz hC0 hT0 hz ra rb hx h63a h63b hgm
 refine callsIn_of_wp Tryz.func143 rfl trivial ?_ rfl
 simp only [Tryz.ntmps143, zM, zH, zI, Nat.reduceAdd, Nat.reduceSub, Array.replicate_succ, Array.replicate_zero, List.push_toArray, List.append_toArray, List.nil_append, List.cons_append]
 refine wpIn_wide.2 ?_
 go_upto_region 1 with (first
  | (go_at_call 53; refine (HBEG.out _).mono ?_; rintro e w3 ⟨rfl, hb3⟩; have HB3 := zz hb3; clear hb3)
  | (refine wpList_store_mid rfl 41 (.tmp 3) (.tmp 10) rfl w3.heap.size 0 C0 rfl rfl (there_new _ _ _ (by rw [HSI.out]; rfl)) HSZ.out H1C.out ?_))
 refine named_put (F := fun W => Code.wp _ _ _ _ W) (by rw [zK, HSI.out]; rfl) ?_
 intro w4 hk4 hb4 hz4
 rw [zJ, ← HC0.out] at hk4
 have hb40 := bTrans HB3.out hb4
 have hg4 := hk4.lt
 have hge4 : W.heap.size ≤ w3.heap.size := HB3.out.size
 obtain ⟨gs, hgs⟩ : ∃ gs, w3.heap.size = gs := ⟨_, rfl⟩
 rw [hgs] at hk4 hg4 hge4 ⊢
 have HS4 := zz hk4
 have HB4 := zz hb40
 have BM4 := zz (BM.out.on hb40)
 clear m0a m0b m0c m0d m0e m0f m0g m0h m0l
 have m0a := (BM4.out).cell 0; have m0b := (BM4.out).cell 1; have m0c := (BM4.out).cell 2; have m0d := (BM4.out).cell 3; have m0e := (BM4.out).frozen 0; have m0f := (BM4.out).frozen 1; have m0g := (BM4.out).frozen 2; have m0h := (BM4.out).frozen 3; have m0l := (BM4.out).lt; simp only [zA, zB, zC] at m0a m0b m0c m0d
 clear hk4 hb4 hz4 hb40 hgs HB3 HBEG H1C HSZ
 go_upto_region 2 with (first
  | (go_at_call 70; refine (HKN.out _).mono ?_; rintro e w5 ⟨rfl, hb5⟩; have HB5 := zz hb5; clear hb5))
 obtain ⟨m, hm⟩ : ∃ m, w5.heap.size = m := ⟨_, rfl⟩
 have hb45 := bTrans HB4.out HB5.out
 have HJ5 := zz (HJ0.out w5 (grown_of hb45))
 have HS5 := zz (HS4.out.on HB5.out)
 have BM5 := zz (BM4.out.on HB5.out)
 have HL5 := zz (HLOW.out.below hb45 hwW)
 have hgs5 := HS5.out.lt
 rw [hm] at HJ5 hgs5
 have hWm : W.heap.size ≤ m := by omega
 clear m0a m0b m0c m0d m0e m0f m0g m0h m0l BM BM4 HS4 HB4 HB5 hb45 hg4 HLOW HKN HJ0
 go_loopw [13] (fun v wr => ∃ (k : Nat) (pre : List TrR), k ≤ N ∧ v = .int .i64 k ∧ Hid (pre.map TrR.core = preT (inpT d.toNat a b) T0 k) ∧ Hid (J m pre wr) ∧ Hid (Blk wr gs 41 (stCells (stT (inpT d.toNat a b) T0 k)).toArray) ∧ Hid (Blk wr gm 133 #[.int .u32 s, .int .i64 d, .slice A a.length c, .slice B b.length c']) ∧ Hid (LowK w.heap.size X w wr) ∧ m ≤ wr.heap.size) (fun v _ => N - (intOf v).toNat)
 case atStart => exact ⟨0, [], Nat.zero_le _, rfl, zz rfl, HJ5, HS5, BM5, HL5, by omega⟩
 case round =>
 obtain ⟨k, pre, hk, rfl, HP, HJK, HS, HK, HLW, hmr⟩ := hrel
 clear HJ5 HS5 BM5 HL5 hm
 by_cases hlt : k < N
 ·as_aux_lemma =>
  obtain ⟨q1, q2, q3, q4⟩ := stT_ok (inp := inpT d.toNat a b) HOK.out HZ.out.1 HZ.out.2 k (by omega)
  have hsucc : stT (inpT d.toNat a b) T0 (k + 1) = (rdT (inpT d.toNat a b) T0 k).1 := rfl
  have hpsucc := preT_succ (inpT d.toNat a b) T0 k
  have hrd : rdT (inpT d.toNat a b) T0 k = stepS (inpT d.toNat a b k).1 (inpT d.toNat a b k).2 (stT (inpT d.toNat a b) T0 k) := rfl
  obtain ⟨S, hS⟩ : ∃ S, stT (inpT d.toNat a b) T0 k = S := ⟨_, rfl⟩
  obtain ⟨hx64, hy64⟩ := inpT_lt (d := d.toNat) H63A.out H63B.out k
  have hwr : w.heap.size ≤ wr.heap.size := by omega
  have hin := fun (V : World) (hV : Below wr.heap.size wr V) => input_any (s := s) (c := c) (c' := c') (k := k) (w := V) hd.1 (by omega) ha (((HRA.out.low (fun r e => (HX.out r e).1) hBq HLW.out).below hV (by omega)).more (Nat.le_trans hBq (Nat.le_trans hwr hV.size))) (((HRB.out.low (fun r e => (HX.out r e).1) hBq HLW.out).below hV (by omega)).more (Nat.le_trans hBq (Nat.le_trans hwr hV.size)))
  obtain ⟨x, hxn⟩ : ∃ x, (inpT d.toNat a b k).1 = x := ⟨_, rfl⟩
  obtain ⟨y, hyn⟩ : ∃ y, (inpT d.toNat a b k).2 = y := ⟨_, rfl⟩
  rw [hxn] at hx64 hrd hin
  rw [hyn] at hy64 hrd hin
  rw [hS] at q1 q2 q3 q4 hrd HS
  obtain ⟨T', L', hTL⟩ : ∃ T' L', stepS x y S = (T', L') := ⟨_, _, rfl⟩
  rw [hTL] at hrd
  rw [hrd] at hsucc hpsucc
  have hl22 : L'.length ≤ 22 := by
   have := (stepS_ok x y q1 (by omega) (by omega)).2.1
   rw [hTL] at this; exact this
  have HIN := zz hin
  have HST := zz (fun V (hV : Grown wr V) => stTold_of (w := wr) hV q1 (by omega) hx64 hy64 hTL)
  have HTN : Hid (stT (inpT d.toNat a b) T0 (k + 1) = T') := zz hsucc
  have HPN : Hid (preT (inpT d.toNat a b) T0 (k + 1) = preT (inpT d.toNat a b) T0 k ++ [(T', L')]) := zz hpsucc
  have HL22 := zz hl22
  have hpl : pre.length = k := by
   have := congrArg List.length HP.out
   rwa [List.length_map, preT_length] at this
  have hlg := HS.out.lt
  have hlm := HK.out.lt
  clear q1 q2 q3 q4 hsucc hpsucc hS hxn hyn hTL hrd hl22 hin HOK HZ hx64 hy64
  go_upto_region 4 with fail
  have hKp := Keeps.base wr
  refine wp_region_mixedT [.held, .held, .pure, .make, .make, .pure, .pure, .pure, .pure, .make, .tail, .pure, .pure] (fun | 3 => valF (.agg #[.int .u8 (x : Int), .int .u8 (y : Int)]) | 4 => stTold wr T' L' | _ => newTold wr 41 (stCells zeroT).toArray) (by kernel_rfl) (by kernel_rfl) ?_
  refine mix_load rfl rfl (by assumption) 41 (.tmp 3) rfl gs 0 rfl (stCells S) _ hlg (Blk.range HS.out) Tryz.underlying41 rfl (by kernel_rfl) ?_
  simp only [Act.put, zD, zE, zF]
  refine mix_load rfl rfl (by assumption) 133 (.tmp 1) rfl gm 0 rfl [.int .u32 s, .int .i64 d, .slice A a.length c, .slice B b.length c'] _ hlm (Blk.range HK.out) Tryz.underlying133 rfl (by kernel_rfl) ?_
  simp only [Act.put, zD, zE, zF]
  repeat (first | (refine mix_pure rfl rfl rfl (fun K hK => ?_); go_big_quiet_op; refine hK _ ?_; clear hK K) | (refine mix_held rfl rfl rfl (by assumption) (fun K hK => ?_); go_big_quiet_op; refine hK _ ?_; clear hK K))
  refine mix_make rfl rfl (by assumption) valF_st (fun V hV => ?_) ?_
  ·have HS2 := zz (valF_of (HIN.out V hV))
   go_simp
   exact HS2.out
  rintro _ rfl hKp2
  simp only [Act.put, zD, zE, zF]
  refine mix_make rfl rfl (by assumption) stTold_st (fun V hV => ?_) ?_
  ·have HS2 := zz (HST.out V hV)
   go_simp
   exact HS2.out
  rintro v ⟨AN, cN, rfl⟩ hKp3
  simp only [Act.put, zD, zE, zF]
  repeat (first | (refine mix_pure rfl rfl rfl (fun K hK => ?_); go_big_quiet_op; refine hK _ ?_; clear hK K) | (refine mix_held rfl rfl rfl (by assumption) (fun K hK => ?_); go_big_quiet_op; refine hK _ ?_; clear hK K))
  refine mix_make rfl rfl (by assumption) newTold_st (newTold_makes rfl zero_state rfl) ?_
  rintro v ⟨g5, rfl⟩ hKp4
  simp only [Act.put, zD, zE, zF]
  refine mix_store rfl rfl 41 (.tmp 5) (.tmp 22) rfl g5 0 (stCells T').toArray rfl rfl (fun V hV => ?_) (by kernel_rfl) (all_oneCell_toArray (int_one T')) ?_
  ·have := (hV.2 g5 rfl).2
   exact Blk.there this (by rw [zM, zM, stCells_length, stCells_length]; decide)
  simp only [Act.put, zD, zE, zF]
  repeat (first | (refine mix_pure rfl rfl rfl (fun K hK => ?_); go_big_quiet_op; refine hK _ ?_; clear hK K) | (refine mix_held rfl rfl rfl (by assumption) (fun K hK => ?_); go_big_quiet_op; refine hK _ ?_; clear hK K))
  refine mix_nil ?_
  rintro V' ⟨V, hD, rfl⟩
  obtain ⟨⟨⟨hg, -⟩, hR1⟩, hR2⟩ := hD
  obtain ⟨hge, hBg⟩ := hR2 g5 rfl
  have ho := hR1 AN cN rfl
  have hg : Grown wr V := hg
  have hn6 := hBg.whole (stCells T') (by rw [zM, stCells_length, stCells_length])
  have ho6 := (ho.more hmr).farC (b := g5) (hBg.apart ho (by decide)) 0 (stCells T')
  have hs6 := (HS.out.on hg).farC (show gs ≠ g5 by omega) 0 (stCells T')
  have hk6 := (HK.out.on hg).farC (show gm ≠ g5 by omega) 0 (stCells T')
  have hl6 := (HLW.out.below hg (by omega)).farC (show w.heap.size ≤ g5 by omega) 0 (stCells T')
  have hb6 := bSetCells hg hge 0 (stCells T')
  obtain ⟨w6, hw6⟩ : ∃ w6, V.setCells g5 0 (stCells T') = w6 := ⟨_, rfl⟩
  rw [hw6] at hn6 ho6 hs6 hk6 hl6 hb6
  first | rw [hw6] | (show Exit.then _ _ _ _ (V.setCells g5 0 (stCells T')); rw [hw6])
  have HG8 := zz hn6
  have HO8 := zz ho6
  have HS8 := zz hs6
  have HK8 := zz hk6
  have HL8 := zz hl6
  have HJ8 := zz (HJ.out m pre wr w6 none HJK.out (grown_of hb6) (fun r e => by cases e))
  have hmr6 : m ≤ w6.heap.size := Nat.le_trans hmr (Below.size hb6)
  have hgm8 : m ≤ g5 := by omega
  have hgsm : gs < m := hgs5
  clear hw6 hn6 ho6 hs6 hk6 hl6 hb6 hg hge hBg hR1 hR2 ho hKp hKp2 hKp3 hKp4 HIN HST HS HK HJK HLW hlg hlm hmr
  have hl8 := HG8.out.lt
  obtain ⟨fn, tmps, assign, body, hy, hR⟩ := HY.out m pre ⟨T', L', AN, cN⟩ w6 hWm HJ8.out ⟨HO8.out, HL22.out, by rw [hpl]; exact hlt⟩
  unfold TrR.encs at hy
  dsimp only at hy
  go_upto_region 5 with fail
  refine (wpIn_wide (n := n)).1 ?_
  apply wpIn_region_lit
  refine wpListIn_runs (.int .i64 0) rfl (by intro c h; cases h) rfl rfl ?_
  simp only [Act.put, zD, zE, zF]
  refine wpListIn_runs (.bool false) rfl (by intro c h; cases h) rfl rfl ?_
  simp only [Act.put, zD, zE, zF]
  refine wpListIn_runs (.bool false) rfl (by intro c h; cases h) rfl rfl ?_
  simp only [Act.put, zD, zE, zF]
  refine wpListIn_runs (.func (.yield l) #[] #[]) rfl (by intro c h; cases h) rfl rfl ?_
  simp only [Act.put, zD, zE, zF]
  refine wpListIn_runs (.slice AN L'.length cN) rfl (by intro c h; cases h) rfl rfl ?_
  simp only [Act.put, zD, zE, zF]
  refine wpListIn_runs (.agg (stCells T').toArray) rfl (by intro c h; cases h) rfl (runs_load 41 (.tmp 5) rfl g5 0 rfl (stCells T') _ (Blk.range HG8.out) Tryz.underlying41 rfl (by kernel_rfl)) ?_
  simp only [Act.put, zD, zE, zF]
  refine wpListIn_yield (l := l) (fn := fn) (tms := tmps) (assign := assign) (body := body) (v := .bool true) ?_ ?_ ?_ ?_ (fun _ => hn) hR ?_
  ·rfl
  ·intro c h; cases h
  ·rfl
  ·exact runs_yield (.tmp 28) [.tmp 29, .tmp 30] rfl rfl rfl rfl hy
  rintro w9 ⟨hJ9, hk9⟩
  simp only [Act.put, zD, zE, zF]
  refine wpListIn_runs (.bool false) rfl (by intro c h; cases h) rfl rfl ?_
  simp only [Act.put, zD, zE, zF]
  refine wpListIn_runs (.bool false) rfl (by intro c h; cases h) rfl rfl ?_
  simp only [Act.put, zD, zE, zF]
  refine wpListIn_nil ?_
  go_upto_region 6 with fail
  obtain ⟨hz9, hlo9, hk9⟩ := hk9
  have hG9 := hk9 g5 _ _ HG8.out (by decide) (fun e => by have := (HX.out _ e).2.1; omega)
  have hS9 := hk9 gs _ _ HS8.out (by decide) (fun e => by have := (HX.out _ e).2.1; omega)
  have hK9 := hk9 gm _ _ HK8.out (by decide) (fun e => (HX.out _ e).2.2 rfl)
  have hL9 : LowK w.heap.size X w w9 := fun r hr hxr => (hlo9 r hr hxr).trans (HL8.out r hr hxr)
  have HI := zz (int_one T')
  obtain ⟨CL, hCL⟩ : ∃ CL, stCells T' = CL := ⟨_, rfl⟩
  have hlen : CL.length = 60 := by rw [← hCL, stCells_length]
  rw [hCL] at hG9 HI
  have hone := all_oneCell_toArray HI.out
  have hsz9 : (Tryz.prog.info? 41).map (·.size) = some CL.toArray.size := by rw [zM, hlen]; kernel_rfl
  have hlg9 := hG9.lt
  have hls9 := hS9.lt
  apply wp_region_lit
  refine wpList_load_mid rfl 41 (.tmp 5) rfl g5 0 rfl CL _ (Blk.range hG9) Tryz.underlying41 rfl (by rw [hlen]; kernel_rfl) ?_
  simp only [Act.put, zD, zE, zF]
  refine wpList_store_mid rfl 41 (.tmp 3) (.tmp 34) rfl gs 0 CL.toArray rfl rfl (Blk.there hS9 (by rw [zM, zM, stCells_length, hlen]; decide)) hsz9 hone ?_
  have hne9 : gm ≠ gs := fun e => by
   have h1 : w9.heap[gm]? = some (.cells #[.int .u32 s, .int .i64 d, .slice A a.length c, .slice B b.length c'] 133 (0, 0)) := hK9
   have h2 : w9.heap[gs]? = some (.cells (stCells S).toArray 41 (0, 0)) := hS9
   rw [e, h2] at h1
   cases h1
  have hS10 : Blk (w9.setCells gs 0 CL.toArray.toList) gs 41 CL.toArray := hS9.whole CL (by rw [zM, stCells_length, hlen])
  have hK10 : Blk (w9.setCells gs 0 CL.toArray.toList) gm 133 #[.int .u32 s, .int .i64 d, .slice A a.length c, .slice B b.length c'] := hK9.farC hne9 0 CL
  have hL10 : LowK w.heap.size X w (w9.setCells gs 0 CL.toArray.toList) := hL9.farC (by omega) 0 CL
  have hJ10 := HJ.out m _ w9 (w9.setCells gs 0 CL.toArray.toList) (some gs) hJ9 (grownBy_setCells _ _ _ _) (fun r e => by cases e; exact ⟨hge4, hgsm, _, hS9, rfl⟩)
  have hz10 : m ≤ (w9.setCells gs 0 CL.toArray.toList).heap.size := by rw [setCells_size]; omega
  obtain ⟨w10, hw10⟩ : ∃ w10, w9.setCells gs 0 CL.toArray.toList = w10 := ⟨_, rfl⟩
  rw [hw10] at hS10 hK10 hJ10 hz10 hL10 ⊢
  simp only [Act.put, zD, zE, zF]
  refine wpList_nil ?_
  clear hw10 hG9 hS9 hK9 hone hsz9 hlg9 hls9 HG8 HS8 HK8 HO8 hk9 hlo9 hL9
  go_wp2_with fail
  go_roundw
  ·refine ⟨k + 1, pre ++ [⟨T', L', AN, cN⟩], by omega, by push_cast; rfl, zz ?_, zz hJ10, zz ?_, zz hK10, zz hL10, hz10⟩
   ·rw [List.map_append, HP.out, HPN.out]; rfl
   ·rw [HTN.out, hCL]; exact hS10
  ·have e1 : intOf (Value.int .i64 ((k : Int) + 1)) = (k : Int) + 1 := rfl
   have e2 : intOf (Value.int .i64 (k : Int)) = (k : Int) := rfl
   rw [e1, e2]; omega
 ·have hkN : k = N := by omega
  rw [hkN] at HP
  go_wp2_with fail
  go_end0
  exact ⟨⟨_, rfl⟩, m, pre, hWm, HP.out, HJK.out⟩
end
section
open Go.RowKit Go.Shelf
attribute [local go_sem] Oper.semAt_some
def pgC (p : TrR × Nat) : List Value := [.int .i64 (p.2 : Nat), .slice p.1.A p.1.L.length p.1.c]
theorem pgC_length (p : TrR × Nat) : (pgC p).length = 2 := rfl
theorem infoPg : (Tryz.prog.info? 54).map (fun i => (i.zero, i.size, i.bytes)) = some (some (.agg #[.int .i64 0, .slice none 0 0]), 2, 32) := by kernel_rfl
theorem pgs_oneCell (l : List (TrR × Nat)) : ∀ u ∈ l.flatMap pgC, u.oneCell' = true := fun u hu => by
 obtain ⟨q, -, hq⟩ := List.mem_flatMap.1 hu
 simp only [pgC, List.mem_cons, List.not_mem_nil, or_false] at hq
 rcases hq with rfl | rfl <;> rfl
theorem goes_app_pg {W : World} {o : Oper} {a : Act} (s x : Operand) (ho : o.op = .call { callee := .builtin .append, args := #[s, x], argTypes := #[27, 27] }) (base : Nat) (u : Value) (L M : List (TrR × Nat)) (hown : OwnL W base 54 2 u pgC L) (hs : a.eval s = u)
  (B : Nat) (A : Option Addr) (m c : Nat) (hm : m = M.length) (hx : a.eval x = .slice A m c) (hr : Rd W B A (M.flatMap pgC)) (hn : L.length + M.length ≤ 1000000000) (hbase : base ≤ W.heap.size) :
  Oper.goes Tryz.prog o a W (fun v' W' => OwnL W' base 54 2 v' pgC (L ++ M) ∧ W.grownBy W' u.ownBlock) := by
 subst hm
 obtain ⟨i0, hi0, hz0, hz1, hz2⟩ := info_parts infoPg
 refine goes_mono (goes_app s x 27 ho base 54 i0 _ 2 32 Tryz.underlying27 hi0 hz0 hz1 hz2 rfl (by decide) u L.length (L.flatMap pgC) hs hown B A M.length c (M.flatMap pgC) hx (length_flatMap_const _ _ pgC_length _) hr (rd_none pgC_length (by decide) hr) (pgs_oneCell M) (by unfold maxLen; omega) (by omega) hbase) ?_
 rintro v' W' ⟨h2, h3⟩
 exact ⟨OwnL.app rfl h2, h3⟩
theorem wpListIn_goes {l n : Nat} {P : Program} {ops : Array Oper} {rest : List Oper} {o : Oper} {a : Act} {w : World} {Q : Exit → Act → World → Prop} {T : Value → World → Prop} (hw : Region.wanted o (yielded ops a.tmps) = true) (hd : ∀ c, o.op ≠ .defer c) (ha : o.about P w a.eval = none)
  (h : Oper.goes P o a w T) (k : ∀ v w', T v w' → wpListIn (Fence.wide.inRound l) n P ops Q rest (a.put o.dst v) w') : wpListIn (Fence.wide.inRound l) n P ops Q (o :: rest) a w := by
 unfold wpListIn
 rw [if_pos hw]
 refine ⟨fun f hf => (by rw [ha] at hf; cases hf), ?_⟩
 rw [Oper.semAt_plain _ _ _ hd]
 unfold Oper.goes at h
 generalize (execOp a.eval o).run P w = r at *
 cases r with
 | ok x w' =>
  cases x <;> simp only [Oper.goesUpon] at h
  case value u => exact k _ _ h
  case skip => exact k _ _ h
  case enter f args => exact ⟨fun e => (by cases e), callsIn_wide.2 (h.mono fun e w'' ⟨v, he, hh⟩ => by subst he; exact k _ _ hh)⟩
 | halt x w' => simp only [Oper.goesUpon] at h
structure PI (w0 b10 : Nat) (w : World) (m : Nat) (pre : List TrR) (W : World) : Prop where
 below : Below w0 w W
 row : ∃ A1 c1, Blk W b10 27 #[.slice A1 pre.length c1] ∧ OwnL W m 54 2 (.slice A1 pre.length c1) pgC pre.zipIdx
 evs : ∀ r ∈ pre, OwnL W m 62 9 (.slice r.A r.L.length r.c) Ev.cells r.L ∧ r.L.length ≤ 22
 size : m ≤ W.heap.size
 low : b10 < m ∧ w0 ≤ m
theorem PI.keeps {w0 b10 : Nat} {w : World} {m : Nat} {pre : List TrR} {A A' : World} {row : Option Nat} {B : Nat} (h : PI w0 b10 w m pre A) (hg : A.grownBy A' row) (hB : w0 ≤ B ∧ b10 < B) (hw : w0 ≤ A.heap.size)
  (hr : ∀ r, row = some r → B ≤ r ∧ ((∃ o : Obj, A.heap[r]? = some o ∧ o.isCells = false) ∨ (r < m ∧ ∃ o : Obj, A.heap[r]? = some o ∧ o.isCells = true))) : PI w0 b10 w m pre A' := by
 have hne : ∀ b, b < B → row ≠ some b := fun b hb e => by have := (hr b e).1; omega
 obtain ⟨A1, c1, r1, r2⟩ := h.row
 exact ⟨h.below.grown hg hw (fun k e => by have := (hr k e).1; omega), ⟨A1, c1, r1.grown hg (hne _ hB.2), r2.away hg hr⟩, fun r hrr => ⟨(h.evs r hrr).1.away hg hr, (h.evs r hrr).2⟩, Nat.le_trans h.size hg.size, h.low⟩
theorem KpT.trans {B0 : Nat} {X : Nat → Prop} {A B C : World} (h : KpT B0 X A B) (k : KpT B0 X B C) : KpT B0 X A C := ⟨Nat.le_trans h.1 k.1, fun r hr hx => (k.2.1 r hr hx).trans (h.2.1 r hr hx), fun r t cs hr h1 hx => k.2.2 r t cs (h.2.2 r t cs hr h1 hx) h1 hx⟩
theorem KpT.put {B0 : Nat} {X : Nat → Prop} (W : World) (l : Nat) (o o' : Obj) (hB : B0 ≤ l) (ho : W.heap[l]? = some o) (hc : o.isCells = false) : KpT B0 X W (W.putObj l o') := ⟨(grownBy_putObj' W l o').size, fun r hr _ => World.putObj_heap_other (by omega), fun _ _ _ hr _ _ => hr.putObj ho hc⟩
theorem rows_len {xs : List TrR} {inp : Nat → Nat × Nat} {S : Nat → Int} {N : Nat} (h : xs.map TrR.core = preT inp S N) : xs.length = N := by
 have := congrArg List.length h
 rwa [List.length_map, preT_length] at this
theorem pages_good (s d x y : Int) (A B : Option Addr) (c c' : Nat) (a b : List Nat) (N : Nat) (w : World) (hs : U32 s) (hok : ofB d a b = false) (hN : (N : Int) = d + (min a.length b.length : Nat)) (ha : a.length ≤ 1000) (hb : b.length ≤ 1000) (ra : Rd w w.heap.size A (a.flatMap btC)) (rb : Rd w w.heap.size B (b.flatMap btC)) :
    Calls Tryz.prog 16 #[.agg #[.int .u32 s, .int .i64 d, .int .i64 x, .int .i64 y], .slice A a.length c, .slice B b.length c'] w fun e w' => ∃ (A' : Option Addr) (cp : Nat) (xs : List TrR), e = .returned (.tuple #[.slice A' xs.length cp, .int .i64 0]) ∧ xs.map TrR.core = preT (inpT d.toNat a b) (beginS s) N ∧
      OwnL w' w.heap.size 54 2 (.slice A' xs.length cp) pgC xs.zipIdx ∧ (∀ r ∈ xs, OwnL w' w.heap.size 62 9 (.slice r.A r.L.length r.c) Ev.cells r.L ∧ r.L.length ≤ 22) ∧ Below w.heap.size w w' := by
  have hof := fun (V : World) (hV : Below w.heap.size w V) => of_good s d x y A B c c' a b V ha hb ((ra.below hV (zL _)).more hV.size) ((rb.below hV (zL _)).more hV.size) hok
  unfold ofB badB at hok
  simp only [Bool.or_eq_false_iff, decide_eq_false_iff_not, List.any_eq_false, decide_eq_true_eq] at hok
  obtain ⟨⟨⟨h1, h2⟩, h3⟩, h4⟩ := hok
  have hd : 0 ≤ d ∧ d ≤ 8 := by omega
  have H63A := zz (show ∀ x ∈ a, x < 64 from fun x hx => by have := h3 x hx; omega)
  have H63B := zz (show ∀ x ∈ b, x < 64 from fun x hx => by have := h4 x hx; omega)
  have HOF := zz hof
  have HRA := zz ra
  have HRB := zz rb
  have HN := zz hN
  clear hof h1 h2 h3 h4 ra rb hN
  refine (callsIn_wide (n := 3)).1 ?_
  refine callsIn_of_wp_marks Tryz.func16 rfl trivial ?_ rfl
  simp only [Tryz.ntmps16, zM, zH, zI, Nat.reduceAdd, Nat.reduceSub, Array.replicate_succ, Array.replicate_zero, List.push_toArray, List.append_toArray, List.nil_append, List.cons_append]
  refine wpIn_wide.2 ?_
  go_upto_region 1 with fail
  refine named1 (F := fun W => Code.wp _ _ _ _ W) ?_
  intro w1 k3 hb1 hz1
  have r0a := (k3).cell 0; have r0b := (k3).cell 1; have r0c := (k3).cell 2; have r0d := (k3).cell 3; have r0e := (k3).frozen 0; have r0f := (k3).frozen 1; have r0g := (k3).frozen 2; have r0h := (k3).frozen 3; have r0l := (k3).lt; simp only [zA, zB, zC] at r0a r0b r0c r0d
  clear k3
  go_upto_region 2 with (first
    | (go_at_call 68; refine (HOF.out _ hb1).mono ?_; rintro e w2 ⟨rfl, hb2⟩; have HB2 := zz hb2; clear hb2))
  obtain ⟨w3, hw3⟩ : ∃ w3, w3 = (w2.alloc (.cells #[.int .u32 s, .int .i64 d, .slice A a.length c, .slice B b.length c'] 133)) := ⟨_, rfl⟩
  have hb13 : Below w.heap.size w w3 := by rw [hw3]; exact bAlloc (bTrans hb1 HB2.out) _
  have k8 : Blk w3 w2.heap.size 133 #[.int .u32 s, .int .i64 d, .slice A a.length c, .slice B b.length c'] := by rw [hw3]; exact Blk.new _ _ _
  rw [← hw3]
  clear hw3
  have K8 := zz k8
  have HB13 := zz hb13
  have h23 : w2.heap.size < w3.heap.size := k8.lt
  clear r0a r0b r0c r0d r0e r0f r0g r0h r0l k8 hb13 hb1 hz1 HB2 HOF
  go_upto_region 5 with fail
  refine named1 (F := fun W => Code.wp _ _ _ _ W) ?_
  intro w4 k10 hb4 hz4
  obtain ⟨b10, hb10⟩ : ∃ b10, w3.heap.size = b10 := ⟨_, rfl⟩
  rw [hb10] at k10 hz4 h23 ⊢
  have K10 := zz k10
  have K84 := zz (K8.out.on hb4)
  have HB4 := zz (bTrans HB13.out hb4)
  have hw10 : w.heap.size ≤ b10 := by rw [← hb10]; exact HB13.out.size
  have HZ4 := zz hz4
  have r8a := (K84.out).cell 0; have r8b := (K84.out).cell 1; have r8c := (K84.out).cell 2; have r8d := (K84.out).cell 3; have r8e := (K84.out).frozen 0; have r8f := (K84.out).frozen 1; have r8g := (K84.out).frozen 2; have r8h := (K84.out).frozen 3; have r8l := (K84.out).lt; simp only [zA, zB, zC] at r8a r8b r8c r8d
  clear k10 hb4 hz4 hb10 K8 HB13
  have HFR := zz (fun V => frames_any s d A B a.length c b.length c' V)
  go_wp2_with (first
    | (go_at_call 69; refine (HFR.out _).mono ?_; rintro e w6 ⟨rfl, kgm, hb6⟩; have KGM := zz kgm; have HB6 := zz hb6; clear kgm hb6))
  have h46 : b10 + 1 ≤ w6.heap.size := by have := HB6.out.size; have := HZ4.out; omega
  have h0 : w.heap.size ≤ w6.heap.size := by omega
  have hN2 : N ≤ 20000 := by have := HN.out; omega
  have hgm : w4.heap.size < w6.heap.size := KGM.out.lt
  have hz4 : b10 < w4.heap.size := by have := HZ4.out; omega
  refine (wpIn_wide (n := 3)).1 ?_
  have hlow : Below w.heap.size w w6 := bTrans HB4.out HB6.out
  refine wpIn_rangeFunc_st (by decide) (gf := 143) (lb := #[.pointer (some ⟨w4.heap.size, 0, none⟩)]) rfl (enters_of Tryz.func143 (by kernel_rfl) rfl)
    (frames_seq 2 (by decide) s d A B c c' a b N w.heap.size (fun k => k = b10) w6 w4.heap.size hs hd HN.out ha hb H63A.out H63B.out (HRA.out.below hlow (zL _)) (HRB.out.below hlow (zL _)) h0 KGM.out (fun r e => by subst e; exact ⟨hw10, by omega, by omega⟩)) (fun _ => rfl) (fun h k => KpT.trans h k) (fun W l o o' hl ho hc => KpT.put W l o o' hl ho hc)
    (fun m pre W => PI w.heap.size b10 w m pre W) (fun m pre A A' row h hg hr => h.keeps hg (B := w6.heap.size) ⟨h0, by omega⟩ h.below.size hr)
    (fun V hg => ?start) (fun r a' V => a' = { tmps := #[.agg #[.int .u32 s, .int .i64 d, .int .i64 x, .int .i64 y], .slice A a.length c, .slice B b.length c', .pointer (some ⟨w.heap.size, 0, none⟩), undef, undef, .slice none 0 0, .int .i64 0, .pointer (some ⟨w2.heap.size, 0, none⟩), .int .i64 0, .pointer (some ⟨b10, 0, none⟩), .slice r.A r.L.length r.c, .tuple #[.agg #[.int .u32 s, .int .i64 d, .slice A a.length c, .slice B b.length c'], .int .i64 0], .agg #[.int .u32 s, .int .i64 d, .int .i64 x, .int .i64 y], .slice A a.length c, .slice B b.length c', .tuple #[.agg #[.int .u32 s, .int .i64 d, .slice A a.length c, .slice B b.length c'], .int .i64 0], .agg #[.int .u32 s, .int .i64 d, .slice A a.length c, .slice B b.length c'], .int .i64 0, .int .i64 0, .bool false, undef, .agg #[.int .u32 s, .int .i64 d, .slice A a.length c, .slice B b.length c'], .func (.func 143) #[] #[.pointer (some ⟨w4.heap.size, 0, none⟩)], .slice r.A r.L.length r.c, .agg (stCells r.T).toArray, undef, undef, undef, undef, undef, undef, undef, undef], defers := [] }) (fun r a' V l o o' h _ _ _ => h)
    ?assign (fun m pre x A l o o' h hl ho hc => ⟨h.1.putObj ho hc, h.2⟩) ?body ?done
  case start =>
    have hbA : Below w6.heap.size w6 V := ⟨hg.os, hg.tape, hg.output, hg.size, fun k hk => hg.block k hk (by simp)⟩
    exact ⟨bTrans hlow hbA, ⟨none, 0, (K10.out.on HB6.out).on hbA, OwnL.nil⟩, fun r hr => by simp at hr, zL _, by have := hg.size; omega, by have := hg.size; omega⟩
  case assign =>
    rintro l m pre r W K hm hI hY hK
    unfold TrR.encs
    obtain ⟨CR, hCR⟩ : ∃ CR, (stCells r.T).toArray = CR := ⟨_, rfl⟩
    rw [hCR] at hK ⊢
    have HK := zz hK
    have HI := zz hI
    have HY := zz hY
    clear hK hI hY
    gi_wp2_with fail
    exact HK.out _ W ⟨zL _, fun k o _ hk _ => hk⟩ ⟨zL _, fun _ _ _ => rfl, fun _ _ _ h _ _ => h⟩ HI.out HY.out rfl
  case body =>
    rintro l m pre r a' W hm hI ⟨hO, hl22, hlt⟩ rfl
    obtain ⟨A1, c1, r1, r2⟩ := hI.row
    have hBW : w6.heap.size ≤ W.heap.size := Nat.le_trans hm hI.size
    obtain ⟨n1, hn1⟩ : ∃ n1, pre.length = n1 := ⟨_, rfl⟩
    obtain ⟨j, hj⟩ : ∃ j, r.L.length = j := ⟨_, rfl⟩
    rw [hn1] at r1 r2
    have c10 := r1.cell 0
    have f10 := r1.frozen 0
    have l10 := r1.lt
    simp only [zA, zB] at c10
    obtain ⟨CR, hCR⟩ : ∃ CR, (stCells r.T).toArray = CR := ⟨_, rfl⟩
    have R1 := zz r1
    have R2 := zz r2
    have HI := zz hI
    have HO := zz hO
    have HJ := zz hj
    have hln : pre.zipIdx.length = n1 := by rw [List.length_zipIdx, hn1]
    have HLN := zz hln
    have HLN2 := zz hn1
    have hpc : pgC (r, n1) = [.int .i64 (n1 : Nat), .slice r.A j r.c] := by unfold pgC; rw [hj]
    have HPC := zz hpc
    rw [hCR, hj]
    clear r1 r2 hI hO hj hln hpc
    gi_wp2_with (first
      | (refine wpListIn_goes rfl (by intro c h; cases h) rfl (goes_app_pg (.tmp 26) (.tmp 31) rfl m (.slice A1 n1 c1) pre.zipIdx [(r, n1)] (R2.out.alloc _) rfl (W.heap.size + 1) (some ⟨W.heap.size, 0, none⟩) 1 1 rfl rfl ?_ ?_ ?_) ?_
         · have := rd_new W #[.int .i64 (n1 : Nat), .slice r.A j r.c] 54 W.heap.size rfl (W.heap.size + 1) (by omega)
           simp only [List.flatMap_cons, List.flatMap_nil, List.append_nil]
           rw [HPC.out]
           exact this
         · rw [HLN.out, List.length_singleton]; omega
         · rw [World.size_alloc]; exact Nat.le_succ_of_le HI.out.size
         rintro v7 w7 ⟨ho7, hg7⟩
         obtain ⟨A7, c7, e7⟩ := ho7.shape
         rw [zG, HLN.out, List.length_singleton] at e7
         subst e7
         have hne : ∀ b, b < m → (Value.slice A1 n1 c1).ownBlock ≠ some b := fun b hb => R2.out.ne_low hb
         have k10 : Blk w7 b10 27 #[.slice A1 n1 c1] := (R1.out.alloc _).grown hg7 (hne _ HI.out.low.1)
         have q10 := k10.cell 0
         have p10 := k10.frozen 0
         have ql10 := k10.lt
         simp only [zA, zB] at q10
         have HO7 := zz ho7
         have HG7 := zz hg7
         have K10' := zz k10
         clear ho7 hg7 k10 hne))
    have hb10m := HI.out.low.1
    have hwm := HI.out.low.2
    have hlow7 : ∀ k, k < W.heap.size → (Value.slice A1 n1 c1).ownBlock ≠ some k → k ≠ b10 → (w7.setCell ⟨b10, 0, none⟩ (.slice A7 (n1 + 1) c7)).heap[k]? = W.heap[k]? := fun k hk h1 h2 =>
      (Below.heap_setCell w7 _ _ k h2).trans ((HG7.out.block k (by rw [World.size_alloc]; omega) (fun e => h1 e.symm)).trans (Below.heap_alloc W _ k hk))
    have hz7 : W.heap.size ≤ (w7.setCell ⟨b10, 0, none⟩ (.slice A7 (n1 + 1) c7)).heap.size := by
      have := HG7.out.size
      rw [World.size_alloc] at this
      simp only [World.size_setCell]; omega
    have hown : ∀ (E : TypeId) (A3 : Option Addr) (n3 c3 : Nat) (L3 : List Ev), E ≠ 54 → OwnL W m E 9 (.slice A3 n3 c3) Ev.cells L3 → OwnL (w7.setCell ⟨b10, 0, none⟩ (.slice A7 (n1 + 1) c7)) m E 9 (.slice A3 n3 c3) Ev.cells L3 := fun E A3 n3 c3 L3 hE h3 => by
      refine (OwnL.kept (h3.alloc _) HG7.out ?_).farG (OwnL.ne_low (OwnL.kept (h3.alloc _) HG7.out ?_) hb10m) 0 _
      all_goals
        cases hb : (Value.slice A1 n1 c1).ownBlock with
        | none => cases hb3 : (Value.slice A3 n3 c3).ownBlock with
          | none => exact .inl rfl
          | some q => exact .inr (by simp)
        | some q => exact .inr (OwnL.apart h3 R2.out hE hb)
    refine ⟨⟨hz7, fun k o hk ho hc => ?_⟩, ⟨hz7, fun k hk hx => ?_, fun k t cs hk ht hx => ?_⟩, ?_⟩
    · refine (hlow7 k (Array.getElem?_eq_some_iff.1 ho).1 (fun e => ?_) (fun e => by omega)).trans ho
      obtain ⟨-, cur, fz, q⟩ := R2.out.isRow e
      rw [q] at ho; cases ho; cases hc
    · exact hlow7 k (by omega) (R2.out.ne_low (by omega)) hx
    · refine (hlow7 k hk.lt (fun e => ?_) hx).trans hk
      obtain ⟨-, cur, fz, q⟩ := R2.out.isRow e
      have h' : W.heap[k]? = some (.cells cs t (0, 0)) := hk
      rw [h'] at q; cases q
      exact ht rfl
    · refine ⟨?_, ⟨A7, c7, ?_, ?_⟩, fun r' hr' => ?_, Nat.le_trans HI.out.size hz7, HI.out.low⟩
      · exact bSetG ((bAlloc HI.out.below _).grown HG7.out (by rw [World.size_alloc]; have := HI.out.below.size; omega) (fun k e => Nat.le_trans hwm (R2.out.base_le k e))) hw10 _ _
      · rw [zG, HLN2.out, List.length_singleton]
        exact K10'.out.set 0 _
      · rw [zG, HLN2.out, List.length_singleton, List.zipIdx_append, HLN2.out]
        refine OwnL.farG ?_ (HO7.out.ne_low hb10m) 0 _
        simpa using HO7.out
      · rcases List.mem_append.1 hr' with hr' | hr'
        · exact ⟨hown _ _ _ _ _ (by decide) (HI.out.evs r' hr').1, (HI.out.evs r' hr').2⟩
        · rw [List.mem_singleton.1 hr']
          refine ⟨?_, hl22⟩
          exact hown _ _ _ _ _ (by decide) HO.out
  case done =>
    rintro D m xs W hD hS hI hK
    obtain ⟨A1, c1, r1, r2⟩ := hI.row
    have hB := hI.below
    have hev := hI.evs
    obtain ⟨hm, hm0⟩ := hI.low
    obtain ⟨n1, hn1⟩ : ∃ n1, xs.length = n1 := ⟨_, rfl⟩
    rw [hn1] at r1 r2
    have l10 := r1.lt
    have c10 := r1.cell 0
    simp only [zA, zB] at c10
    have HEV := zz hev
    have HR2 := zz r2
    have HN1 := zz hn1
    have HS := zz hS
    have HBB := zz hB
    have HKK := zz hK
    clear hI r1 r2 hS hB hev hn1 hK
    go_wp2_with fail
    refine ⟨by simp, .inl ⟨_, _, rfl, run_takeDeferred HKK.out, ?_⟩⟩
    have hD9 : w.heap.size ≤ D := Nat.le_trans h0 hD
    refine ⟨.tuple #[.slice A1 n1 c1, .int .i64 0], ?_, ⟨A1, c1, xs, by rw [HN1.out], HS.out, ?_, fun r hr => ⟨(OwnL.putObj (HEV.out r hr).1 HKK.out rfl).more hm0, (HEV.out r hr).2⟩, ?_⟩⟩
    · simp [results, Tryz.results16, go_sem]
    · rw [HN1.out]
      exact (HR2.out.putObj HKK.out rfl).more hm0
    · exact HBB.out.grown (grownBy_putObj' W D (.deferred none)) HBB.out.size (fun k e => by cases e; exact hD9)
end
end Go.Proofs.YtibeihcpehikoaaGreat
