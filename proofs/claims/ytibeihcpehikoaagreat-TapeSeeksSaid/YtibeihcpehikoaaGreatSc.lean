/-
  The walks beneath: DkP, DkS.
-/
import Derived.Test.YtibeihcpehikoaaGreatNl8
import Derived.Test.YtibeihcpehikoaaGreatSb
namespace Go.Proofs.YtibeihcpehikoaaGreat
set_option maxRecDepth 100000
set_option maxHeartbeats 32000000
set_option linter.unusedSimpArgs false
section
open Go.RowKit Go.Shelf
structure PgR where
 k : Nat
 T : Nat → Int
 L : List Ev
 A : Option Addr
 c : Nat
def PgR.encs (r : PgR) : Array Value := #[.agg #[.int .i64 (r.k : Int), .slice r.A r.L.length r.c], .agg (stCells r.T).toArray]
def evP (inp : Nat → Nat × Nat) (S : Nat → Int) (F k : Nat) : List Ev := if k < F then (rdT inp S k).2 else []
def PgM (inp : Nat → Nat × Nat) (S : Nat → Int) (F f m : Nat) (pre : List PgR) (r : PgR) (A : World) : Prop :=
 OwnL A m 62 9 (.slice r.A r.L.length r.c) Ev.cells r.L ∧ r.L.length ≤ 22 ∧ r.k = f + pre.length ∧ r.k ≤ F ∧ r.T = stT inp S r.k ∧ r.L = evP inp S F r.k
structure KpG (B0 go : Nat) (A B : World) : Prop where
 size : A.heap.size ≤ B.heap.size
 low : ∀ r, r < B0 → r ≠ go → B.heap[r]? = A.heap[r]?
 blk : ∀ r t cs, Blk A r t cs → r ≠ go → (∀ n c, A.cell? ⟨go, 0, none⟩ ≠ some (.slice (some ⟨r, 0, none⟩) n c)) → Blk B r t cs
 ptr : ∀ r n c, B.cell? ⟨go, 0, none⟩ = some (.slice (some ⟨r, 0, none⟩) n c) → (∃ n' c', A.cell? ⟨go, 0, none⟩ = some (.slice (some ⟨r, 0, none⟩) n' c')) ∨ (A.heap.size ≤ r ∧ r < B.heap.size)
theorem KpG.trans {B0 go : Nat} {A B C : World} (h : KpG B0 go A B) (k : KpG B0 go B C) : KpG B0 go A C where
 size := Nat.le_trans h.size k.size
 low r hr hg := (k.low r hr hg).trans (h.low r hr hg)
 blk r t cs hb hg hn := k.blk r t cs (h.blk r t cs hb hg hn) hg (fun n c e => by
  rcases h.ptr r n c e with ⟨n', c', e'⟩ | ⟨h1, h2⟩
  ·exact hn n' c' e'
  ·have := hb.lt; omega)
 ptr r n c e := by
  rcases k.ptr r n c e with ⟨n', c', e'⟩ | ⟨h1, h2⟩
  ·rcases h.ptr r n' c' e' with h3 | ⟨h3, h4⟩
   ·exact .inl h3
   ·exact .inr ⟨h3, Nat.lt_of_lt_of_le h4 k.size⟩
  ·exact .inr ⟨Nat.le_trans h.size h1, h2⟩
theorem KpG.put {B0 go : Nat} (W : World) (l : Nat) (o o' : Obj) (hl : B0 ≤ l) (hgo : go < B0) (ho : W.heap[l]? = some o) (hc : o.isCells = false) : KpG B0 go W (W.putObj l o') where
 size := by simp
 low r hr _ := World.putObj_heap_other (by omega)
 blk r t cs hb _ _ := (World.putObj_heap_other (fun e => by subst e; have h : W.heap[r]? = some (.cells cs t (0, 0)) := hb; rw [ho] at h; cases h; cases hc)).trans hb
 ptr r n c e := .inl ⟨n, c, by rw [← cell_heap (World.putObj_heap_other (show go ≠ l by omega)) 0]; exact e⟩
theorem KpG.grown {B0 go : Nat} {A B : World} (h : Below A.heap.size A B) (hB : B0 ≤ A.heap.size) (hgo : go < B0) : KpG B0 go A B where
 size := h.size
 low r hr _ := h.block r (by omega)
 blk r t cs hb _ _ := hb.on h
 ptr r n c e := .inl ⟨n, c, by rw [← cell_heap (h.block go (by omega)) 0]; exact e⟩
theorem Blk.low {w W : World} {B0 g : Nat} {X : Nat → Prop} {t : TypeId} {cs : Array Value} (h : Blk w g t cs) (k : LowK B0 X w W) (hg : g < B0) (hx : ¬ X g) : Blk W g t cs := (k g hg hx).trans h
theorem div_mul_le' (f ev : Nat) : f / ev * ev ≤ f := Nat.div_mul_le_self f ev
theorem pages_any (g : Nat) (f : Int) (w : World) : Calls Tryz.prog 96 #[.pointer (some ⟨g, 0, none⟩), .int .i64 f] w fun e w' => e = .returned (.func (.func 166) #[] #[.pointer (some ⟨w.heap.size, 0, none⟩), .pointer (some ⟨w.heap.size + 1, 0, none⟩)]) ∧ Blk w' w.heap.size 79 #[.pointer (some ⟨g, 0, none⟩)] ∧ Blk w' (w.heap.size + 1) 3 #[.int .i64 f] ∧ w'.heap.size = w.heap.size + 2 ∧ Below w.heap.size w w' := by
 go_enter Tryz.func96, Tryz.ntmps96
 go_wp2
 go_ret
 refine ⟨rfl, (Blk.new _ _ _).alloc _, ?_, by simp, (by repeat (first | exact Below.refl _ _ | (with_reducible assumption) | apply bAlloc | apply below_drewN | apply Below.drew))⟩
 have := Blk.new (w.alloc (.cells #[.pointer (some ⟨g, 0, none⟩)] 79)) 3 #[.int .i64 f]
 rwa [World.size_alloc] at this
end
section
open Go.RowKit Go.Shelf
attribute [local go_sem] Oper.semAt_some
attribute [local irreducible] wpMixY
structure PgI (w W : World) (go gs k f : Nat) (T : Nat → Int) (J : Nat → List PgR → World → Prop) (m : Nat) (pre : List PgR) (V : World) : Prop where
 st : Blk V gs 41 (stCells T).toArray
 low : LowK w.heap.size (fun r => r = go) w V
 ptr : ∀ r n c, V.cell? ⟨go, 0, none⟩ = some (.slice (some ⟨r, 0, none⟩) n c) → r < V.heap.size ∧ r ≠ gs
 len : pre.length = k - f
 first : k ≤ f → W.grownBy V none
 next : f < k → J m pre V ∧ W.heap.size ≤ m ∧ gs < m ∧ m ≤ V.heap.size
theorem built_page (k : Nat) : Tryz.prog.built 54 [(0, .int .i64 (k : Int))] = some #[.int .i64 (k : Int), .slice none 0 0] := by kernel_rfl
theorem grown_own {A B C : World} {r : Nat} (h : A.grownBy B none) (k : B.grownBy C (some r)) (hr : A.heap.size ≤ r) : A.grownBy C none :=
 ⟨k.os.trans h.os, k.tape.trans h.tape, k.output.trans h.output, Nat.le_trans h.size k.size, fun j hj _ => (k.block j (Nat.lt_of_lt_of_le hj h.size) (fun e => by cases e; omega)).trans (h.block j hj (by simp))⟩
def leftR (F gs : Nat) (V : World) : Nat := F + 1 - (match V.cell? ⟨gs, 0, none⟩ with | some (.int _ z) => z.toNat | _ => 0)
theorem leftR_of {F gs k : Nat} {V : World} (h : V.cell? ⟨gs, 0, none⟩ = some (.int .i64 (k : Int))) : leftR F gs V = F + 1 - k := by
 unfold leftR
 rw [h]
 simp
theorem pages_stB (n : Nat) (hn : 1 ≤ n) (s d x mm : Int) (a b : List Nat) (na ev F f base g : Nat) (go b1 b2 : Nat) (w0 w : World) (hs : U32 s) (hd : 0 ≤ d ∧ d ≤ 8) (hF : (F : Int) = d + (min a.length b.length : Nat)) (hal : a.length = na) (hbl : b.length = na) (hna : na ≤ 1000) (hev : 1 ≤ ev ∧ ev ≤ 20000) (hf : f ≤ F)
  (h63a : ∀ x ∈ a, x < 64) (h63b : ∀ x ∈ b, x < 64) (hD : DkW w0 base g s d x mm a b na ev F (keptS (inpT d.toNat a b) (beginS s) ev (F + 1))) (h0 : Below w0.heap.size w0 w)
  (hgo : w0.heap.size ≤ go ∧ go < w.heap.size) (hne : b1 ≠ go ∧ b2 ≠ go) (k1 : Blk w b1 79 #[.pointer (some ⟨g, 0, none⟩)]) (k2 : Blk w b2 3 #[.int .i64 (f : Int)])
  (hp : ∀ r n c, w.cell? ⟨go, 0, none⟩ = some (.slice (some ⟨r, 0, none⟩) n c) → r < w.heap.size) :
  SeqStB n Tryz.prog 166 #[.pointer (some ⟨b1, 0, none⟩), .pointer (some ⟨b2, 0, none⟩)] PgR.encs (PgM (inpT d.toNat a b) (beginS s) F f) (KpG w.heap.size go) (fun xs => xs.length = F + 1 - f) (fun xs => 1 ≤ xs.length) w := by
 intro l J Js W hW hJ hJs hJ0 hY
 obtain ⟨A, B, K, cA, cB, nK, cK, hk, hoa, hob, hks⟩ := hD.blk
 have hwW := hW.size
 have hw0 := h0.size
 have hgl := hk.lt
 have hH := stT_ok (inp := inpT d.toNat a b) (begin_ok hs) rfl rfl
 have hlen := keptS_length (inpT d.toNat a b) (beginS s) ev (by omega) (F + 1)
 have hget := keptS_get (inpT d.toNat a b) (beginS s) ev (by omega) (F + 1) (f / ev) (Nat.lt_succ_of_le (Nat.le_trans (div_mul_le' f ev) hf))
 obtain ⟨ks, hkss⟩ : ∃ ks, keptS (inpT d.toNat a b) (beginS s) ev (F + 1) = ks := ⟨_, rfl⟩
 rw [hkss] at hks hlen hget
 have hjl : f / ev < ks.length := by
  rcases Nat.lt_or_ge (f / ev) ks.length with h | h
  ·exact h
  ·rw [List.getElem?_eq_none h] at hget; cases hget
 obtain ⟨gk, rfl, rfl, -, hgk⟩ := hks.formA (Nat.lt_of_le_of_lt (Nat.zero_le _) hjl)
 have hrow := hks.rd.at_ stCells_length (by decide) hjl
 obtain ⟨bk, off, hbo, hbk, hcells⟩ := hrow
 simp only [Option.some.injEq, Addr.mk.injEq, and_true] at hbo
 obtain ⟨rfl, rfl⟩ := hbo
 have hst0 : ks[f / ev] = stT (inpT d.toNat a b) (beginS s) (f / ev * ev) := by
  rw [List.getElem?_eq_getElem hjl] at hget; exact Option.some.inj hget
 rw [hst0] at hcells
 have hdiv : (f : Int) / (ev : Int) = ((f / ev : Nat) : Int) := by simp
 have hk0f := div_mul_le' f ev
 have hjf : f / ev ≤ f := Nat.div_le_self _ _
 have hb0W : Below w0.heap.size w0 W := bTrans h0 hW
 obtain ⟨j, hj⟩ : ∃ j, f / ev = j := ⟨_, rfl⟩
 obtain ⟨k0, hk0⟩ : ∃ k0, f / ev * ev = k0 := ⟨_, rfl⟩
 rw [hk0] at hcells hk0f
 rw [hj] at hjl hcells hdiv hjf
 have hF1 : F ≤ 1008 := by omega
 have hj1 : j ≤ 1008 := by omega
 have HH := zz hH
 have HRA := zz hoa.rd
 have HRB := zz hob.rd
 have HJ := zz hJ
 have HJs := zz hJs
 have HJ0 := zz hJ0
 have HY := zz hY
 have HDK := zz hk
 have HB0 := zz h0
 have HBW := zz hW
 have HK1 := zz k1
 have HK2 := zz k2
 have HPT := zz hp
 have H63A := zz h63a
 have H63B := zz h63b
 have HNE := zz hne
 have HFF := zz hF
 have HAL := zz hal
 have HBL := zz hbl
 -- the cells at the beginning
 have q1 := (k1.on hW).cell 0
 have q2 := (k2.on hW).cell 0
 have qk := hk.on hb0W
 have q7 := qk.cell 7
 have q9 := qk.cell 9
 simp only [zA, zB, zC] at q1 q2 q7 q9
 have l1 := (k1.on hW).lt
 have l2 := (k2.on hW).lt
 have lg := qk.lt
 have lk : gk < W.heap.size := Nat.lt_of_lt_of_le hgk hb0W.size
 have hrng : W.rangeAt gk (j * 60) (stCells (stT (inpT d.toNat a b) (beginS s) k0)) := fun i v hv => (hb0W.cell (p := ⟨gk, j * 60 + i, none⟩) hgk).trans (by have := hcells i v hv; rwa [Nat.zero_add] at this)
 have HRG := zz hrng
 have e1 : (0 : Int) ≤ (j : Int) := Int.natCast_nonneg _
 have e2 : (j : Int) < (ks.length : Int) := by omega
 have e3 : ((ev : Int) == 0) = false := by simp; omega
 obtain ⟨nk, hnk⟩ : ∃ nk, ks.length = nk := ⟨_, rfl⟩
 rw [hnk] at e2 q9 HDK
 clear hF hal hbl hJ hJ0 hJs hY hk hoa hob hks hH hlen hget hkss hcells hst0 hp h63a h63b hne hD h0 hW k1 k2 qk hrng hnk hjl hbk hj hk0 hb0W
 refine callsIn_of_wp Tryz.func166 rfl trivial ?_ rfl
 simp only [Tryz.ntmps166, zM, zH, zI, Nat.reduceAdd, Nat.reduceSub, Array.replicate_succ, Array.replicate_zero, List.push_toArray, List.append_toArray, List.nil_append, List.cons_append]
 refine wpIn_wide.2 ?_
 go_upto_region 0 with fail
 have hKp := Keeps.base W
 refine wp_region_mixedT [.held, .pure, .pure, .held, .held, .held, .pure, .pure, .held, .pure, .pure, .held, .make, .tail] (fun _ => newTold W 41 (stCells zeroT).toArray) (by kernel_rfl) (by kernel_rfl) ?_
 repeat (first | (refine mix_pure rfl rfl rfl (fun K hK => ?_); go_big_quiet_op; refine hK _ ?_; clear hK K) | (refine mix_held rfl rfl rfl (by assumption) (fun K hK => ?_); go_big_quiet_op; refine hK _ ?_; clear hK K))
 refine mix_load rfl rfl (by assumption) 41 (.tmp 17) rfl gk (j * 60) rfl (stCells (stT (inpT d.toNat a b) (beginS s) k0)) _ lk HRG.out Tryz.underlying41 rfl (by kernel_rfl) ?_
 simp only [Act.put, zD, zE, zF]
 refine mix_make rfl rfl (by assumption) newTold_st (newTold_makes rfl zero_state rfl) ?_
 rintro v ⟨g4, rfl⟩ hKp2
 simp only [Act.put, zD, zE, zF]
 refine mix_store rfl rfl 41 (.tmp 4) (.tmp 18) rfl g4 0 (stCells (stT (inpT d.toNat a b) (beginS s) k0)).toArray rfl rfl (fun V hV => ?_) (by kernel_rfl) (all_oneCell_toArray (int_one _)) ?_
 ·have := (hV.2 g4 rfl).2
  exact Blk.there this (by rw [zM, zM, stCells_length, stCells_length]; decide)
 simp only [Act.put, zD, zE, zF]
 refine mix_nil ?_
 rintro V' ⟨V, ⟨hgr, hR⟩, rfl⟩
 obtain ⟨hge4, hBg⟩ := hR g4 rfl
 have hgr : Grown W V := hgr
 have hs4 := hBg.whole (stCells (stT (inpT d.toNat a b) (beginS s) k0)) (by rw [zM, stCells_length, stCells_length])
 have hb4 : Below W.heap.size W (V.setCells g4 0 (stCells (stT (inpT d.toNat a b) (beginS s) k0))) := bSetCells hgr hge4 0 _
 obtain ⟨w4, hw4⟩ : ∃ w4, V.setCells g4 0 (stCells (stT (inpT d.toNat a b) (beginS s) k0)) = w4 := ⟨_, rfl⟩
 rw [hw4] at hs4 hb4
 first | rw [hw4] | (show Exit.then _ _ _ _ (V.setCells g4 0 (stCells (stT (inpT d.toNat a b) (beginS s) k0))); rw [hw4])
 have hgol : go < W.heap.size := Nat.lt_of_lt_of_le hgo.2 hwW
 have HI4 : Hid (PgI w W go g4 k0 f (stT (inpT d.toNat a b) (beginS s) k0) J 0 [] w4) := zz
  {st := hs4
   low := fun r hr hx => (hb4.block r (by omega)).trans (HBW.out.block r hr)
   ptr := fun r n c e => by
    have e' : w.cell? ⟨go, 0, none⟩ = some (.slice (some ⟨r, 0, none⟩) n c) := by
     rw [← e]
     exact (cell_heap ((hb4.block go hgol).trans (HBW.out.block go hgo.2)) 0).symm
    have := HPT.out r n c e'
    have := hb4.size
    exact ⟨by omega, by omega⟩
   len := by simp; omega
   first := fun _ => grown_of hb4
   next := fun h => by omega }
 have hge : W.heap.size ≤ g4 := hge4
 clear hw4 hs4 hb4 hgr hR hBg hKp hKp2 q1 q2 q7 q9 l1 l2 lg lk e1 e2 e3 hdiv hge4 HRG
 go_wp2_with fail
 go_loopw [] (fun wr => ∃ (k m : Nat) (pre : List PgR), k ≤ F ∧ k0 ≤ k ∧ Hid (PgI w W go g4 k f (stT (inpT d.toNat a b) (beginS s) k) J m pre wr)) (fun wr => leftR F g4 wr)
 case atStart => exact ⟨k0, 0, [], by omega, zL _, HI4⟩
 case round =>
 clear HI4
 obtain ⟨k, m, pre, hkF, hk0, HI⟩ := hrel
 obtain ⟨hok, hT0, hT2, hT3⟩ := HH.out k (by omega)
 have hst := HI.out.st
 have hlo := HI.out.low
 have kd := (HDK.out.on HB0.out).low hlo (Nat.lt_of_lt_of_le HDK.out.lt HB0.out.size) (by have := HDK.out.lt; omega)
 have kb := HK1.out.low hlo HK1.out.lt HNE.out.1
 have kf := HK2.out.low hlo HK2.out.lt HNE.out.2
 have hgs := hst.lt
 have HS := zz hst
 have HKD := zz kd
 have HKB := zz kb
 have HKF := zz kf
 have c0 := hst.cell 0
 have d8 := kd.cell 8
 have p1 := kb.cell 0
 rw [show (stCells (stT (inpT d.toNat a b) (beginS s) k)).toArray[0]? = some (.int .i64 (stT (inpT d.toNat a b) (beginS s) k 0)) from rfl, hT0] at c0
 simp only [zA, zB, zC] at d8 p1
 have ld := kd.lt
 have lb := kb.lt
 have hkFz : decide ((k : Int) ≤ (F : Int)) = true := decide_eq_true (by omega)
 obtain ⟨T, hT⟩ : ∃ T, stT (inpT d.toNat a b) (beginS s) k = T := ⟨_, rfl⟩
 have HT := zz hT
 rw [hT] at hok hT0 hT2 hT3 HS HI
 have HLR : Hid (leftR F g4 wr = F + 1 - k) := zz (leftR_of c0)
 clear hst hlo kd kb kf hT
 go_upto_region 1 with fail
 refine wp_region_mild (by kernel_rfl) (by kernel_rfl) ?_
 repeat (go_big_quiet_step (fail))
 refine wpQuiet_nil ?_
 intro w1 hw'
 obtain ⟨⟨wq, g1⟩, hw''⟩ := hw'
 subst hw''
 have hwr1 := g1.size
 have HS1 := zz (HS.out.on g1)
 have HB1 := zz g1
 have c0b : w1.cell? ⟨g4, 0, none⟩ = some (.int .i64 (k : Int)) := (g1.cell (p := ⟨g4, 0, none⟩) hgs).trans c0
 have hgs1 := HS1.out.lt
 have hbt := built_page k
 have HBT := zz hbt
 clear hbt c0 d8 p1 g1
 go_upto_region 3 with (first | (refine wpList_built rfl 54 [(0, .tmp 27)] rfl #[.int .i64 (k : Int), .slice none 0 0] [(0, .int .i64 (k : Int))] ?_ HBT.out ?_; (case' hv => rfl)))
 refine named1 (F := fun W => Code.wp _ _ _ _ W) ?_
 intro w5 kp hb5 hz5
 have HP5 := zz kp
 have HS5 := zz (HS1.out.on hb5)
 have HB5 := zz (bTrans HB1.out hb5)
 have hgp : wr.heap.size ≤ w1.heap.size := hwr1
 obtain ⟨gp, hgpe⟩ : ∃ gp, w1.heap.size = gp := ⟨_, rfl⟩
 rw [hgpe] at HP5 hgp hgs1 ⊢
 have hgs5 := HS5.out.lt
 obtain ⟨CL, hCL⟩ : ∃ CL, stCells T = CL := ⟨_, rfl⟩
 have hlenC : CL.length = 60 := by rw [← hCL, stCells_length]
 have HCL := zz hCL
 have HLC := zz hlenC
 have HON : Hid (CL.toArray.all (·.oneCell') = true) := zz (by rw [← hCL]; exact all_oneCell_toArray (int_one _))
 have HSZ : Hid ((Tryz.prog.info? 41).map (·.size) = some CL.length) := zz (by rw [hlenC]; kernel_rfl)
 rw [hCL] at HS5
 have hgp5 := HP5.out.lt
 clear c0b kp hb5 hz5 hgpe HBT hCL hlenC
 go_upto_region 4 with (first
  | (refine wpList_load_mid rfl 41 (.tmp 4) rfl g4 0 rfl CL _ (Blk.range HS5.out) Tryz.underlying41 rfl HSZ.out ?_)
  | (refine wpList_store_mid rfl 41 (.tmp 6) (.tmp 29) rfl w5.heap.size 0 CL.toArray rfl rfl (there_new _ _ _ (by rw [show CL.toArray.size = 60 from by rw [zM, HLC.out]]; rfl)) (by rw [zM]; exact HSZ.out) HON.out ?_))
 refine named_put (F := fun W => Code.wp _ _ _ _ W) (by rw [zK, show CL.toArray.size = 60 from by rw [zM, HLC.out]]; rfl) ?_
 intro w6 kn hb6 hz6
 rw [zJ] at kn
 have hb56 := bTrans HB5.out hb6
 have HN6 := zz kn
 have HP6 := zz (HP5.out.on hb6)
 have HS6 := zz (HS5.out.on hb6)
 have HB6 := zz hb56
 have hgn : gp < w5.heap.size := hgp5
 obtain ⟨gn, hgne⟩ : ∃ gn, w5.heap.size = gn := ⟨_, rfl⟩
 rw [hgne] at HN6 hgn ⊢
 have c0 := st_cell (S := T) (show Blk w6 g4 41 (stCells T).toArray by rw [HCL.out]; exact HS6.out) 0 (by decide)
 have hT00 : T 0 = (k : Int) := hT0
 rw [hT00] at c0
 have d8 := (HKD.out.on hb56).cell 8
 have p1 := (HKB.out.on hb56).cell 0
 simp only [zA, zB, zC] at d8 p1
 have hg46 := HS6.out.lt
 have hld6 := (HKD.out.on hb56).lt
 have hlb6 := (HKB.out.on hb56).lt
 rw [show kdS 0 = .i64 from rfl] at c0
 clear kn hb6 hz6 hb56 hgne hgp5 HB5 HS5 HP5 HS1 HB1 hgs1 hgs5 hT00
 go_upto_region 4 with fail
 simp only [Act.put, zD, zE, zF]
 refine wp_region_mild (by kernel_rfl) (by kernel_rfl) ?_
 repeat (go_big_quiet_step (fail))
 refine wpQuiet_nil ?_
 intro w7 hw'
 obtain ⟨⟨wq, g7⟩, hw''⟩ := hw'
 subst hw''
 have HN7 := zz (HN6.out.on g7)
 have HP7 := zz (HP6.out.on g7)
 have HS7 := zz (HS6.out.on g7)
 have HB7 := zz (bTrans HB6.out g7)
 clear g7 HN6 HP6 HS6 HB6 c0 d8 p1 hg46 hld6 hlb6
 go_upto_if 36 with fail
 go_cut [] (fun wx => ∃ (TN : Nat → Int) (L : List Ev) (AN : Option Addr) (cN : Nat), Hid (Blk wx gn 41 (stCells TN).toArray) ∧ Hid (Blk wx gp 54 #[.int .i64 (k : Int), .slice AN L.length cN]) ∧ Hid (Blk wx g4 41 CL.toArray) ∧ Hid (OwnL wx wr.heap.size 62 9 (.slice AN L.length cN) Ev.cells L) ∧ Hid (Below wr.heap.size wr wx) ∧ Hid (L.length ≤ 22 ∧ L = evP (inpT d.toNat a b) (beginS s) F k ∧ (k < F → TN = stT (inpT d.toNat a b) (beginS s) (k + 1))))
 case first =>
  by_cases hlt : k < F
  ·have hsucc : stT (inpT d.toNat a b) (beginS s) (k + 1) = (rdT (inpT d.toNat a b) (beginS s) k).1 := rfl
   have hevp : evP (inpT d.toNat a b) (beginS s) F k = (rdT (inpT d.toNat a b) (beginS s) k).2 := if_pos hlt
   have hrd : rdT (inpT d.toNat a b) (beginS s) k = stepS (inpT d.toNat a b k).1 (inpT d.toNat a b k).2 (stT (inpT d.toNat a b) (beginS s) k) := rfl
   obtain ⟨hx64, hy64⟩ := inpT_lt (d := d.toNat) H63A.out H63B.out k
   have hw0l : w0.heap.size ≤ w.heap.size := HB0.out.size
   have hlo := HI.out.low
   have hin := fun (V : World) (hV : Below w7.heap.size w7 V) => tinp_any (s := s) (d := d) (x := x) (y := 0) (m := mm) (A := A) (B := B) (c := cA) (c' := cB) (a := a) (b := b) (k := k) (w := V) hd (by have := HFF.out; omega) (by have := HAL.out; omega)
    ((((HRA.out.below HB0.out (zL _)).low (fun r e => by omega) hw0l hlo).below (bTrans HB7.out hV) (by have := hlo; have := HI.out.st.lt; omega)).more (by have := (bTrans HB7.out hV).size; omega))
    ((((HRB.out.below HB0.out (zL _)).low (fun r e => by omega) hw0l hlo).below (bTrans HB7.out hV) (by have := HI.out.st.lt; omega)).more (by have := (bTrans HB7.out hV).size; omega))
   rw [HAL.out, HBL.out] at hin
   obtain ⟨x1, hx1⟩ : ∃ x1, (inpT d.toNat a b k).1 = x1 := ⟨_, rfl⟩
   obtain ⟨y1, hy1⟩ : ∃ y1, (inpT d.toNat a b k).2 = y1 := ⟨_, rfl⟩
   rw [hx1] at hx64 hrd hin
   rw [hy1] at hy64 hrd hin
   rw [HT.out] at hrd
   obtain ⟨T', L', hTL⟩ : ∃ T' L', stepS x1 y1 T = (T', L') := ⟨_, _, rfl⟩
   rw [hTL] at hrd
   rw [hrd] at hsucc hevp
   have hl22 : L'.length ≤ 22 := by
    have := (stepS_ok x1 y1 hok (by omega) (by omega)).2.1
    rw [hTL] at this; exact this
   have HIN := zz hin
   have HST := zz (fun V (hV : Grown w7 V) => stTold_of (w := w7) hV hok (by omega) hx64 hy64 hTL)
   have HRES : Hid (L'.length ≤ 22 ∧ L' = evP (inpT d.toNat a b) (beginS s) F k ∧ (k < F → T' = stT (inpT d.toNat a b) (beginS s) (k + 1))) := zz ⟨hl22, hevp.symm, fun _ => hsucc.symm⟩
   have hlt7 := HS7.out.lt
   have hs7 := HB7.out.size
   have kd7 := HKD.out.on HB7.out
   have hlg7 := kd7.lt
   have hrt : w7.rangeAt g 0 [.int .u32 s, .int .i64 d, .int .i64 x, .int .i64 0, .slice A na cA, .slice B na cB, .int .u32 mm] := fun i v hv => by
    have hi : i < 7 := by have := (List.getElem?_eq_some_iff.1 hv).1; simpa using this
    rw [Nat.zero_add, kd7.cell i, ← hv]
    have : i = 0 ∨ i = 1 ∨ i = 2 ∨ i = 3 ∨ i = 4 ∨ i = 5 ∨ i = 6 := by omega
    rcases this with rfl | rfl | rfl | rfl | rfl | rfl | rfl <;> rfl
   have HRT := zz hrt
   have p1 := (HKB.out.on HB7.out).cell 0
   have c0 := st_cell (S := T) (show Blk w7 g4 41 (stCells T).toArray by rw [HCL.out]; exact HS7.out) 0 (by decide)
   rw [show T 0 = (k : Int) from hT0, show kdS 0 = .i64 from rfl] at c0
   simp only [zA, zB, zC] at p1
   have hlb7 := (HKB.out.on HB7.out).lt
   have HLE : Hid ((stCells T').length = 60) := zz (stCells_length T')
   have HO1 : Hid ((stCells T').toArray.all (·.oneCell') = true) := zz (all_oneCell_toArray (int_one T'))
   clear hsucc hevp hrd hx64 hy64 hlo hin hx1 hy1 hTL hl22 kd7 hrt hT0 hT2 hT3 hok
   go_upto_region 5 with fail
   refine wp_region_mixedY [.held, .held, .pure, .pure, .held, .pure, .held, .make, .make, .pure, .pure, .pure, .pure, .tail, .pure, .tail] (fun | 7 => valF (.agg #[.int .u8 (x1 : Int), .int .u8 (y1 : Int)]) | _ => stTold w7 T' L') (by kernel_rfl) (by kernel_rfl) ?_
   refine mixY_load rfl rfl 41 (.tmp 4) rfl g4 0 rfl CL _ hlt7 (Blk.range HS7.out) Tryz.underlying41 rfl HSZ.out ?_
   simp only [Act.put, zD, zE, zF]
   repeat (first | (refine mixY_pure rfl rfl rfl (fun K hK => ?_); go_big_quiet_op; refine hK _ ?_; clear hK K) | (refine mixY_held rfl rfl rfl (fun K hK => ?_); go_big_quiet_op; refine hK _ ?_; clear hK K))
   refine mixY_load rfl rfl 76 (.tmp 41) rfl g 0 rfl [.int .u32 s, .int .i64 d, .int .i64 x, .int .i64 0, .slice A na cA, .slice B na cB, .int .u32 mm] _ hlg7 HRT.out Tryz.underlying76 rfl (by kernel_rfl) ?_
   simp only [Act.put, zD, zE, zF]
   repeat (first | (refine mixY_pure rfl rfl rfl (fun K hK => ?_); go_big_quiet_op; refine hK _ ?_; clear hK K) | (refine mixY_held rfl rfl rfl (fun K hK => ?_); go_big_quiet_op; refine hK _ ?_; clear hK K))
   refine mixY_make rfl rfl valF_st (fun V hV _ => ?_) ?_
   ·have HS2 := zz (valF_of (HIN.out V hV))
    go_simp
    with_reducible exact HS2.out
   rintro _ rfl
   simp only [Act.put, zD, zE, zF]
   refine mixY_make rfl rfl stTold_st (fun V hV _ => ?_) ?_
   ·have HS2 := zz (HST.out V hV)
    rw [HCL.out] at HS2
    go_simp
    with_reducible exact HS2.out
   rintro v ⟨AN, cN, rfl⟩
   simp only [Act.put, zD, zE, zF]
   repeat (refine mixY_pure rfl rfl rfl (fun K hK => ?_); go_big_quiet_op; refine hK _ ?_; clear hK K)
   refine mixY_write rfl rfl (fun v W' => ∃ W1, Grown w7 W1 ∧ OwnL W1 w7.heap.size 62 9 (.slice AN L'.length cN) Ev.cells L' ∧ v = undef ∧ W' = W1.setCells gn 0 (stCells T').toArray.toList) (fun W1 hW1 => goes_mono (goes_storeN 41 (.tmp 6) (.tmp 47) rfl gn 0 (stCells T').toArray rfl rfl (Blk.there (HN7.out.on hW1.1) (by rw [zM, zM, HLE.out, HLC.out]; decide)) (by rw [zM, HLE.out]; kernel_rfl) HO1.out) (fun v W' h => ⟨W1, hW1.1, (hW1.2 8).2 rfl AN cN rfl, h⟩)) ?_
   rintro v W2 ⟨W1, hg1, ho1, rfl, rfl⟩
   have hs1 := Below.size hg1
   have hgn7 := HN7.out.lt
   have hgp7 := HP7.out.lt
   have k2n : Blk (W1.setCells gn 0 (stCells T').toArray.toList) gn 41 (stCells T').toArray := by
    show Blk (W1.setCells gn 0 (stCells T')) gn 41 (stCells T').toArray
    exact (HN7.out.on hg1).whole (stCells T') (by rw [HLE.out, zM, HLC.out])
   have k2p : Blk (W1.setCells gn 0 (stCells T').toArray.toList) gp 54 #[.int .i64 (k : Int), .slice none 0 0] := (HP7.out.on hg1).farC (by omega) 0 _
   have k2s : Blk (W1.setCells gn 0 (stCells T').toArray.toList) g4 41 CL.toArray := (HS7.out.on hg1).farC (by omega) 0 _
   have k2o : OwnL (W1.setCells gn 0 (stCells T').toArray.toList) w7.heap.size 62 9 (.slice AN L'.length cN) Ev.cells L' := ho1.farC (b := gn) ((HN7.out.on hg1).apart ho1 (by decide)) 0 _
   have k2b : Below wr.heap.size wr (W1.setCells gn 0 (stCells T').toArray.toList) := bSetCells (bTrans HB7.out hg1) (by omega) 0 _
   obtain ⟨W2, hW2⟩ : ∃ W2, W1.setCells gn 0 (stCells T').toArray.toList = W2 := ⟨_, rfl⟩
   rw [hW2] at k2n k2p k2s k2o k2b ⊢
   have K2N := zz k2n
   have K2P := zz k2p
   have K2S := zz k2s
   have K2O := zz k2o
   have K2B := zz k2b
   clear hW2 hg1 ho1 k2n k2p k2s k2o k2b hs1
   simp only [Act.put, zD, zE, zF]
   repeat (refine mixY_pure rfl rfl rfl (fun K hK => ?_); go_big_quiet_op; refine hK _ ?_; clear hK K)
   refine mixY_write rfl rfl (fun v W' => ∃ W1, Grown W2 W1 ∧ v = undef ∧ W' = W1.setCell ⟨gp, 1, none⟩ (.slice AN L'.length cN)) (fun W1 hW1 => goes_mono (goes_store1 52 (.tmp 50) (.tmp 48) rfl gp 1 (.slice AN L'.length cN) rfl rfl (Blk.there (K2P.out.on hW1.1) (by simp)) (by kernel_rfl) rfl rfl) (fun v W' h => ⟨W1, hW1.1, h⟩)) ?_
   rintro v W3 ⟨W1, hg1, rfl, rfl⟩
   simp only [Act.put, zD, zE, zF]
   refine mixY_nil ?_
   intro W4 hW4
   have hg4' := hW4.1
   go_wp2_with fail
   go_meet
   refine ⟨T', L', AN, cN, zz ?_, zz ?_, zz ?_, zz ?_, zz ?_, HRES⟩
   ·exact ((K2N.out.on hg1).farG (show gn ≠ gp by omega) 1 _).on hg4'
   ·exact ((K2P.out.on hg1).set 1 (.slice AN L'.length cN)).on hg4'
   ·exact ((K2S.out.on hg1).farG (show g4 ≠ gp by omega) 1 _).on hg4'
   ·exact (((K2O.out.below hg1).farG ((K2P.out.on hg1).apart (K2O.out.below hg1) (by decide)) 1 _).below hg4').more hs7
   ·exact bTrans (bSetG (bTrans K2B.out hg1) (by omega) 1 _) hg4'
  ·obtain rfl : k = F := by omega
   have HRES : Hid (([] : List Ev).length ≤ 22 ∧ [] = evP (inpT d.toNat a b) (beginS s) k k ∧ (k < k → T = stT (inpT d.toNat a b) (beginS s) (k + 1))) := zz ⟨by decide, (if_neg hlt).symm, fun h => absurd h hlt⟩
   go_wp2_with fail
   go_meet
   exact ⟨T, [], none, 0, by rw [HCL.out]; exact HN7, HP7, HS7, zz OwnL.nil, HB7, HRES⟩
 case rest =>
  obtain ⟨TN, L, AN, cN, HN8, HP8, HS8, HO8, HB8, HX8⟩ := hcut
  clear HN7 HP7 HS7 HB7
  have hs8 := HB8.out.size
  have kb8 := HKB.out.on HB8.out
  have kf8 := HKF.out.on HB8.out
  have kd8 := HKD.out.on HB8.out
  have p1 := kb8.cell 0
  have f0 := kf8.cell 0
  have d8 := kd8.cell 8
  have r0 := HP8.out.cell 0
  simp only [zA, zB, zC] at p1 f0 d8 r0
  have lb := kb8.lt
  have lf := kf8.lt
  have ld := kd8.lt
  have lp := HP8.out.lt
  have ls := HS8.out.lt
  have ln := HN8.out.lt
  by_cases hfk : f ≤ k
  ·as_aux_lemma =>
   have g1 : decide ((f : Int) ≤ (k : Int)) = true := decide_eq_true (by omega)
   obtain ⟨m', pre', hJm, hWm, hgm, hmr, hpl⟩ : ∃ m' pre', J m' pre' wr ∧ W.heap.size ≤ m' ∧ g4 < m' ∧ m' ≤ wr.heap.size ∧ pre'.length = k - f := by
    rcases Nat.lt_or_ge f k with h | h
    ·obtain ⟨q1, q2, q3, q4⟩ := HI.out.next h
     exact ⟨m, pre, q1, q2, q3, q4, HI.out.len⟩
    ·refine ⟨wr.heap.size, [], HJ0.out wr (HI.out.first h), ?_, hgs, zL _, by simp; omega⟩
     have := HI.out.first h
     exact this.size
   have HJM := zz hJm
   have HPL := zz hpl
   clear hJm hpl
   go_upto_region 6 with fail
   refine (wpIn_wide (n := n)).1 ?_
   refine wp_region_cutK 8 [.pure, .held, .held, .pure, .pure, .pure, .held, .held] [.pure, .pure, .pure, .pure, .pure, .pure, .pure, .pure, .tail, .pure, .pure, .pure, .pure, .held, .held, .pure, .pure, .held, .pure, .pure] (fun _ => ⟨fun _ => True, fun _ _ => True⟩) (fun _ => ⟨fun _ => True, fun _ _ => True⟩) (.inl rfl) (by kernel_rfl) (by kernel_rfl) (by kernel_rfl) (by kernel_rfl) (fun h => ?hno) ?h
   case hno =>
    obtain ⟨_, _, e⟩ := h
    have e2 : (∃ v, Ending.outgrown = Ending.returned v) ∧ _ := e
    obtain ⟨⟨v, hv⟩, -⟩ := e2
    cases hv
   case h =>
    intro R hRR
    have HRR := zz hRR
    clear hRR
    simp only [List.take_succ_cons, List.take_zero]
    repeat (first | (refine mixY_pure rfl rfl rfl (fun K hK => ?_); go_big_quiet_op; refine hK _ ?_; clear hK K) | (refine mixY_held rfl rfl rfl (fun K hK => ?_); go_big_quiet_op; refine hK _ ?_; clear hK K))
    refine mixY_load rfl rfl 54 (.tmp 5) rfl gp 0 rfl [.int .i64 (k : Int), .slice AN L.length cN] _ lp (Blk.range HP8.out) Tryz.underlying54 rfl (by kernel_rfl) ?_
    simp only [Act.put, zD, zE, zF]
    refine mixY_load rfl rfl 41 (.tmp 4) rfl g4 0 rfl CL _ ls (Blk.range HS8.out) Tryz.underlying41 rfl HSZ.out ?_
    simp only [Act.put, zD, zE, zF]
    refine mixY_nil ?_
    intro V hV
    have hgV := hV.1
    have HS9 := zz (HS8.out.on hgV)
    have HP9 := zz (HP8.out.on hgV)
    have HN9 := zz (HN8.out.on hgV)
    have HB9 := zz (bTrans HB8.out hgV)
    have HO9 := zz (HO8.out.below hgV)
    have HJ9 := zz (HJ.out m' pre' wr V none HJM.out (grown_of HB9.out) (fun r e => by cases e))
    obtain ⟨z1, z2, z3⟩ := HX8.out
    obtain ⟨fn, tmps, assign, body, hy, hR⟩ := HY.out m' pre' ⟨k, T, L, AN, cN⟩ V hWm HJ9.out ⟨HO9.out.more hmr, z1, by show k = f + pre'.length; have := HPL.out; omega, hkF, HT.out.symm, z2⟩
    have hy' : (Instr.yield l #[.agg #[.int .i64 (k : Int), .slice AN L.length cN], .agg CL.toArray]).run Tryz.prog V = .ok (.round l fn tmps assign body) V := by rw [← HCL.out]; exact hy
    refine HRR.out _ _ ?_
    refine opIn_yieldB (l := l) (fn := fn) (tms := tmps) (assign := assign) (body := body) rfl rfl (by intro c h; cases h) rfl (runs_yield (.tmp 56) [.tmp 57, .tmp 58] rfl rfl rfl rfl hy') (fun _ => hn) hR ?_ ?_
    ·rintro V2 ⟨hJ2, hK2⟩
     simp only [List.getElem_toArray, List.getElem_cons_succ, List.getElem_cons_zero, Act.put, zD, zE, zF]
     simp only [List.drop_succ_cons, List.drop_zero]
     have hb9 := HB9.out.size
     have hpt : ∀ r, wr.heap.size ≤ r → ∀ n c, V.cell? ⟨go, 0, none⟩ ≠ some (.slice (some ⟨r, 0, none⟩) n c) := fun r hr n c e => by
      have e' : wr.cell? ⟨go, 0, none⟩ = some (.slice (some ⟨r, 0, none⟩) n c) := by rw [← e]; exact (cell_heap (HB9.out.block go (by have := HS.out.lt; omega)) 0).symm
      have := (HI.out.ptr r n c e').1
      omega
     have hps : ∀ n c, V.cell? ⟨go, 0, none⟩ ≠ some (.slice (some ⟨g4, 0, none⟩) n c) := fun n c e => by
      have e' : wr.cell? ⟨go, 0, none⟩ = some (.slice (some ⟨g4, 0, none⟩) n c) := by rw [← e]; exact (cell_heap (HB9.out.block go (by have := HS.out.lt; omega)) 0).symm
      exact (HI.out.ptr g4 n c e').2 rfl
     have kp2 := hK2.blk gp _ _ HP9.out (by omega) (hpt gp (by omega))
     have kn2 := hK2.blk gn _ _ HN9.out (by omega) (hpt gn (by omega))
     have ks2 := hK2.blk g4 _ _ HS9.out (by omega) hps
     have hlw : LowK w.heap.size (fun r => r = go) w V2 := fun r hr hx => (hK2.low r hr hx).trans (((HI.out.low.below HB9.out (by omega)) r hr hx))
     have kb2 := HK1.out.low hlw HK1.out.lt HNE.out.1
     have kd2 := (HDK.out.on HB0.out).low hlw (Nat.lt_of_lt_of_le HDK.out.lt HB0.out.size) (by have := HDK.out.lt; omega)
     have hptr : ∀ r n c, V2.cell? ⟨go, 0, none⟩ = some (.slice (some ⟨r, 0, none⟩) n c) → r < V2.heap.size ∧ r ≠ g4 := fun r n c e => by
      have hz2 := hK2.size
      rcases hK2.ptr r n c e with ⟨n', c', e'⟩ | ⟨h1, h2⟩
      ·refine ⟨?_, fun e2 => hps n' c' (by rw [← e2]; exact e')⟩
       rcases Nat.lt_or_ge r wr.heap.size with h | h
       ·omega
       ·exact absurd e' (hpt r h n' c')
      ·exact ⟨h2, by omega⟩
     have HJ2 := zz hJ2
     have HKP2 := zz kp2
     have HKN2 := zz kn2
     have HKS2 := zz ks2
     have HLW2 := zz hlw
     have HPT2 := zz hptr
     have hz2 := hK2.size
     have p1 := kb2.cell 0
     have d8 := kd2.cell 8
     have r0 := kp2.cell 0
     simp only [zA, zB, zC] at p1 d8 r0
     have lb := kb2.lt
     have ld := kd2.lt
     have lp := kp2.lt
     have ln := kn2.lt
     have ls := ks2.lt
     by_cases hkF2 : k = F
     ·have g2 : ((k : Int) == (F : Int)) = true := by simp [hkF2]
      clear hpt hps kp2 kn2 ks2 hlw kb2 kd2 hptr hJ2 hK2
      repeat (first | (refine mixY_pure rfl rfl rfl (fun K hK => ?_); go_big_quiet_op; refine hK _ ?_; clear hK K) | (refine mixY_held rfl rfl rfl (fun K hK => ?_); go_big_quiet_op; refine hK _ ?_; clear hK K))
      refine mixY_nil ?_
      intro V3 hV3
      have HV3 := zz hV3.1
      clear hV3
      have HJ3 := zz (HJ.out m' _ V2 V3 none HJ2.out (grown_of HV3.out) (fun r e => by cases e))
      go_wp2_with fail
      refine bodyPost_ret (results_none rfl _ _ _) rfl ?_
      exact ⟨⟨_, rfl⟩, m', _, hWm, .inl ⟨by rw [zG, HPL.out, List.length_singleton]; omega, HJ3.out⟩⟩
     ·have g2 : ((k : Int) == (F : Int)) = false := by simp; omega
      clear hpt hps kp2 kn2 ks2 hlw kb2 kd2 hptr hJ2 hK2
      repeat (first | (refine mixY_pure rfl rfl rfl (fun K hK => ?_); go_big_quiet_op; refine hK _ ?_; clear hK K) | (refine mixY_held rfl rfl rfl (fun K hK => ?_); go_big_quiet_op; refine hK _ ?_; clear hK K))
      refine mixY_nil ?_
      intro V3 hV3
      have HV3 := zz hV3.1
      clear hV3
      have HN3 := zz (HKN2.out.on HV3.out)
      have HS3 := zz (HKS2.out.on HV3.out)
      have HL3 : Hid (LowK w.heap.size (fun r => r = go) w V3) := zz (HLW2.out.below HV3.out (by omega))
      have HJ3 := zz (HJ.out m' _ V2 V3 none HJ2.out (grown_of HV3.out) (fun r e => by cases e))
      have hz3 := HV3.out.size
      have z3 := HX8.out.2.2 (by omega)
      obtain ⟨CN, hCN⟩ : ∃ CN, stCells TN = CN := ⟨_, rfl⟩
      have hlenN : CN.length = 60 := by rw [← hCN, stCells_length]
      have HLN := zz hlenN
      have HON2 : Hid (CN.toArray.all (·.oneCell') = true) := zz (by rw [← hCN]; exact all_oneCell_toArray (int_one _))
      have HSN : Hid ((Tryz.prog.info? 41).map (·.size) = some CN.length) := zz (by rw [hlenN]; kernel_rfl)
      have hcz : CN.toArray[0]? = some (.int .i64 ((k : Int) + 1)) := by
       rw [← hCN, z3]
       have := (HH.out (k + 1) (by omega)).2.1
       rw [show (stCells (stT (inpT d.toNat a b) (beginS s) (k + 1))).toArray[0]? = some (.int .i64 (stT (inpT d.toNat a b) (beginS s) (k + 1) 0)) from rfl, this]
       push_cast; rfl
      have HCZ := zz hcz
      have HCN : Hid (stCells (stT (inpT d.toNat a b) (beginS s) (k + 1)) = CN) := zz (by rw [← z3]; exact hCN)
      rw [hCN] at HN3
      clear hCN hlenN hcz z3
      go_upto_region 7 with fail
      apply wp_region_lit
      refine wpList_load_mid rfl 41 (.tmp 6) rfl gn 0 rfl CN _ (Blk.range HN3.out) Tryz.underlying41 rfl HSN.out ?_
      simp only [Act.put, zD, zE, zF]
      refine wpList_store_mid rfl 41 (.tmp 4) (.tmp 71) rfl g4 0 CN.toArray rfl rfl (Blk.there HS3.out (by rw [zM, zM, HLN.out, HLC.out]; decide)) (by rw [zM]; exact HSN.out) HON2.out ?_
      have hS10 : Blk (V3.setCells g4 0 CN.toArray.toList) g4 41 CN.toArray := HS3.out.whole CN (by rw [zM, HLC.out, HLN.out])
      have hz10 : (V3.setCells g4 0 CN.toArray.toList).heap.size = V3.heap.size := setCells_size _ _ _ _
      have hgo10 : (V3.setCells g4 0 CN.toArray.toList).heap[go]? = V3.heap[go]? := setCells_block _ _ _ _ _ (by omega)
      have hlo10 : LowK w.heap.size (fun r => r = go) w (V3.setCells g4 0 CN.toArray.toList) := HL3.out.farC (by omega) 0 CN
      have hgr10 := grownBy_setCells V3 g4 0 CN.toArray.toList
      obtain ⟨w10, hw10⟩ : ∃ w10, V3.setCells g4 0 CN.toArray.toList = w10 := ⟨_, rfl⟩
      rw [hw10] at hS10 hz10 hgo10 hlo10 hgr10 ⊢
      have HS10 := zz hS10
      have HZ10 := zz hz10
      have HGO10 := zz hgo10
      have HLO10 := zz hlo10
      have HGR10 := zz hgr10
      clear hw10 hS10 hz10 hgo10 hlo10 hgr10
      simp only [Act.put, zD, zE, zF]
      refine wpList_nil ?_
      go_wp2_with fail
      go_roundw
      ·refine ⟨k + 1, m', _, by omega, by omega, zz
        {st := by rw [HCN.out]; exact HS10.out
         low := HLO10.out
         ptr := fun r n c e => ?_
         len := by rw [zG, HPL.out, List.length_singleton]; omega
         first := fun h => by omega
         next := fun _ => ⟨HJ.out m' _ V3 w10 (some g4) HJ3.out HGR10.out (fun r e => by cases e; exact ⟨hge, hgm, _, HS3.out, rfl⟩), hWm, hgm, by rw [HZ10.out]; omega⟩ }⟩
       rw [cell_heap HGO10.out 0] at e
       have e2 : V2.cell? ⟨go, 0, none⟩ = some (.slice (some ⟨r, 0, none⟩) n c) := by rw [← cell_heap (HV3.out.block go (by omega)) 0]; exact e
       have := HPT2.out r n c e2
       exact ⟨by rw [HZ10.out]; omega, this.2⟩
      ·rw [HLR.out, leftR_of (k := k + 1) (by rw [HS10.out.cell 0]; exact HCZ.out)]
       omega
    ·intro V2 hJ2
     simp only [List.getElem_toArray, List.getElem_cons_succ, List.getElem_cons_zero, Act.put, zD, zE, zF]
     simp only [List.drop_succ_cons, List.drop_zero]
     have HJ2 := zz hJ2
     clear hJ2
     repeat (first | (refine mixY_pure rfl rfl rfl (fun K hK => ?_); go_big_quiet_op; refine hK _ ?_; clear hK K) | (refine mixY_skip rfl ?_; simp only [Act.put, zD, zE, zF]))
     refine mixY_nil ?_
     intro V3 hV3
     have HV3 := zz hV3.1
     clear hV3
     have HJ3 := zz (HJs.out m' _ V2 V3 none HJ2.out (grown_of HV3.out) (fun r e => by cases e))
     go_wp2_with fail
     refine bodyPost_ret (results_none rfl _ _ _) rfl ?_
     exact ⟨⟨_, rfl⟩, m', _, hWm, .inr ⟨by rw [zG, List.length_singleton]; omega, HJ3.out⟩⟩
  ·as_aux_lemma =>
   have g1 : decide ((f : Int) ≤ (k : Int)) = false := decide_eq_false (by omega)
   have g2 : ((k : Int) == (F : Int)) = false := by simp; omega
   go_upto_region 6 with fail
   refine (wpIn_wide (n := n)).1 ?_
   refine wp_region_cutK 8 [.pure, .held, .held, .pure, .pure, .pure, .held, .held] [.pure, .pure, .pure, .pure, .pure, .pure, .pure, .pure, .tail, .pure, .pure, .pure, .pure, .held, .held, .pure, .pure, .held, .pure, .pure] (fun _ => ⟨fun _ => True, fun _ _ => True⟩) (fun _ => ⟨fun _ => True, fun _ _ => True⟩) (.inl rfl) (by kernel_rfl) (by kernel_rfl) (by kernel_rfl) (by kernel_rfl) (fun h => ?hno) ?h
   case hno =>
    obtain ⟨_, _, e⟩ := h
    have e2 : (∃ v, Ending.outgrown = Ending.returned v) ∧ _ := e
    obtain ⟨⟨v, hv⟩, -⟩ := e2
    cases hv
   case h =>
    intro R hRR
    have HRR := zz hRR
    clear hRR
    simp only [List.take_succ_cons, List.take_zero]
    repeat (first | (refine mixY_pure rfl rfl rfl (fun K hK => ?_); go_big_quiet_op; refine hK _ ?_; clear hK K) | (refine mixY_held rfl rfl rfl (fun K hK => ?_); go_big_quiet_op; refine hK _ ?_; clear hK K) | (refine mixY_skip rfl ?_; simp only [Act.put, zD, zE, zF]))
    refine mixY_nil ?_
    intro V hV
    have hgV := hV.1
    have p1 := (kb8.on hgV).cell 0
    have d8 := (kd8.on hgV).cell 8
    have r0 := (HP8.out.on hgV).cell 0
    simp only [zA, zB, zC] at p1 d8 r0
    have lb := (kb8.on hgV).lt
    have ld := (kd8.on hgV).lt
    have lp := (HP8.out.on hgV).lt
    have HVB := zz hgV
    refine HRR.out _ _ ?_
    clear kb8 kf8 kd8 hV hgV
    refine opIn_skip rfl rfl rfl ?_
    simp only [List.getElem_toArray, List.getElem_cons_succ, List.getElem_cons_zero, Act.put, zD, zE, zF]
    simp only [List.drop_succ_cons, List.drop_zero]
    repeat (first | (refine mixY_pure rfl rfl rfl (fun K hK => ?_); go_big_quiet_op; refine hK _ ?_; clear hK K) | (refine mixY_held rfl rfl rfl (fun K hK => ?_); go_big_quiet_op; refine hK _ ?_; clear hK K) | (refine mixY_skip rfl ?_; simp only [Act.put, zD, zE, zF]))
    refine mixY_nil ?_
    intro V3 hV3
    have HV3 := zz (bTrans HVB.out hV3.1)
    clear hV3
    have HN3 := zz (HN8.out.on HV3.out)
    have HS3 := zz (HS8.out.on HV3.out)
    have HB3 := zz (bTrans HB8.out HV3.out)
    have HL3 : Hid (LowK w.heap.size (fun r => r = go) w V3) := zz (HI.out.low.below HB3.out (by omega))
    have hz3 := HB3.out.size
    have z3 := HX8.out.2.2 (by omega)
    obtain ⟨CN, hCN⟩ : ∃ CN, stCells TN = CN := ⟨_, rfl⟩
    have hlenN : CN.length = 60 := by rw [← hCN, stCells_length]
    have HLN := zz hlenN
    have HON2 : Hid (CN.toArray.all (·.oneCell') = true) := zz (by rw [← hCN]; exact all_oneCell_toArray (int_one _))
    have HSN : Hid ((Tryz.prog.info? 41).map (·.size) = some CN.length) := zz (by rw [hlenN]; kernel_rfl)
    have hcz : CN.toArray[0]? = some (.int .i64 ((k : Int) + 1)) := by
     rw [← hCN, z3]
     have := (HH.out (k + 1) (by omega)).2.1
     rw [show (stCells (stT (inpT d.toNat a b) (beginS s) (k + 1))).toArray[0]? = some (.int .i64 (stT (inpT d.toNat a b) (beginS s) (k + 1) 0)) from rfl, this]
     push_cast; rfl
    have HCZ := zz hcz
    have HCN : Hid (stCells (stT (inpT d.toNat a b) (beginS s) (k + 1)) = CN) := zz (by rw [← z3]; exact hCN)
    rw [hCN] at HN3
    clear hCN hlenN hcz z3
    go_upto_region 7 with fail
    apply wp_region_lit
    refine wpList_load_mid rfl 41 (.tmp 6) rfl gn 0 rfl CN _ (Blk.range HN3.out) Tryz.underlying41 rfl HSN.out ?_
    simp only [Act.put, zD, zE, zF]
    refine wpList_store_mid rfl 41 (.tmp 4) (.tmp 71) rfl g4 0 CN.toArray rfl rfl (Blk.there HS3.out (by rw [zM, zM, HLN.out, HLC.out]; decide)) (by rw [zM]; exact HSN.out) HON2.out ?_
    have hS10 : Blk (V3.setCells g4 0 CN.toArray.toList) g4 41 CN.toArray := HS3.out.whole CN (by rw [zM, HLC.out, HLN.out])
    have hz10 : (V3.setCells g4 0 CN.toArray.toList).heap.size = V3.heap.size := setCells_size _ _ _ _
    have hgo10 : (V3.setCells g4 0 CN.toArray.toList).heap[go]? = V3.heap[go]? := setCells_block _ _ _ _ _ (by omega)
    have hlo10 : LowK w.heap.size (fun r => r = go) w (V3.setCells g4 0 CN.toArray.toList) := HL3.out.farC (by omega) 0 CN
    have hgr10 := grownBy_setCells V3 g4 0 CN.toArray.toList
    obtain ⟨w10, hw10⟩ : ∃ w10, V3.setCells g4 0 CN.toArray.toList = w10 := ⟨_, rfl⟩
    rw [hw10] at hS10 hz10 hgo10 hlo10 hgr10 ⊢
    have HS10 := zz hS10
    have HZ10 := zz hz10
    have HGO10 := zz hgo10
    have HLO10 := zz hlo10
    have HGR10 := zz hgr10
    clear hw10 hS10 hz10 hgo10 hlo10 hgr10
    simp only [Act.put, zD, zE, zF]
    refine wpList_nil ?_
    go_wp2_with fail
    go_roundw
    ·refine ⟨k + 1, m, pre, by omega, by omega, zz
      {st := by rw [HCN.out]; exact HS10.out
       low := HLO10.out
       ptr := fun r n c e => ?_
       len := by have := HI.out.len; omega
       first := fun h => grown_own ((HI.out.first (by omega)).trans (grown_of HB3.out)) HGR10.out hge
       next := fun h => by omega }⟩
     rw [cell_heap HGO10.out 0] at e
     have e2 : wr.cell? ⟨go, 0, none⟩ = some (.slice (some ⟨r, 0, none⟩) n c) := by rw [← cell_heap (HB3.out.block go (by omega)) 0]; exact e
     have := HI.out.ptr r n c e2
     exact ⟨by rw [HZ10.out]; omega, this.2⟩
    ·rw [HLR.out, leftR_of (k := k + 1) (by rw [HS10.out.cell 0]; exact HCZ.out)]
     omega
end
end Go.Proofs.YtibeihcpehikoaaGreat
