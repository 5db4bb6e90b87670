/-
  The walks beneath: Played, MixS, R11a, R11b, Match.
-/
import Derived.Shelf.Abstract
import Derived.Shelf.RegionOpen
import Derived.TacticsInMore
import Derived.LoopNIn
import Derived.LoopIn
import Derived.Outline
import Derived.Deep.DeepCutAuto
import Derived.Great.BuildSlice
import Derived.Test.YtnaclkaapicelaaMb3
import Derived.Test.YtnaclkaapicelaaMb4
import Derived.Test.YtnaclkaapicelaaMb5
import Derived.Test.YtnaclkaapicelaaEventLeaf
import Derived.Test.YtnaclkaapicelaaMild
import Derived.Test.YtnaclkaapicelaaMb1
import Derived.Test.YtnaclkaapicelaaPageP
import Derived.Test.YtnaclkaapicelaaEventIns
namespace Go.Proofs.Ytnaclkaapicelaa
open Go.RowKit Go.Shelf
attribute [local go_sem] Oper.semAt_some
set_option maxRecDepth 100000
set_option linter.unusedSimpArgs false
/-- What is yielded in a round. -/
structure Rnd where
  x : Nat
  y : Nat
  T : Nat → Int
  L : List Ev
  A : Option Addr
  c : Nat
def Rnd.g2 (r : Rnd) : List Value := stCells r.T ++ [.slice r.A r.L.length r.c]
def Rnd.encs (r : Rnd) : Array Value := #[.agg #[.int .u8 r.x, .int .u8 r.y], .agg r.g2.toArray]
def Rnd.core (r : Rnd) : (Nat × Nat) × (Nat → Int) × List Ev := ((r.x, r.y), r.T, r.L)
def YpM (N : Nat) (pre : List Rnd) (r : Rnd) (A : World) : Prop := OwnL A 0 45 9 (.slice r.A r.L.length r.c) Ev.cells r.L ∧ r.L.length ≤ 22 ∧ pre.length < N
/-- Blocks of other types than the rows', and not the caller's boxes, lie as they lay. -/
def KpX (X : Nat → Prop) (A B : World) : Prop := A.heap.size ≤ B.heap.size ∧ ∀ r t cs, Blk A r t cs → t ≠ 45 → t ≠ 41 → ¬ X r → Blk B r t cs
theorem grown_of {A B : World} (h : Below A.heap.size A B) : A.grownBy B none := ⟨h.os, h.tape, h.output, h.size, fun k hk _ => h.block k hk⟩
theorem grownBy_setCells (w : World) (g o : Nat) (vs : List Value) : w.grownBy (w.setCells g o vs) (some g) :=
  ⟨(setCells_rest w g vs o).1, (setCells_rest w g vs o).2.1, (setCells_rest w g vs o).2.2, by rw [setCells_size]; exact Nat.le_refl _, fun k _ hne => setCells_block w g vs o k (fun e => hne (by rw [e]))⟩
theorem built_g2 (T : Nat → Int) (A : Option Addr) (n c : Nat) : Try.prog.built 116 [(0, .agg (stCells T).toArray), (1, .slice A n c)] = some (stCells T ++ [Value.slice A n c]).toArray := by
  have hu : ∃ z, (Try.prog.info? 116).bind (·.zero) = some z ∧ z.cells.size = 61 := by
    cases h : (Try.prog.info? 116).bind (·.zero) with
    | none =>
      have : ((Try.prog.info? 116).bind (·.zero)).isSome = true := by kernel_rfl
      rw [h] at this; cases this
    | some z =>
      have : ((Try.prog.info? 116).bind (·.zero)).map (·.cells.size) = some 61 := by kernel_rfl
      rw [h] at this
      exact ⟨z, rfl, by simpa using this⟩
  obtain ⟨z, hz, hs⟩ := hu
  rw [built_struct (places := [(0, 60), (60, 1)]) Try.underlying116 hz (by kernel_rfl)]
  exact fill_two _ _ (stCells T) [.slice A n c] _ _ rfl rfl (by rw [stCells_length]; rfl) (by rw [stCells_length]; rfl) (by rw [hs, stCells_length]; rfl)
/-- A value known, in a fence. -/
theorem wpListIn_runs {F : Fence} {n : Nat} {P : Program} {ops : Array Oper} {rest : List Oper} {o : Oper} {a : Act} {w : World} {Q : Exit → Act → World → Prop} (v : Value) (hw : Region.wanted o (yielded ops a.tmps) = true) (hd : ∀ c, o.op ≠ .defer c) (ha : o.about P w a.eval = none) (hr : RunsTo P o a w v) (h : wpListIn F n P ops Q rest (a.put o.dst v) w) : wpListIn F n P ops Q (o :: rest) a w := by
  unfold wpListIn
  rw [if_pos hw]
  refine ⟨fun f hf => (by rw [ha] at hf; cases hf), ?_⟩
  rw [Oper.semAt_plain _ _ _ hd]
  unfold RunsTo at hr
  rw [hr]
  exact h
theorem runs_load {P : Program} {o : Oper} {a : Act} {w : World} (ty : TypeId) (x : Operand) (ho : o.op = .load ty x) (b i : Nat) (hx : a.eval x = .pointer (some ⟨b, i, none⟩)) (cs : List Value) (d : TypeDesc) (hc : w.rangeAt b i cs) (hu : P.underlying ty = some d) (hd : d.isRow = true) (hi : (P.info? ty).map (·.size) = some cs.length) : RunsTo P o a w (.agg cs.toArray) := by
  unfold RunsTo execOp
  simp only [ho, hx, Instr.loadAt, Instr.sureAddr, Sem.run_bind, Sem.run_pure, Result.andThen_ok, run_loadVar_mid w b i ty cs d hc hu hd hi]
/-- A store of many cells, in a fence. -/
theorem wpListIn_store {F : Fence} {n : Nat} {P : Program} {ops : Array Oper} {rest : List Oper} {o : Oper} {a : Act} {w : World} {Q : Exit → Act → World → Prop} (hw : Region.wanted o (yielded ops a.tmps) = true) (ha : o.about P w a.eval = none) (ty : TypeId) (x y : Operand) (ho : o.op = .store ty x y) (b i : Nat) (cs : Array Value) (hx : a.eval x = .pointer (some ⟨b, i, none⟩)) (hy : a.eval y = .agg cs) (ht : w.there b i cs.size) (hi : (P.info? ty).map (·.size) = some cs.size) (h1 : cs.all (·.oneCell') = true)
    (h : wpListIn F n P ops Q rest (a.put o.dst undef) (w.setCells b i cs.toList)) : wpListIn F n P ops Q (o :: rest) a w := by
  unfold wpListIn
  rw [if_pos hw]
  refine ⟨fun f hf => (by rw [ha] at hf; cases hf), ?_⟩
  rw [Oper.semAt_plain _ _ _ (by rw [ho]; intro c e; cases e)]
  have hr : (execOp a.eval o).run P w = .ok .skip (w.setCells b i cs.toList) := by
    unfold execOp
    simp only [ho, hx, hy, Instr.storeAt, Instr.sureAddr, Sem.run_bind, Sem.run_pure, Result.andThen_ok, run_storeVar_mid w b i ty cs ht hi h1]
  rw [hr]
  exact h
/-- A call of yield: what comes of the round goes on. -/
theorem wpListIn_yield {F : Fence} {n : Nat} {P : Program} {ops : Array Oper} {rest : List Oper} {o : Oper} {a : Act} {w w' : World} {Q : Exit → Act → World → Prop} {l : Nat} {fn : FuncId} {tms : Array Value} {assign body : Code} {v : Value} {R : World → Prop}
    (hw : Region.wanted o (yielded ops a.tmps) = true) (hd : ∀ c, o.op ≠ .defer c) (ha : o.about P w a.eval = none) (hr : (execOp a.eval o).run P w = .ok (.round l fn tms assign body) w') (hn : F.depth.isSome = true → 1 ≤ n)
    (hR : RoundIn F (n - 1) P l fn tms assign body w' fun e A => e = .returned v ∧ R A) (h : ∀ A, R A → wpListIn F n P ops Q rest (a.put o.dst v) A) : wpListIn F n P ops Q (o :: rest) a w := by
  unfold wpListIn
  rw [if_pos hw]
  refine ⟨fun f hf => (by rw [ha] at hf; cases hf), ?_⟩
  rw [Oper.semAt_plain _ _ _ hd, hr]
  refine ⟨hn, hR.mono ?_⟩
  rintro e A ⟨rfl, hA⟩
  exact h A hA
theorem runs_yield {P : Program} {o : Oper} {a : Act} {w w' : World} {c : Call} {l : Nat} {r : Next} (g : Operand) (args : List Operand) (ho : o.op = .call c) (hc : c.callee = .value g) (hg : a.eval g = .func (.yield l) #[] #[]) (ha : c.args = args.toArray) {vs : Array Value} (hy : (Instr.yield l vs).run P w = .ok r w') (hv : (args.map a.eval).toArray = vs := by rfl) : (execOp a.eval o).run P w = .ok r w' := by
  subst hv
  unfold execOp
  simp only [ho, resolve, hc, hg, ha]
  simp [Deferred.ofValue, invoke, go_sem]
  simpa using hy
theorem zero_pb (W : World) : (zeroValue 41).run Try.prog W = .ok (.agg #[.int .u8 0, .int .u8 0]) W := by kernel_rfl
theorem built_pb (x y : Int) : Try.prog.built 41 [(0, .int .u8 x), (1, .int .u8 y)] = some #[.int .u8 x, .int .u8 y] := by kernel_rfl
set_option maxHeartbeats 16000000 in
theorem played_seq (n : Nat) (hn : 1 ≤ n) (seed a b : Int) (N : Nat) (X : Nat → Prop) (w : World) (bs bf bk : Nat) (hs : U32 seed) (hN : N ≤ 5000) (h1 : Blk w bs 22 #[.int .u32 seed]) (h2 : Blk w bf 3 #[.int .i64 N]) (h3 : Blk w bk 66 #[.int .i64 a, .int .i64 b]) (hx : ∀ r, X r → r < w.heap.size ∧ r ≠ bs ∧ r ≠ bf ∧ r ≠ bk) :
    SeqSt n Try.prog 105 #[.pointer (some ⟨bs, 0, none⟩), .pointer (some ⟨bf, 0, none⟩), .pointer (some ⟨bk, 0, none⟩)] Rnd.encs (fun _ => YpM N) (KpX X) (fun xs => xs.map Rnd.core = preM a b (beginS seed) N) w := by
  intro l J W hW hJ hJ0 hY
  have HJ := Lib.hid hJ
  have HJ0 := Lib.hid hJ0
  have HY := Lib.hid hY
  have HOK := Lib.hid (begin_ok hs)
  obtain ⟨T0, hT0⟩ : ∃ T0, beginS seed = T0 := ⟨_, rfl⟩
  have hbeg := fun V => gBegin_any seed V
  have hz : T0 0 = 0 ∧ T0 2 = 0 := by rw [← hT0]; exact ⟨rfl, rfl⟩
  rw [hT0] at hbeg HOK ⊢
  obtain ⟨C0, hC0⟩ : ∃ C0 : Array Value, (stCells T0).toArray = C0 := ⟨_, rfl⟩
  rw [hC0] at hbeg
  have hsz : C0.size = 60 := by rw [← hC0, List.size_toArray, stCells_length]
  have H1C : Hid (C0.all (·.oneCell') = true) := Lib.hid (by rw [← hC0]; exact all_oneCell_toArray (int_one _))
  have HSZ : Hid ((Try.prog.info? 33).map (·.size) = some C0.size) := Lib.hid (by rw [hsz]; kernel_rfl)
  have HSI := Lib.hid hsz
  have HC0 := Lib.hid hC0
  have HBEG := Lib.hid hbeg
  have HZ := Lib.hid hz
  have B1 := Lib.hid (h1.on hW)
  have B2 := Lib.hid (h2.on hW)
  have B3 := Lib.hid (h3.on hW)
  have hwW := hW.size
  have c1 := B1.out.cell 0
  simp only [List.getElem?_toArray, List.getElem?_cons_zero] at c1
  have l1 := B1.out.lt
  clear hJ hJ0 hY hbeg hsz hC0 hT0 hz
  refine callsIn_of_wp Try.func105 rfl trivial ?_ rfl
  simp only [Try.ntmps105, List.size_toArray, List.length_cons, List.length_nil, Nat.reduceAdd, Nat.reduceSub, Array.replicate_succ, Array.replicate_zero, List.push_toArray, List.append_toArray, List.nil_append, List.cons_append]
  refine wpIn_wide.2 ?_
  go_upto_region 1 with (first
    | (go_at_call 13; refine (HBEG.out _).mono ?_; rintro e w3 ⟨rfl, hb3⟩; have HB3 := Lib.hid hb3; clear hb3)
    | (refine wpList_store_mid rfl 33 (.tmp 5) (.tmp 11) rfl w3.heap.size 0 C0 rfl rfl (there_new _ _ _ (by rw [HSI.out]; rfl)) HSZ.out H1C.out ?_))
  refine named_put (F := fun W => Code.wp _ _ _ _ W) (by rw [Array.length_toList, HSI.out]; rfl) ?_
  intro w4 hk4 hb4 hz4
  rw [Array.toArray_toList, ← HC0.out] at hk4
  have hb40 := bTrans HB3.out hb4
  have hg4 := hk4.lt
  have hge4 : W.heap.size ≤ w3.heap.size := HB3.out.size
  obtain ⟨gs, hgs⟩ : ∃ gs, w3.heap.size = gs := ⟨_, rfl⟩
  rw [hgs] at hk4 hg4 hge4 ⊢
  have HS4 := Lib.hid hk4
  have HB4 := Lib.hid hb40
  have HJ4 := Lib.hid (HJ0.out w4 (grown_of hb40))
  have c2 := (B2.out.on hb40).cell 0
  simp only [List.getElem?_toArray, List.getElem?_cons_zero] at c2
  have l2 := (B2.out.on hb40).lt
  clear hk4 hb4 hz4 hb40 hgs HB3 HBEG H1C HSZ HJ0 c1 l1
  go_wp2_with fail
  obtain ⟨m, hm⟩ : ∃ m, w4.heap.size = m := ⟨_, rfl⟩
  rw [hm] at HJ4 hg4
  have hWm : W.heap.size ≤ m := by omega
  go_loopw [13] (fun v wr => ∃ (k : Nat) (pre : List Rnd), k ≤ N ∧ v = .int .i64 k ∧ Hid (pre.map Rnd.core = preM a b T0 k) ∧ Hid (J m pre wr) ∧ Hid (Blk wr gs 33 (stCells (stM a b T0 k)).toArray) ∧ Hid (Blk wr bk 66 #[.int .i64 a, .int .i64 b]) ∧ m ≤ wr.heap.size) (fun v _ => N - (intOf v).toNat)
  case atStart => exact ⟨0, [], Nat.zero_le _, rfl, Lib.hid rfl, HJ4, HS4, Lib.hid (B3.out.on HB4.out), by omega⟩
  case round =>
  obtain ⟨k, pre, hk, rfl, HP, HJK, HS, HK, hmr⟩ := hrel
  clear HS4 HB4 HJ4 c2 l2 hm
  by_cases hlt : k < N
  · as_aux_lemma =>
    obtain ⟨q1, q2, q3, q4⟩ := stM_ok (a := a) (b := b) HOK.out HZ.out.1 HZ.out.2 k (by omega)
    have hsucc : stM a b T0 (k + 1) = (rdM a b (stM a b T0 k)).2.1 := rfl
    have hpsucc := preM_succ a b T0 k
    obtain ⟨S, hS⟩ : ∃ S, stM a b T0 k = S := ⟨_, rfl⟩
    rw [hS] at q1 q2 q3 q4 hsucc hpsucc HS
    have hx0 := press_bd S 0 a
    have hy0 := press_bd S 1 b
    obtain ⟨x, hxn⟩ := Int.eq_ofNat_of_zero_le hx0.1
    obtain ⟨y, hyn⟩ := Int.eq_ofNat_of_zero_le hy0.1
    obtain ⟨T', L', hTL⟩ : ∃ T' L', stepS x y S = (T', L') := ⟨_, _, rfl⟩
    have hrd : rdM a b S = ((x, y), T', L') := by
      unfold rdM
      rw [hxn, hyn]
      show ((x, y), stepS x y S) = _
      rw [hTL]
    rw [hrd] at hsucc hpsucc
    have hl22 : L'.length ≤ 22 := by
      have := (stepS_ok x y q1 (by omega) (by omega)).2.1
      rw [hTL] at this; exact this
    have hpr0 := fun V => press_any S V 0 a q1.m.fit
    have hpr1 := fun V => press_any S V 1 b q1.m.fit
    rw [hxn] at hpr0
    rw [hyn] at hpr1
    have hstp := fun V => gStep_yes (w := V) q1 (by omega) (show x < 64 by omega) (show y < 64 by omega)
    simp only [hTL] at hstp
    obtain ⟨j, hj⟩ : ∃ j, L'.length = j := ⟨_, rfl⟩
    simp only [hj] at hstp
    obtain ⟨C1, hC1⟩ : ∃ C1 : Array Value, (stCells T').toArray = C1 := ⟨_, rfl⟩
    rw [hC1] at hstp
    have hsz1 : C1.size = 60 := by rw [← hC1, List.size_toArray, stCells_length]
    have H1C : Hid (C1.all (·.oneCell') = true) := Lib.hid (by rw [← hC1]; exact all_oneCell_toArray (int_one _))
    have HSZ : Hid ((Try.prog.info? 33).map (·.size) = some C1.size) := Lib.hid (by rw [hsz1]; kernel_rfl)
    have HS1 := Lib.hid hsz1
    have HC1 := Lib.hid hC1
    have HPR0 : Hid (∀ V, Calls Try.prog 18 #[.agg (stCells S).toArray, .int .i64 0, .int .i64 a] V fun e w' => e = .returned (.int .u8 (x : Int)) ∧ Below V.heap.size V w') := Lib.hid hpr0
    have HPR1 : Hid (∀ V, Calls Try.prog 18 #[.agg (stCells S).toArray, .int .i64 1, .int .i64 b] V fun e w' => e = .returned (.int .u8 (y : Int)) ∧ Below V.heap.size V w') := Lib.hid hpr1
    have HST := Lib.hid hstp
    have HTN : Hid (stM a b T0 (k + 1) = T') := Lib.hid hsucc
    have HPN : Hid (preM a b T0 (k + 1) = preM a b T0 k ++ [((x, y), T', L')]) := Lib.hid hpsucc
    have HJL := Lib.hid hj
    have HL22 := Lib.hid hl22
    have hpl : pre.length = k := by
      have := congrArg List.length HP.out
      rwa [List.length_map, preM_length] at this
    have p0 := HK.out.cell 0
    have p1 := HK.out.cell 1
    simp only [List.getElem?_toArray, List.getElem?_cons_zero, List.getElem?_cons_succ] at p0 p1
    have hlk := HK.out.lt
    have hlg := HS.out.lt
    clear q1 q2 q3 q4 hsucc hpsucc hS hx0 hy0 hxn hyn hTL hrd hl22 hpr0 hpr1 hstp hj hC1 hsz1 HOK HZ
    go_upto_region 3 with fail
    have hKp := Keeps.base wr
    refine wp_region_mixedT [.held, .pure, .held, .make, .held, .pure, .held, .make, .pure, .make, .tail] (fun | 3 => valF (.int .u8 (x : Int)) | 7 => valF (.int .u8 (y : Int)) | _ => newTold wr 41 #[.int .u8 0, .int .u8 0]) (by kernel_rfl) (by kernel_rfl) ?_
    refine mix_load rfl rfl (by assumption) 33 (.tmp 5) rfl gs 0 rfl (stCells S) _ hlg (Blk.range HS.out) Try.underlying33 rfl (by kernel_rfl) ?_
    simp only [Act.put, List.setIfInBounds_toArray, List.set_cons_zero, List.set_cons_succ]
    repeat (first | (refine mix_pure rfl rfl rfl (fun K hK => ?_); go_big_quiet_op; refine hK _ ?_; clear hK K) | (refine mix_held rfl rfl rfl (by assumption) (fun K hK => ?_); go_big_quiet_op; refine hK _ ?_; clear hK K))
    refine mix_make rfl rfl (by assumption) valF_st (fun V hV => ?_) ?_
    · have HS2 := Lib.hid (valF_of (HPR0.out V))
      go_simp
      exact HS2.out
    rintro _ rfl hKp2
    simp only [Act.put, List.setIfInBounds_toArray, List.set_cons_zero, List.set_cons_succ]
    refine mix_load rfl rfl (by assumption) 33 (.tmp 5) rfl gs 0 rfl (stCells S) _ hlg (Blk.range HS.out) Try.underlying33 rfl (by kernel_rfl) ?_
    simp only [Act.put, List.setIfInBounds_toArray, List.set_cons_zero, List.set_cons_succ]
    repeat (first | (refine mix_pure rfl rfl rfl (fun K hK => ?_); go_big_quiet_op; refine hK _ ?_; clear hK K) | (refine mix_held rfl rfl rfl (by assumption) (fun K hK => ?_); go_big_quiet_op; refine hK _ ?_; clear hK K))
    refine mix_make rfl rfl (by assumption) valF_st (fun V hV => ?_) ?_
    · have HS2 := Lib.hid (valF_of (HPR1.out V))
      go_simp
      exact HS2.out
    rintro _ rfl hKp3
    simp only [Act.put, List.setIfInBounds_toArray, List.set_cons_zero, List.set_cons_succ]
    refine mix_built rfl rfl 41 [(0, .tmp 18), (1, .tmp 22)] rfl _ _ rfl (built_pb x y) ?_
    simp only [Act.put, List.setIfInBounds_toArray, List.set_cons_zero, List.set_cons_succ]
    refine mix_make rfl rfl (by assumption) newTold_st (newTold_makes rfl zero_pb rfl) ?_
    rintro v ⟨g6, rfl⟩ hKp4
    simp only [Act.put, List.setIfInBounds_toArray, List.set_cons_zero, List.set_cons_succ]
    refine mix_store rfl rfl 41 (.tmp 6) (.tmp 23) rfl g6 0 #[.int .u8 (x : Int), .int .u8 (y : Int)] rfl rfl (fun V hV => ?_) (by kernel_rfl) (by simp [Value.oneCell']) ?_
    · exact Blk.there (hV.2 g6 rfl).2 (by show 0 + 2 ≤ 2; decide)
    simp only [Act.put, List.setIfInBounds_toArray, List.set_cons_zero, List.set_cons_succ]
    refine mix_nil ?_
    rintro V' ⟨V, hD, rfl⟩
    obtain ⟨⟨⟨hg, -⟩, -⟩, hR⟩ := hD
    obtain ⟨hge, hBg⟩ := hR g6 rfl
    have hg : Grown wr V := hg
    have hn6 := hBg.whole [.int .u8 (x : Int), .int .u8 (y : Int)] rfl
    have hs6 := (HS.out.on hg).farC (show gs ≠ g6 by omega) 0 [.int .u8 (x : Int), .int .u8 (y : Int)]
    have hk6 := (HK.out.on hg).farC (show bk ≠ g6 by omega) 0 [.int .u8 (x : Int), .int .u8 (y : Int)]
    have hb6 := bSetCells hg hge 0 [.int .u8 (x : Int), .int .u8 (y : Int)]
    obtain ⟨w6, hw6⟩ : ∃ w6, V.setCells g6 0 [.int .u8 (x : Int), .int .u8 (y : Int)] = w6 := ⟨_, rfl⟩
    rw [hw6] at hn6 hs6 hk6 hb6
    first | rw [hw6] | (show Exit.then _ _ _ _ (V.setCells g6 0 [.int .u8 (x : Int), .int .u8 (y : Int)]); rw [hw6])
    have HN6 := Lib.hid hn6
    have HS6 := Lib.hid hs6
    have HK6 := Lib.hid hk6
    have HJ6 := Lib.hid (HJ.out m pre wr w6 none HJK.out (grown_of hb6) (fun r e => by cases e))
    have hmr6 : m ≤ w6.heap.size := Nat.le_trans hmr (Below.size hb6)
    have hgm6 : m ≤ g6 := by omega
    clear hw6 hn6 hs6 hk6 hb6 hg hge hBg hR hKp hKp2 hKp3 hKp4 HPR0 HPR1 HS HK HJK p0 p1 hlk hlg hmr
    have q0 := HN6.out.cell 0
    have q1 := HN6.out.cell 1
    simp only [List.getElem?_toArray, List.getElem?_cons_zero, List.getElem?_cons_succ] at q0 q1
    have hl6 := HN6.out.lt
    have hlg6 := HS6.out.lt
    go_upto_region 5 with (first
      | (refine wpList_load_mid rfl 33 (.tmp 5) rfl gs 0 rfl (stCells S) _ (Blk.range HS6.out) Try.underlying33 rfl (by kernel_rfl) ?_)
      | (go_at_call 11; refine (HST.out _).mono ?_; rintro e w7 ⟨AN, cN, rfl, ho7, hb7⟩; have HO7 := Lib.hid ho7; have HB7 := Lib.hid hb7; clear ho7 hb7)
      | (refine wpList_store_mid rfl 33 (.tmp 7) (.tmp 28) rfl w7.heap.size 0 C1 rfl rfl (there_new _ _ _ (by rw [HS1.out]; rfl)) HSZ.out H1C.out ?_))
    refine named_put (F := fun W => Code.wp _ _ _ _ W) (by rw [Array.length_toList, HS1.out]; rfl) ?_
    intro w8 hk8 hb8 hz8
    rw [Array.toArray_toList, ← HC1.out] at hk8
    have hb68 := bTrans HB7.out hb8
    have HJ8 := Lib.hid (HJ.out m pre w6 w8 none HJ6.out (grown_of hb68) (fun r e => by cases e))
    have HN8 := Lib.hid (HN6.out.on hb68)
    have HS8 := Lib.hid (HS6.out.on hb68)
    have HK8 := Lib.hid (HK6.out.on hb68)
    have HO8 := Lib.hid (HO7.out.below hb8)
    have HG8 := Lib.hid hk8
    have hl8 := hk8.lt
    have hgm8 : m ≤ w7.heap.size := Nat.le_trans hmr6 HB7.out.size
    obtain ⟨g7, hg7⟩ : ∃ g7, w7.heap.size = g7 := ⟨_, rfl⟩
    rw [hg7] at HG8 hl8 hgm8 ⊢
    clear hk8 hb8 hz8 hb68 hg7 HB7 HO7 HN6 HS6 HK6 HJ6 HST H1C HSZ q0 q1 hl6 hlg6
    have q0 := HN8.out.cell 0
    have q1 := HN8.out.cell 1
    simp only [List.getElem?_toArray, List.getElem?_cons_zero, List.getElem?_cons_succ] at q0 q1
    have hl6 := HN8.out.lt
    obtain ⟨G, hG⟩ : ∃ G : Array Value, (stCells T' ++ [Value.slice AN j cN]).toArray = G := ⟨_, rfl⟩
    have hbt := built_g2 T' AN j cN
    rw [hG] at hbt
    have HBT := Lib.hid hbt
    obtain ⟨fn, tmps, assign, body, hy, hR⟩ := HY.out m pre ⟨x, y, T', L', AN, cN⟩ w8 hWm HJ8.out ⟨by have := HO8.out.more (Nat.zero_le _); rw [← HJL.out] at this; exact this, HL22.out, by rw [hpl]; exact hlt⟩
    unfold Rnd.encs Rnd.g2 at hy
    dsimp only at hy
    rw [HJL.out, hG] at hy
    clear hbt hG
    refine (wpIn_wide (n := n)).1 ?_
    apply wpIn_region_lit
    refine wpListIn_runs (.int .i64 0) rfl (by intro c h; cases h) rfl rfl ?_
    simp only [Act.put, List.setIfInBounds_toArray, List.set_cons_zero, List.set_cons_succ]
    refine wpListIn_runs (.bool false) rfl (by intro c h; cases h) rfl rfl ?_
    simp only [Act.put, List.setIfInBounds_toArray, List.set_cons_zero, List.set_cons_succ]
    refine wpListIn_runs (.bool false) rfl (by intro c h; cases h) rfl rfl ?_
    simp only [Act.put, List.setIfInBounds_toArray, List.set_cons_zero, List.set_cons_succ]
    refine wpListIn_runs (.func (.yield l) #[] #[]) rfl (by intro c h; cases h) rfl rfl ?_
    simp only [Act.put, List.setIfInBounds_toArray, List.set_cons_zero, List.set_cons_succ]
    refine wpListIn_runs (.agg #[.int .u8 x, .int .u8 y]) rfl (by intro c h; cases h) rfl (runs_load 41 (.tmp 6) rfl g6 0 rfl [.int .u8 x, .int .u8 y] _ (Blk.range HN8.out) Try.underlying41 rfl (by kernel_rfl)) ?_
    simp only [Act.put, List.setIfInBounds_toArray, List.set_cons_zero, List.set_cons_succ]
    refine wpListIn_runs (.agg (stCells T').toArray) rfl (by intro c h; cases h) rfl (runs_load 33 (.tmp 7) rfl g7 0 rfl (stCells T') _ (Blk.range HG8.out) Try.underlying33 rfl (by kernel_rfl)) ?_
    simp only [Act.put, List.setIfInBounds_toArray, List.set_cons_zero, List.set_cons_succ]
    refine wpListIn_runs (.slice AN j cN) rfl (by intro c h; cases h) rfl rfl ?_
    simp only [Act.put, List.setIfInBounds_toArray, List.set_cons_zero, List.set_cons_succ]
    refine wpListIn_runs (.agg G) ?_ ?_ ?_ ?_ ?_
    · rfl
    · intro c h; cases h
    · rfl
    · exact runs_built 116 [(0, .tmp 36), (1, .tmp 37)] rfl G [(0, .agg (stCells T').toArray), (1, .slice AN j cN)] rfl HBT.out w8
    simp only [Act.put, List.setIfInBounds_toArray, List.set_cons_zero, List.set_cons_succ]
    refine wpListIn_yield (l := l) (fn := fn) (tms := tmps) (assign := assign) (body := body) (v := .bool true) ?_ ?_ ?_ ?_ (fun _ => hn) hR ?_
    · rfl
    · intro c h; cases h
    · rfl
    · exact runs_yield (.tmp 34) [.tmp 35, .tmp 38] rfl rfl rfl rfl hy
    rintro w9 ⟨hJ9, hk9⟩
    simp only [Act.put, List.setIfInBounds_toArray, List.set_cons_zero, List.set_cons_succ]
    refine wpListIn_runs (.bool false) rfl (by intro c h; cases h) rfl rfl ?_
    simp only [Act.put, List.setIfInBounds_toArray, List.set_cons_zero, List.set_cons_succ]
    refine wpListIn_runs (.bool false) rfl (by intro c h; cases h) rfl rfl ?_
    simp only [Act.put, List.setIfInBounds_toArray, List.set_cons_zero, List.set_cons_succ]
    refine wpListIn_nil ?_
    go_upto_region 6 with fail
    obtain ⟨hz9, hk9⟩ := hk9
    have hG9 := hk9 g7 _ _ HG8.out (by decide) (by decide) (fun e => by have := (hx _ e).1; omega)
    have hS9 := hk9 gs _ _ HS8.out (by decide) (by decide) (fun e => by have := (hx _ e).1; omega)
    have hK9 := hk9 bk _ _ HK8.out (by decide) (by decide) (fun e => (hx _ e).2.2.2 rfl)
    have HI := Lib.hid (int_one T')
    obtain ⟨CL, hCL⟩ : ∃ CL, stCells T' = CL := ⟨_, rfl⟩
    have hlen : CL.length = 60 := by rw [← hCL, stCells_length]
    rw [hCL] at hG9 HI
    have hone := all_oneCell_toArray HI.out
    have hsz9 : (Try.prog.info? 33).map (·.size) = some CL.toArray.size := by rw [List.size_toArray, hlen]; kernel_rfl
    have hlg9 := hG9.lt
    have hls9 := hS9.lt
    apply wp_region_lit
    refine wpList_load_mid rfl 33 (.tmp 7) rfl g7 0 rfl CL _ (Blk.range hG9) Try.underlying33 rfl (by rw [hlen]; kernel_rfl) ?_
    simp only [Act.put, List.setIfInBounds_toArray, List.set_cons_zero, List.set_cons_succ]
    refine wpList_store_mid rfl 33 (.tmp 5) (.tmp 42) rfl gs 0 CL.toArray rfl rfl (Blk.there hS9 (by rw [List.size_toArray, List.size_toArray, stCells_length, hlen]; decide)) hsz9 hone ?_
    have hne9 : bk ≠ gs := by have := h3.lt; omega
    have hS10 : Blk (w9.setCells gs 0 CL.toArray.toList) gs 33 CL.toArray := hS9.whole CL (by rw [List.size_toArray, stCells_length, hlen])
    have hK10 : Blk (w9.setCells gs 0 CL.toArray.toList) bk 66 #[.int .i64 a, .int .i64 b] := hK9.farC hne9 0 CL
    have hJ10 := HJ.out m _ w9 (w9.setCells gs 0 CL.toArray.toList) (some gs) hJ9 (grownBy_setCells _ _ _ _) (fun r e => by cases e; exact ⟨hge4, hg4, _, hS9, rfl⟩)
    have hz10 : m ≤ (w9.setCells gs 0 CL.toArray.toList).heap.size := by rw [setCells_size]; omega
    obtain ⟨w10, hw10⟩ : ∃ w10, w9.setCells gs 0 CL.toArray.toList = w10 := ⟨_, rfl⟩
    rw [hw10] at hS10 hK10 hJ10 hz10 ⊢
    simp only [Act.put, List.setIfInBounds_toArray, List.set_cons_zero, List.set_cons_succ]
    refine wpList_nil ?_
    clear hw10 hG9 hS9 hK9 hone hsz9 hlg9 hls9 HG8 HS8 HK8 HO8 HN8 hk9
    go_wp2_with fail
    go_roundw
    · refine ⟨k + 1, pre ++ [⟨x, y, T', L', AN, cN⟩], by omega, by push_cast; rfl, Lib.hid ?_, Lib.hid hJ10, Lib.hid ?_, Lib.hid hK10, hz10⟩
      · rw [List.map_append, HP.out, HPN.out]; rfl
      · rw [HTN.out, hCL]; exact hS10
    · have e1 : intOf (Value.int .i64 ((k : Int) + 1)) = (k : Int) + 1 := rfl
      have e2 : intOf (Value.int .i64 (k : Int)) = (k : Int) := rfl
      rw [e1, e2]; omega
  · have hkN : k = N := by omega
    rw [hkN] at HP
    go_wp2_with fail
    go_end0
    exact ⟨⟨_, rfl⟩, m, pre, hWm, HP.out, HJK.out⟩
end Go.Proofs.Ytnaclkaapicelaa

namespace Go.Proofs.Ytnaclkaapicelaa
open Go.RowKit
/-- A world come of w: of the blocks that were there none but those of X may have turned. -/
structure ComeX (X : Nat → Prop) (w W : World) : Prop where
  os : W.os = w.os
  tape : W.tape = w.tape
  output : W.output = w.output
  size : w.heap.size ≤ W.heap.size
  block : ∀ k, k < w.heap.size → ¬ X k → W.heap[k]? = w.heap[k]?
theorem ComeX.refl (X : Nat → Prop) (w : World) : ComeX X w w := ⟨rfl, rfl, rfl, Nat.le_refl _, fun _ _ _ => rfl⟩
theorem ComeX.trans {X : Nat → Prop} {w W U : World} (h : ComeX X w W) (k : ComeX X W U) : ComeX X w U :=
  ⟨k.os.trans h.os, k.tape.trans h.tape, k.output.trans h.output, Nat.le_trans h.size k.size, fun i hi hx => (k.block i (Nat.lt_of_lt_of_le hi h.size) hx).trans (h.block i hi hx)⟩
theorem ComeX.grown {X : Nat → Prop} {w W U : World} {row : Option Nat} (h : ComeX X w W) (k : W.grownBy U row) (hr : ∀ r, row = some r → r < w.heap.size → X r) : ComeX X w U :=
  ⟨k.os.trans h.os, k.tape.trans h.tape, k.output.trans h.output, Nat.le_trans h.size k.size, fun i hi hx => (k.block i (Nat.lt_of_lt_of_le hi h.size) (fun e => hx (hr i e.symm hi))).trans (h.block i hi hx)⟩
theorem ComeX.below {X : Nat → Prop} {w W U : World} (h : ComeX X w W) (k : Below W.heap.size W U) : ComeX X w U :=
  ⟨k.os.trans h.os, k.tape.trans h.tape, k.output.trans h.output, Nat.le_trans h.size k.size, fun i hi hx => (k.block i (Nat.lt_of_lt_of_le hi h.size)).trans (h.block i hi hx)⟩
theorem ComeX.cell {X : Nat → Prop} {w W : World} (h : ComeX X w W) {b o : Nat} (hb : b < w.heap.size) (hx : ¬ X b) : W.cell? ⟨b, o, none⟩ = w.cell? ⟨b, o, none⟩ := by
  unfold World.cell?
  rw [h.block b hb hx]
theorem ComeX.of_grown (X : Nat → Prop) {w W : World} (h : Grown w W) : ComeX X w W := (ComeX.refl X w).below h
theorem ComeX.blk {X : Nat → Prop} {w W : World} (h : ComeX X w W) {b : Nat} {t : TypeId} {cs : Array Value} (k : Blk w b t cs) (hx : ¬ X b) : Blk W b t cs := (h.block b k.lt hx).trans k
section
variable {P : Program} {ops : Array Oper} {md : Region.Mode} {X : Nat → Prop} {w : World} {kd : Nat → Kd}
def msStep (P : Program) (ops : Array Oper) (X : Nat → Prop) (w : World) (kd : Nat → Kd) (o : Oper) (i : Nat) (K : Act → (World → Prop) → Prop) (a : Act) (D : World → Prop) : Prop :=
  if Region.wanted o (yielded ops a.tmps) = true then
    match kd i with
    | .pure => ∃ v, (∀ W, RunsTo P o a W v) ∧ K (a.put o.dst v) D
    | .held => (∀ W, D W → ComeX X w W) ∧ ∃ v, (∀ W, ComeX X w W → RunsTo P o a W v) ∧ K (a.put o.dst v) D
    | .make => (∀ W, D W → ComeX X w W) ∧ ∃ (S : Value → Prop) (R : Value → World → Prop), (∀ W, D W → Oper.goes P o a W (fun u W' => (S u ∧ R u W') ∧ ComeX X W W')) ∧ ∀ v, S v → Ne (fun W => R v W ∧ ComeX X w W) → K (a.put o.dst v) (fun W => R v W ∧ ComeX X w W)
    | .tail => ∃ (S : Value → Prop) (R : Value → World → Prop), (∀ W, D W → Oper.goes P o a W (fun u W' => S u ∧ R u W')) ∧ ∀ v, S v → Ne (R v) → K (a.put o.dst v) (R v)
  else K (a.put o.dst undef) D
def msOp (P : Program) (ops : Array Oper) (X : Nat → Prop) (w : World) (kd : Nat → Kd) (i : Nat) (K : Act → (World → Prop) → Prop) (a : Act) (D : World → Prop) : Prop :=
  match ops[i]? with
  | none => K a D
  | some o => msStep P ops X w kd o i K a D
theorem msStep_mono {o : Oper} {i : Nat} {a : Act} {D : World → Prop} {K K' : Act → (World → Prop) → Prop} (hne : Ne D) (h : ∀ a D, Ne D → K a D → K' a D) (hh : msStep P ops X w kd o i K a D) : msStep P ops X w kd o i K' a D := by
  unfold msStep at *
  split
  · rename_i hw
    rw [if_pos hw] at hh
    cases hk : kd i <;> rw [hk] at hh <;> simp only at hh ⊢
    · obtain ⟨v, h1, h2⟩ := hh; exact ⟨v, h1, h _ _ hne h2⟩
    · obtain ⟨h0, v, h1, h2⟩ := hh; exact ⟨h0, v, h1, h _ _ hne h2⟩
    · obtain ⟨h0, S, R, h1, h2⟩ := hh; exact ⟨h0, S, R, h1, fun v hv hn => h _ _ hn (h2 v hv hn)⟩
    · obtain ⟨S, R, h1, h2⟩ := hh; exact ⟨S, R, h1, fun v hv hn => h _ _ hn (h2 v hv hn)⟩
  · rename_i hw; rw [if_neg hw] at hh; exact h _ _ hne hh
theorem msOp_mono {i : Nat} {a : Act} {D : World → Prop} {K K' : Act → (World → Prop) → Prop} (hne : Ne D) (h : ∀ a D, Ne D → K a D → K' a D) (hh : msOp P ops X w kd i K a D) : msOp P ops X w kd i K' a D := by
  unfold msOp at *
  split
  · rename_i ho; simp only [ho] at hh; exact h _ _ hne hh
  · rename_i o ho; simp only [ho] at hh; exact msStep_mono hne h hh
theorem msStep_some {o : Oper} {i : Nat} {a : Act} {D : World → Prop} {K : Act → (World → Prop) → Prop} (hne : Ne D) (hh : msStep P ops X w kd o i K a D) : ∃ a' D', Ne D' ∧ K a' D' := by
  unfold msStep at hh
  split at hh
  · cases hk : kd i <;> rw [hk] at hh <;> simp only at hh
    · obtain ⟨v, -, h2⟩ := hh; exact ⟨_, _, hne, h2⟩
    · obtain ⟨-, v, -, h2⟩ := hh; exact ⟨_, _, hne, h2⟩
    · obtain ⟨h0, S, R, h1, h2⟩ := hh
      obtain ⟨W, hW⟩ := hne
      obtain ⟨v, W', ⟨hs, hr⟩, hg⟩ := goes_some (h1 W hW)
      have hn : Ne (fun W => R v W ∧ ComeX X w W) := ⟨W', hr, (h0 W hW).trans hg⟩
      exact ⟨_, _, hn, h2 v hs hn⟩
    · obtain ⟨S, R, h1, h2⟩ := hh
      obtain ⟨W, hW⟩ := hne
      obtain ⟨v, W', hs, hr⟩ := goes_some (h1 W hW)
      exact ⟨_, _, ⟨W', hr⟩, h2 v hs ⟨W', hr⟩⟩
  · exact ⟨_, _, hne, hh⟩
/-- Which kinds may come in either order. -/
def swapS (a b : Kd) : Bool := match a, b with
  | .pure, _ => true
  | _, .pure => true
  | .tail, _ => false
  | _, .tail => false
  | .make, .make => false
  | _, _ => true
theorem msStep_swap {i j : Nat} {oi oj : Oper} (hap : oi.apart ops oj = true) (hsi : ∀ cs b, oi.op ≠ .select cs b) (hsj : ∀ cs b, oj.op ≠ .select cs b) (hk : swapS (kd i) (kd j) = true) {K : Act → (World → Prop) → Prop} {a : Act} {D : World → Prop} (hne : Ne D)
    (h : msStep P ops X w kd oi i (fun a1 D1 => msStep P ops X w kd oj j K a1 D1) a D) : msStep P ops X w kd oj j (fun a2 D2 => msStep P ops X w kd oi i K a2 D2) a D := by
  obtain ⟨h1, h2, h3⟩ := Oper.apart_spec hap
  have ei : ∀ (a : Act) u, execOp (a.put oj.dst u).eval oi = execOp a.eval oi := fun a u => execOp_put oi hsi a oj.dst u h3
  have ej : ∀ (a : Act) u, execOp (a.put oi.dst u).eval oj = execOp a.eval oj := fun a u => execOp_put oj hsj a oi.dst u h1
  have wi : ∀ (a : Act) u, Region.wanted oi (yielded ops (a.put oj.dst u).tmps) = Region.wanted oi (yielded ops a.tmps) := fun a u => wanted_put oi a oj.dst u h3
  have wj : ∀ (a : Act) u, Region.wanted oj (yielded ops (a.put oi.dst u).tmps) = Region.wanted oj (yielded ops a.tmps) := fun a u => wanted_put oj a oi.dst u h1
  have pc : ∀ (a : Act) u v, (a.put oi.dst u).put oj.dst v = (a.put oj.dst v).put oi.dst u := fun a u v => Act.put_comm a u v h2
  have ri : ∀ (a : Act) u W v, RunsTo P oi (a.put oj.dst u) W v ↔ RunsTo P oi a W v := fun a u W v => by unfold RunsTo; rw [ei]
  have rj : ∀ (a : Act) u W v, RunsTo P oj (a.put oi.dst u) W v ↔ RunsTo P oj a W v := fun a u W v => by unfold RunsTo; rw [ej]
  have gi : ∀ (a : Act) u W T, Oper.goes P oi (a.put oj.dst u) W T ↔ Oper.goes P oi a W T := fun a u W T => by unfold Oper.goes; rw [ei]
  have gj : ∀ (a : Act) u W T, Oper.goes P oj (a.put oi.dst u) W T ↔ Oper.goes P oj a W T := fun a u W T => by unfold Oper.goes; rw [ej]
  unfold msStep at h ⊢
  simp only [wi, wj, ri, rj, gi, gj] at h ⊢
  by_cases hwi : Region.wanted oi (yielded ops a.tmps) = true
  · by_cases hwj : Region.wanted oj (yielded ops a.tmps) = true
    · simp only [hwi, hwj, if_true] at h ⊢
      cases hki : kd i <;> cases hkj : kd j <;> rw [hki, hkj] at hk <;> simp only [hki, hkj] at h ⊢
      case tail.tail => simp [swapS] at hk
      case tail.held => simp [swapS] at hk
      case tail.make => simp [swapS] at hk
      case held.tail => simp [swapS] at hk
      case make.tail => simp [swapS] at hk
      case make.make => simp [swapS] at hk
      case pure.pure =>
        obtain ⟨v, hv, u, hu, hK⟩ := h
        exact ⟨u, hu, v, hv, by rw [← pc]; exact hK⟩
      case pure.held =>
        obtain ⟨v, hv, hD, u, hu, hK⟩ := h
        exact ⟨hD, u, hu, v, hv, by rw [← pc]; exact hK⟩
      case pure.make =>
        obtain ⟨v, hv, hD, S, R, hM, hK⟩ := h
        exact ⟨hD, S, R, hM, fun u hu hn => ⟨v, hv, by rw [← pc]; exact hK u hu hn⟩⟩
      case pure.tail =>
        obtain ⟨v, hv, S, R, hg, hK⟩ := h
        exact ⟨S, R, hg, fun u hu hn => ⟨v, hv, by rw [← pc]; exact hK u hu hn⟩⟩
      case held.pure =>
        obtain ⟨hD, v, hv, u, hu, hK⟩ := h
        exact ⟨u, hu, hD, v, hv, by rw [← pc]; exact hK⟩
      case held.held =>
        obtain ⟨hD, v, hv, -, u, hu, hK⟩ := h
        exact ⟨hD, u, hu, hD, v, hv, by rw [← pc]; exact hK⟩
      case held.make =>
        obtain ⟨hD, v, hv, -, S, R, hM, hK⟩ := h
        exact ⟨hD, S, R, hM, fun u hu hn => ⟨fun W hW => hW.2, v, hv, by rw [← pc]; exact hK u hu hn⟩⟩
      case make.pure =>
        obtain ⟨hD, S, R, hM, hK⟩ := h
        obtain ⟨W, hW⟩ := hne
        obtain ⟨v0, W', ⟨hs0, hr0⟩, hg0⟩ := goes_some (hM W hW)
        obtain ⟨u, hu, -⟩ := hK v0 hs0 ⟨W', hr0, (hD W hW).trans hg0⟩
        refine ⟨u, hu, hD, S, R, hM, fun v hv hn => ?_⟩
        obtain ⟨u', hu', hK'⟩ := hK v hv hn
        have : u' = u := runsTo_uniq (hu' W) (hu W)
        subst this
        rw [← pc]; exact hK'
      case make.held =>
        obtain ⟨hD, S, R, hM, hK⟩ := h
        obtain ⟨W, hW⟩ := hne
        obtain ⟨v0, W', ⟨hs0, hr0⟩, hg0⟩ := goes_some (hM W hW)
        obtain ⟨-, u, hu, -⟩ := hK v0 hs0 ⟨W', hr0, (hD W hW).trans hg0⟩
        refine ⟨hD, u, hu, hD, S, R, hM, fun v hv hn => ?_⟩
        obtain ⟨-, u', hu', hK'⟩ := hK v hv hn
        have : u' = u := runsTo_uniq (hu' w (ComeX.refl X w)) (hu w (ComeX.refl X w))
        subst this
        rw [← pc]; exact hK'
      case tail.pure =>
        obtain ⟨S, R, hg, hK⟩ := h
        obtain ⟨W, hW⟩ := hne
        obtain ⟨v0, W', hs0, hr0⟩ := goes_some (hg W hW)
        obtain ⟨u, hu, -⟩ := hK v0 hs0 ⟨W', hr0⟩
        refine ⟨u, hu, S, R, hg, fun v hv hn => ?_⟩
        obtain ⟨u', hu', hK'⟩ := hK v hv hn
        have : u' = u := runsTo_uniq (hu' W) (hu W)
        subst this
        rw [← pc]; exact hK'
    · simp only [hwi, hwj, if_true, Bool.false_eq_true, if_false] at h ⊢
      cases hki : kd i <;> simp only [hki] at h ⊢
      · obtain ⟨v, hv, hK⟩ := h; exact ⟨v, hv, by rw [← pc]; exact hK⟩
      · obtain ⟨hD, v, hv, hK⟩ := h; exact ⟨hD, v, hv, by rw [← pc]; exact hK⟩
      · obtain ⟨hD, S, R, hM, hK⟩ := h; exact ⟨hD, S, R, hM, fun v hv hn => by rw [← pc]; exact hK v hv hn⟩
      · obtain ⟨S, R, hg, hK⟩ := h; exact ⟨S, R, hg, fun v hv hn => by rw [← pc]; exact hK v hv hn⟩
  · by_cases hwj : Region.wanted oj (yielded ops a.tmps) = true
    · simp only [hwi, hwj, if_true, Bool.false_eq_true, if_false] at h ⊢
      cases hkj : kd j <;> simp only [hkj] at h ⊢
      · obtain ⟨v, hv, hK⟩ := h; exact ⟨v, hv, by rw [← pc]; exact hK⟩
      · obtain ⟨hD, v, hv, hK⟩ := h; exact ⟨hD, v, hv, by rw [← pc]; exact hK⟩
      · obtain ⟨hD, S, R, hM, hK⟩ := h; exact ⟨hD, S, R, hM, fun v hv hn => by rw [← pc]; exact hK v hv hn⟩
      · obtain ⟨S, R, hg, hK⟩ := h; exact ⟨S, R, hg, fun v hv hn => by rw [← pc]; exact hK v hv hn⟩
    · simp only [hwi, hwj, Bool.false_eq_true, if_false] at h ⊢
      rw [← pc]; exact h
def wpAnyS (P : Program) (md : Region.Mode) (ops : Array Oper) (X : Nat → Prop) (w : World) (kd : Nat → Kd) (E : Act → (World → Prop) → Prop) : Nat → Array Bool → Act → (World → Prop) → Prop
  | 0, listed, a, D => Region.ready md ops listed = [] ∧ E a D
  | f + 1, listed, a, D => (Region.ready md ops listed = [] → E a D) ∧ ∀ i ∈ Region.ready md ops listed, msOp P ops X w kd i (wpAnyS P md ops X w kd E f (listed.setIfInBounds i true)) a D
theorem wpOp_of_msOp {i : Nat} {a : Act} {D : World → Prop} {K : Act → (World → Prop) → Prop} {K' : Act → World → Prop} {Q' : Exit → Act → World → Prop} {W : World} (hW : D W)
    (h : ∀ a D W', D W' → K a D → K' a W') (hh : msOp P ops X w kd i K a D) : wpOp P ops Q' i K' a W := by
  unfold msOp at hh
  unfold wpOp
  split
  · rename_i ho; simp only [ho] at hh; exact h _ _ _ hW hh
  · rename_i o ho
    simp only [ho] at hh
    unfold msStep at hh
    split
    · rename_i hw
      rw [if_pos hw] at hh
      left
      cases hk : kd i <;> rw [hk] at hh <;> simp only at hh
      · obtain ⟨v, h1, h2⟩ := hh
        have h1 := h1 W
        unfold RunsTo at h1
        unfold Oper.wp
        rw [h1]
        exact h _ _ _ hW h2
      · obtain ⟨hD, v, h1, h2⟩ := hh
        have h1 := h1 W (hD W hW)
        unfold RunsTo at h1
        unfold Oper.wp
        rw [h1]
        exact h _ _ _ hW h2
      · obtain ⟨hD, S, R, hM, hK⟩ := hh
        exact Oper.wp_of_goes (hM W hW) fun v W' ⟨⟨hs, hr⟩, hg⟩ => h _ _ W' ⟨hr, (hD W hW).trans hg⟩ (hK v hs ⟨W', hr, (hD W hW).trans hg⟩)
      · obtain ⟨S, R, hg, hK⟩ := hh
        exact Oper.wp_of_goes (hg W hW) fun v W' ⟨hs, hr⟩ => h _ _ W' hr (hK v hs ⟨W', hr⟩)
    · rename_i hw; rw [if_neg hw] at hh; exact h _ _ _ hW hh
theorem wpAny_of_S {Q : Exit → Act → World → Prop} : ∀ (f : Nat) (listed : Array Bool) (a : Act) (D : World → Prop) (W : World), D W → wpAnyS P md ops X w kd (fun a D => ∀ W, D W → Q .normal a W) f listed a D → wpAny P md ops Q f listed a W
  | 0, _, _, _, _, hW, h => ⟨h.1, h.2 _ hW⟩
  | f + 1, _, _, _, _, hW, h => ⟨fun h0 => h.1 h0 _ hW, fun i hi => wpOp_of_msOp hW (fun a' D' W' hW' h' => wpAny_of_S f _ a' D' W' hW' h') (h.2 i hi)⟩
theorem wpAnyS_first {E : Act → (World → Prop) → Prop} {i : Nat} {oi : Oper} (hi : ops[i]? = some oi) (hsel : ∀ (j : Nat) (o : Oper) cs b, ops[j]? = some o → o.op ≠ .select cs b)
    (hsw : ∀ j, j < ops.size → j ≠ i → swapS (kd i) (kd j) = false → waitsT md ops 3 j i = true ∨ waitsT md ops 3 i j = true) :
    ∀ (f : Nat) (listed : Array Bool) (a : Act) (D : World → Prop), Ne D → Closed md ops listed →
      (∀ j oj, ops[j]? = some oj → j ≠ i → listed.getD j true = false → (∀ e ∈ oj.after, Region.binds md e = true → e.on ≠ i) → oi.apart ops oj = true) →
      i ∈ Region.ready md ops listed → msOp P ops X w kd i (wpAnyS P md ops X w kd E f (listed.setIfInBounds i true)) a D → wpAnyS P md ops X w kd E (f + 1) listed a D := by
  intro f
  induction f with
  | zero =>
    intro listed a D hne _ _ hr H
    refine ⟨fun h => (by rw [h] at hr; cases hr), fun j hj => ?_⟩
    by_cases hji : j = i
    · subst hji; exact H
    · unfold msOp at H
      rw [hi] at H
      obtain ⟨a', D', -, h0, -⟩ := msStep_some hne H
      have := ready_mono hj hji
      rw [h0] at this; cases this
  | succ f ih =>
    intro listed a D hne hcl hfree hr H
    refine ⟨fun h => (by rw [h] at hr; cases hr), fun j hj => ?_⟩
    by_cases hji : j = i
    · subst hji; exact H
    · obtain ⟨hjun, oj, hoj, hall⟩ := mem_ready.1 hj
      have hun := (mem_ready.1 hr).1
      have hnot : ∀ e ∈ oj.after, Region.binds md e = true → e.on ≠ i := fun e he hb heq => by
        have h1 := hall e he hb
        rw [heq, getD_both hun] at h1
        cases h1
      have hap := hfree j oj hoj hji hjun hnot
      have hswap : swapS (kd i) (kd j) = true := by
        cases hs : swapS (kd i) (kd j) with
        | true => rfl
        | false =>
          rcases hsw j (Array.getElem?_eq_some_iff.1 hoj).1 hji hs with h1 | h1
          · have h2 := waitsT_ready hcl 3 j i hj h1
            rw [getD_both hun] at h2; cases h2
          · have h2 := waitsT_ready hcl 3 i j hr h1
            rw [getD_both hjun] at h2; cases h2
      have hfree' : ∀ k ok, ops[k]? = some ok → k ≠ i → (listed.setIfInBounds j true).getD k true = false →
          (∀ e ∈ ok.after, Region.binds md e = true → e.on ≠ i) → oi.apart ops ok = true := fun k ok hk hki hun' hno => by
        refine hfree k ok hk hki ?_ hno
        by_cases hjk : j = k
        · subst hjk; exact hjun
        · rw [getD_set_ne true hjk] at hun'; exact hun'
      have hri := ready_mono hr (Ne.symm hji)
      unfold msOp at H
      rw [hi] at H
      have H2 : msStep P ops X w kd oi i (fun a1 D1 => msStep P ops X w kd oj j (wpAnyS P md ops X w kd E f ((listed.setIfInBounds i true).setIfInBounds j true)) a1 D1) a D :=
        msStep_mono hne (fun a1 D1 _ hK => by
          have := hK.2 j (ready_mono hj hji)
          unfold msOp at this
          rw [hoj] at this
          exact this) H
      have H3 := msStep_swap hap (fun cs b => hsel i oi cs b hi) (fun cs b => hsel j oj cs b hoj) hswap hne H2
      unfold msOp
      rw [hoj]
      refine msStep_mono hne (fun a2 D2 hne2 h3 => ih (listed.setIfInBounds j true) a2 D2 hne2 (hcl.set hj) hfree' hri ?_) H3
      unfold msOp
      rw [hi, Array.setIfInBounds_comm _ _ hji]
      exact h3
def wpMixS (P : Program) (ops : Array Oper) (X : Nat → Prop) (w : World) (kd : Nat → Kd) (E : Act → (World → Prop) → Prop) : List Oper → Nat → Act → (World → Prop) → Prop
  | [], _, a, D => E a D
  | o :: rest, k, a, D => msStep P ops X w kd o k (wpMixS P ops X w kd E rest (k + 1)) a D
def mixSB (md : Region.Mode) (ops : Array Oper) (kd : Nat → Kd) : Bool :=
  Region.lexB md ops && (List.range ops.size).all fun i => (List.range ops.size).all fun j => decide (j = i) || (swapS (kd i) (kd j) || (waitsT md ops 3 j i || waitsT md ops 3 i j))
theorem wpAnyS_lex {E : Act → (World → Prop) → Prop} (hs : Region.noSelect ops = true) (hsw : ∀ i j, i < ops.size → j < ops.size → j ≠ i → swapS (kd i) (kd j) = false → waitsT md ops 3 j i = true ∨ waitsT md ops 3 i j = true) :
    ∀ (l : List Oper) (k : Nat) (listed : Array Bool) (a : Act) (D : World → Prop), Ne D → Closed md ops listed → (∀ j, l[j]? = ops[k + j]?) →
    Region.lexFrom md ops l.length k listed = true → wpMixS P ops X w kd E l k a D → wpAnyS P md ops X w kd E l.length listed a D
  | [], _, _, _, _, _, _, _, hB, h => ⟨by simpa [Region.lexFrom] using hB, h⟩
  | o :: l, k, listed, a, D, hne, hcl, hl, hB, h => by
    have h0 : ops[k]? = some o := by simpa using (hl 0).symm
    simp only [List.length_cons, Region.lexFrom, Bool.and_eq_true] at hB
    obtain ⟨⟨hr, hf⟩, hB'⟩ := hB
    have hk : k < ops.size := (Array.getElem?_eq_some_iff.1 h0).1
    refine wpAnyS_first h0 (Region.noSelect_spec hs) (fun j hjl hj hsw' => hsw k j hk hjl hj hsw') l.length listed a D hne hcl (Region.free_spec h0 hf) (by simpa using hr) ?_
    unfold msOp
    rw [h0]
    exact msStep_mono hne (fun a' D' hne' h' => wpAnyS_lex hs hsw l (k + 1) _ a' D' hne' (hcl.set (by simpa using hr)) (fun j => by have := hl (j + 1); simpa [Nat.add_assoc, Nat.add_comm 1 j] using this) hB' h') h
/-- **The law**, before it is a region. -/
theorem any_mixedS {Q : Exit → Act → World → Prop} {a : Act} {w : World} {l : List Oper} (X : Nat → Prop) (kds : List Kd) (hB : mixSB .any l.toArray (fun i => kds.getD i .pure) = true)
    (h : wpMixS P l.toArray X w (fun i => kds.getD i .pure) (fun a D => ∀ W, D W → Q .normal a W) l 0 a (Grown w)) : wpAny P .any l.toArray Q l.toArray.size (Array.replicate l.toArray.size false) a { w with drawn := w.drawn + 1 } := by
  simp only [mixSB, Bool.and_eq_true] at hB
  obtain ⟨hlex, hall⟩ := hB
  simp only [Region.lexB, Bool.and_eq_true] at hlex
  have hg0 : Grown w { w with drawn := w.drawn + 1 } := (Below.refl _ _).drew
  refine (wpAny_of_S (X := X) (w := w) (kd := fun i => kds.getD i .pure) _ _ _ (Grown w) _ hg0 ?_)
  have := wpAnyS_lex (P := P) (md := .any) (X := X) (w := w) (kd := fun i => kds.getD i .pure) (E := fun a D => ∀ W, D W → Q .normal a W) hlex.1 (fun i j hi hjl hj hs => by
    have h1 := List.all_eq_true.1 (List.all_eq_true.1 hall i (List.mem_range.2 hi)) j (List.mem_range.2 hjl)
    simp only [Bool.or_eq_true, decide_eq_true_eq] at h1
    rcases h1 with h1 | h1 | h1 | h1
    · exact absurd h1 hj
    · rw [hs] at h1; cases h1
    · exact .inl h1
    · exact .inr h1) l 0 (Array.replicate l.toArray.size false) a (Grown w) ⟨w, Grown.refl w⟩ (Closed.none _ _ _) (by simp) (by simpa using hlex.2) h
  simpa using this
theorem wp_region_mixedS {id : Nat} {Q : Exit → Act → World → Prop} {a : Act} {w : World} {l : List Oper} (X : Nat → Prop) (kds : List Kd) (hm : P.follows .mixedOrders = true) (hB : mixSB .any l.toArray (fun i => kds.getD i .pure) = true)
    (h : wpMixS P l.toArray X w (fun i => kds.getD i .pure) (fun a D => ∀ W, D W → Q .normal a W) l 0 a (Grown w)) : (Code.region id l.toArray true).wp P Q a w :=
  wp_region_any hm (any_mixedS X kds hB h)
/-! ### the walk's steps -/
structure ExtX (X : Nat → Prop) (w : World) where
  world : World
  come : ComeX X w world
instance ExtX.some (X : Nat → Prop) (w : World) : Nonempty (ExtX X w) := ⟨⟨w, ComeX.refl X w⟩⟩
theorem ExtX.cell (x : ExtX X w) (b o : Nat) (hb : b < w.heap.size) (hx : ¬ X b) : x.world.cell? ⟨b, o, none⟩ = w.cell? ⟨b, o, none⟩ := x.come.cell hb hx
attribute [go_sem] ExtX.cell
section
variable {E : Act → (World → Prop) → Prop} {a : Act} {o : Oper} {rest : List Oper} {k : Nat} {D : World → Prop}
theorem mixS_skip (hw : Region.wanted o (yielded ops a.tmps) = false) (h : wpMixS P ops X w kd E rest (k + 1) (a.put o.dst undef) D) : wpMixS P ops X w kd E (o :: rest) k a D := by
  unfold wpMixS msStep
  rw [if_neg (by rw [hw]; decide)]
  exact h
theorem mixS_pure (hw : Region.wanted o (yielded ops a.tmps) = true) (hk : kd k = .pure) (hp : valOp o.op = true)
    (h : ∀ K : Act → Prop, (∀ a, wpMixS P ops X w kd E rest (k + 1) a D → K a) → o.quiet P a (fun _ => True) K) : wpMixS P ops X w kd E (o :: rest) k a D := by
  unfold wpMixS msStep
  rw [if_pos hw, hk]
  obtain ⟨v, h1, h2⟩ := h _ fun _ h => h
  exact ⟨v, fun W => runs_of_quiet hp (h1 W trivial), h2⟩
theorem mixS_held (hw : Region.wanted o (yielded ops a.tmps) = true) (hk : kd k = .held) (hp : valOp o.op = true) (hD : ∀ W, D W → ComeX X w W)
    (h : ∀ K : Act → Prop, (∀ a, wpMixS P ops X w kd E rest (k + 1) a D → K a) → o.quiet P a (fun w' => ∃ x : ExtX X w, w' = x.world) K) : wpMixS P ops X w kd E (o :: rest) k a D := by
  unfold wpMixS msStep
  rw [if_pos hw, hk]
  obtain ⟨v, h1, h2⟩ := h _ fun _ h => h
  exact ⟨hD, v, fun W hW => runs_of_quiet hp (h1 W ⟨⟨W, hW⟩, rfl⟩), h2⟩
theorem mixS_load (hw : Region.wanted o (yielded ops a.tmps) = true) (hk : kd k = .held) (hD : ∀ W, D W → ComeX X w W) (ty : TypeId) (x : Operand) (ho : o.op = .load ty x)
    (b i : Nat) (hx : a.eval x = .pointer (some ⟨b, i, none⟩)) (cs : List Value) (d : TypeDesc) (hb : b < w.heap.size) (hx2 : ¬ X b) (hc : w.rangeAt b i cs)
    (hu : P.underlying ty = some d) (hd : d.isRow = true) (hi : (P.info? ty).map (·.size) = some cs.length)
    (h : wpMixS P ops X w kd E rest (k + 1) (a.put o.dst (.agg cs.toArray)) D) : wpMixS P ops X w kd E (o :: rest) k a D := by
  unfold wpMixS msStep
  rw [if_pos hw, hk]
  refine ⟨hD, _, fun W hW => ?_, h⟩
  have hc' : W.rangeAt b i cs := fun j v hv => (hW.cell hb hx2).trans (hc j v hv)
  unfold RunsTo execOp
  simp only [ho, hx, Instr.loadAt, Instr.sureAddr, Sem.run_bind, Sem.run_pure, Result.andThen_ok, run_loadVar_mid W b i ty cs d hc' hu hd hi]
theorem mixS_act (hw : Region.wanted o (yielded ops a.tmps) = true) (hk : kd k = .make) (hD : ∀ W, D W → ComeX X w W) (S : Value → Prop) (R : Value → World → Prop) (hM : ∀ W, D W → Oper.goes P o a W (fun u W' => (S u ∧ R u W') ∧ ComeX X W W'))
    (h : ∀ v, S v → wpMixS P ops X w kd E rest (k + 1) (a.put o.dst v) (fun W => R v W ∧ ComeX X w W)) : wpMixS P ops X w kd E (o :: rest) k a D := by
  unfold wpMixS msStep
  rw [if_pos hw, hk]
  exact ⟨hD, S, R, hM, fun v hv _ => h v hv⟩
/-- A last operation that writes. -/
theorem mixS_tail (hw : Region.wanted o (yielded ops a.tmps) = true) (hk : kd k = .tail) (T : World → World) (hT : ∀ W, D W → (execOp a.eval o).run P W = .ok .skip (T W))
    (h : wpMixS P ops X w kd E rest (k + 1) (a.put o.dst undef) (fun W' => ∃ W, D W ∧ W' = T W)) : wpMixS P ops X w kd E (o :: rest) k a D := by
  unfold wpMixS msStep
  rw [if_pos hw, hk]
  refine ⟨fun v => v = undef, fun _ W' => ∃ W, D W ∧ W' = T W, fun W hW => ?_, fun v hv _ => by subst hv; exact h⟩
  unfold Oper.goes
  rw [hT W hW]
  exact ⟨rfl, W, hW, rfl⟩
theorem mixS_store (hw : Region.wanted o (yielded ops a.tmps) = true) (hk : kd k = .tail) (ty : TypeId) (x y : Operand) (ho : o.op = .store ty x y)
    (b i : Nat) (cs : Array Value) (hx : a.eval x = .pointer (some ⟨b, i, none⟩)) (hy : a.eval y = .agg cs) (ht : ∀ W, D W → W.there b i cs.size) (hi : (P.info? ty).map (·.size) = some cs.size) (h1 : cs.all (·.oneCell') = true)
    (h : wpMixS P ops X w kd E rest (k + 1) (a.put o.dst undef) (fun W' => ∃ W, D W ∧ W' = W.setCells b i cs.toList)) : wpMixS P ops X w kd E (o :: rest) k a D :=
  mixS_tail hw hk (fun W => W.setCells b i cs.toList) (fun W hW => by
    unfold execOp
    simp only [ho, hx, hy, Instr.storeAt, Instr.sureAddr, Sem.run_bind, Sem.run_pure, Result.andThen_ok, run_storeVar_mid W b i ty cs (ht W hW) hi h1]) h
theorem mixS_nil (h : E a D) : wpMixS P ops X w kd E [] k a D := h
end
end
end Go.Proofs.Ytnaclkaapicelaa

namespace Go.Proofs.Ytnaclkaapicelaa
open Go.RowKit
set_option maxRecDepth 100000
theorem blk_at {w : World} {g : Nat} {E : TypeId} {cs : Array Value} (h : g = w.heap.size) : Blk (w.alloc (.cells cs E)) g E cs := by subst h; exact Blk.new _ _ _
theorem bcl {W w1 : World} (hb : Below W.heap.size W w1) : (∀ b o, b < W.heap.size → w1.cell? ⟨b, o, none⟩ = W.cell? ⟨b, o, none⟩) ∧ (∀ b o, b < W.heap.size → w1.frozen? ⟨b, o, none⟩ = W.frozen? ⟨b, o, none⟩) :=
  ⟨fun b o h => hb.cell (p := ⟨b, o, none⟩) h, fun b o h => hb.frozen (p := ⟨b, o, none⟩) h⟩
set_option maxHeartbeats 1000000 in
theorem r11Key_any (k : Key4) (w : World) : Calls Try.prog 142 #[k.val] w fun e w' => e = .returned (.bool (keyOk k)) ∧ Below w.heap.size w w' := by
  unfold Key4.val
  go_enter Try.func142, Try.ntmps142
  go_wp2
  all_goals
    go_ret
    refine ⟨ret_bool ?_, (by repeat (first | exact Below.refl _ _ | (with_reducible assumption) | apply bAlloc | apply below_drewN | apply Below.drew))⟩
    unfold keyOk inB
    first
      | (simp [*]; done)
      | (simp [*]; omega)
set_option maxHeartbeats 2000000 in
theorem r11Right_any (x : Ev) (w : World) : Calls Try.prog 127 #[x.val] w fun e w' => e = .returned (.bool (evOk x)) ∧ Below w.heap.size w w' := by
  unfold Ev.val
  go_enter Try.func127, Try.ntmps127
  go_wp2_with fail
  refine (r11Key_any x.key _).mono ?_
  rintro e w1 ⟨rfl, hb1⟩
  have hbk := (Blk.new w 45 #[.int .i64 x.frame, .int .i64 x.emitter, .int .i64 x.kind, .int .i64 x.ord, .int .i64 x.asset, .int .i64 x.gain, .int .i64 x.pan, .int .i64 x.prio, .int .i64 x.len]).on hb1
  have c4 := hbk.cell 4
  have c5 := hbk.cell 5
  have c6 := hbk.cell 6
  have c7 := hbk.cell 7
  have c8 := hbk.cell 8
  simp only [List.getElem?_toArray, List.getElem?_cons_zero, List.getElem?_cons_succ] at c4 c5 c6 c7 c8
  have hbw := bTrans (bAlloc (Below.refl w.heap.size w) (.cells #[.int .i64 x.frame, .int .i64 x.emitter, .int .i64 x.kind, .int .i64 x.ord, .int .i64 x.asset, .int .i64 x.gain, .int .i64 x.pan, .int .i64 x.prio, .int .i64 x.len] 45)) hb1
  clear hbk hb1
  cases hk : keyOk x.key
  all_goals
    have HK := Lib.hid hk
    clear hk
    go_wp2
    all_goals
      go_ret
      refine ⟨ret_bool ?_, hbw⟩
      unfold evOk inB
      first
        | (simp [HK.out, *]; done)
        | (simp [HK.out, *]; omega)
/-- The numbers of a key, by place. -/
def Key4.at (k : Key4) (i : Nat) : Int := if i = 0 then k.frame else if i = 1 then k.emitter else if i = 2 then k.kind else k.ord
theorem cmpK_at (a b : Key4) (k : Nat) (hk : k < 4) (h : ∀ j, j < k → a.at j = b.at j) : (a.at k < b.at k → cmpK a b = -1) ∧ (b.at k < a.at k → cmpK a b = 1) := by
  have hlt : ∀ a b : Key4, (∀ j, j < k → a.at j = b.at j) → a.at k < b.at k → a.Lt b := fun a b h hk' => by
    have h4 : k = 0 ∨ k = 1 ∨ k = 2 ∨ k = 3 := by omega
    unfold Key4.Lt
    rcases h4 with rfl | rfl | rfl | rfl
    · have h0 : a.frame < b.frame := hk'
      omega
    · have h0 : a.frame = b.frame := h 0 (by decide)
      have h1 : a.emitter < b.emitter := hk'
      omega
    · have h0 : a.frame = b.frame := h 0 (by decide)
      have h1 : a.emitter = b.emitter := h 1 (by decide)
      have h2 : a.kind < b.kind := hk'
      omega
    · have h0 : a.frame = b.frame := h 0 (by decide)
      have h1 : a.emitter = b.emitter := h 1 (by decide)
      have h2 : a.kind = b.kind := h 2 (by decide)
      have h3 : a.ord < b.ord := hk'
      omega
  have hb := cmpK_bd a b
  refine ⟨fun q => ?_, fun q => ?_⟩
  · have := (cmpK_neg a b).2 (hlt a b h q)
    omega
  · have := (cmpK_pos a b).2 (hlt b a (fun j hj => (h j hj).symm) q)
    omega
theorem cmpK_all (a b : Key4) (h : ∀ j, j < 4 → a.at j = b.at j) : cmpK a b = 0 := by
  rw [cmpK_zero]
  cases a; cases b
  have h0 := h 0 (by decide)
  have h1 := h 1 (by decide)
  have h2 := h 2 (by decide)
  have h3 := h 3 (by decide)
  exact Key4.mk.injEq .. ▸ ⟨h0, h1, h2, h3⟩
set_option maxHeartbeats 4000000 in
theorem r11Compare_any (a b : Key4) (w : World) : Calls Try.prog 143 #[a.val, b.val] w fun e w' => e = .returned (.int .i64 (cmpK a b)) ∧ Below w.heap.size w w' := by
  unfold Key4.val
  go_enter Try.func143, Try.ntmps143
  go_upto_region 3 with fail
  obtain ⟨W, hW⟩ : ∃ W, W = (((w.alloc (.cells #[.int .i64 a.frame, .int .i64 a.emitter, .int .i64 a.kind, .int .i64 a.ord] 43)).alloc (.cells #[.int .i64 b.frame, .int .i64 b.emitter, .int .i64 b.kind, .int .i64 b.ord] 43)).alloc (.cells #[.int .i64 a.frame, .int .i64 a.emitter, .int .i64 a.kind, .int .i64 a.ord] 3)).alloc (.cells #[.int .i64 b.frame, .int .i64 b.emitter, .int .i64 b.kind, .int .i64 b.ord] 3) := ⟨_, rfl⟩
  rw [← hW]
  have hka : Blk W (w.heap.size + 1 + 1) 3 #[.int .i64 a.frame, .int .i64 a.emitter, .int .i64 a.kind, .int .i64 a.ord] := by rw [hW]; exact (by repeat (first | ((with_reducible refine blk_at ?_); first | rfl | (simp; done)) | (with_reducible refine Blk.alloc ?_ _) | (with_reducible refine Blk.drew ?_)))
  have hkb : Blk W (w.heap.size + 1 + 1 + 1) 3 #[.int .i64 b.frame, .int .i64 b.emitter, .int .i64 b.kind, .int .i64 b.ord] := by rw [hW]; exact (by repeat (first | ((with_reducible refine blk_at ?_); first | rfl | (simp; done)) | (with_reducible refine Blk.alloc ?_ _) | (with_reducible refine Blk.drew ?_)))
  have hbw : Below w.heap.size w W := by rw [hW]; exact bAlloc (bAlloc (bAlloc (bAlloc (Below.refl _ _) _) _) _) _
  have HA : Hid (∀ j, j < 4 → W.cell? ⟨w.heap.size + 1 + 1, j, none⟩ = some (.int .i64 (a.at j))) := Lib.hid (fun j hj => by
    rw [hka.cell]
    obtain rfl | rfl | rfl | rfl : j = 0 ∨ j = 1 ∨ j = 2 ∨ j = 3 := by omega
    all_goals rfl)
  have HB : Hid (∀ j, j < 4 → W.cell? ⟨w.heap.size + 1 + 1 + 1, j, none⟩ = some (.int .i64 (b.at j))) := Lib.hid (fun j hj => by
    rw [hkb.cell]
    obtain rfl | rfl | rfl | rfl : j = 0 ∨ j = 1 ∨ j = 2 ∨ j = 3 := by omega
    all_goals rfl)
  clear hW hka hkb
  go_wp2_with fail
  go_loopw [7] (fun v wr => ∃ k : Nat, k ≤ 4 ∧ v = .int .i64 k ∧ Hid (∀ j, j < k → a.at j = b.at j) ∧ (∃ n, wr = W.drewN n)) (fun v _ => 4 - (intOf v).toNat)
  case atStart => exact ⟨0, by decide, rfl, Lib.hid (fun j hj => absurd hj (Nat.not_lt_zero j)), 0, rfl⟩
  case round =>
    obtain ⟨k, hk, rfl, HE, n, rfl⟩ := hrel
    by_cases hlt : k < 4
    · have c1 := HA.out k hlt
      have c2 := HB.out k hlt
      obtain ⟨x, hx⟩ : ∃ x, a.at k = x := ⟨_, rfl⟩
      obtain ⟨y, hy⟩ : ∃ y, b.at k = y := ⟨_, rfl⟩
      rw [hx] at c1
      rw [hy] at c2
      have HX := Lib.hid hx
      have HY := Lib.hid hy
      have HC := Lib.hid (cmpK_at a b k hlt HE.out)
      clear hx hy
      rcases Int.lt_trichotomy x y with h | h | h
      · have HR : Hid (cmpK a b = -1) := Lib.hid (HC.out.1 (by rw [HX.out, HY.out]; exact h))
        go_wp2_with fail
        go_quiet (fail)
        go_wp2
        go_ret
        exact ⟨ret_int HR.out.symm, (by first | exact below_drewN (below_drewN (below_drewN hbw _) _) _ | exact below_drewN (below_drewN hbw _) _ | exact below_drewN hbw _)⟩
      · have h1 : decide (x < y) = false := decide_eq_false (by omega)
        have h2 : decide (y < x) = false := decide_eq_false (by omega)
        have HN : Hid (∀ j, j < k + 1 → a.at j = b.at j) := Lib.hid (fun j hj => by
          rcases Nat.lt_or_ge j k with q | q
          · exact HE.out j q
          · obtain rfl : j = k := by omega
            rw [HX.out, HY.out, h])
        clear h
        go_wp2_with fail
        go_quiet (fail)
        go_wp2_with fail
        go_quiet (fail)
        go_wp2
        go_roundw
        case rel => exact ⟨k + 1, by omega, by go_num, HN, _, rfl⟩
        case measure => simp [intOf]; omega
      · have h1 : decide (x < y) = false := decide_eq_false (by omega)
        have HR : Hid (cmpK a b = 1) := Lib.hid (HC.out.2 (by rw [HX.out, HY.out]; exact h))
        go_wp2_with fail
        go_quiet (fail)
        go_wp2_with fail
        go_quiet (fail)
        go_wp2
        go_ret
        exact ⟨ret_int HR.out.symm, (by first | exact below_drewN (below_drewN (below_drewN hbw _) _) _ | exact below_drewN (below_drewN hbw _) _ | exact below_drewN hbw _)⟩
    · obtain rfl : k = 4 := by omega
      have HR : Hid (cmpK a b = 0) := Lib.hid (cmpK_all a b HE.out)
      go_wp2
      go_ret
      exact ⟨ret_int HR.out.symm, (by first | exact below_drewN (below_drewN (below_drewN hbw _) _) _ | exact below_drewN (below_drewN hbw _) _ | exact below_drewN hbw _)⟩
end Go.Proofs.Ytnaclkaapicelaa

namespace Go.Proofs.Ytnaclkaapicelaa
open Go.RowKit
set_option maxRecDepth 100000
theorem evs_oneCell (M : List Ev) : ∀ u ∈ M.flatMap Ev.cells, u.oneCell' = true := fun u hu => by
  obtain ⟨e, -, he⟩ := List.mem_flatMap.1 hu
  simp only [Ev.cells, List.mem_cons, List.not_mem_nil, or_false] at he
  rcases he with rfl | rfl | rfl | rfl | rfl | rfl | rfl | rfl | rfl <;> rfl
/-- 'append(s, x...)' of events: s a row of the call's own, x any slice that reads. -/
theorem wpList_app_ev {w : World} {ops : Array Oper} {rest : List Oper} {o : Oper} {a : Act} {Q : Exit → Act → World → Prop} (hgd : o.guard = none) (s x : Operand)
    (ho : o.op = .call { callee := .builtin .append, args := #[s, x], argTypes := #[37, 37] })
    (base : Nat) (u : Value) (L M : List Ev) (hown : OwnL w base 45 9 u Ev.cells L) (hs : a.eval s = u)
    (B : Nat) (A : Option Addr) (m c : Nat) (hm : m = M.length) (hx : a.eval x = .slice A m c) (hr : Rd w B A (M.flatMap Ev.cells)) (hn : L.length + M.length ≤ 1000000000) (hbase : base ≤ w.heap.size)
    (h : ∀ A' c' n' w', Hid (n' = L.length + M.length) → OwnL w' base 45 9 (.slice A' n' c') Ev.cells (L ++ M) → w.grownBy w' u.ownBlock → wpList Try.prog ops Q rest (a.put o.dst (.slice A' n' c')) w') : wpList Try.prog ops Q (o :: rest) a w := by
  subst hm
  obtain ⟨i0, hi0, hz0, hz1, hz2⟩ := info_parts Try.infoEv
  refine wpList_append_rd hgd s x 37 ho base 45 i0 _ 9 72 Try.underlying37 hi0 hz0 hz1 hz2 rfl (by decide) u L.length (L.flatMap Ev.cells) hs hown B A M.length c (M.flatMap Ev.cells) hx (length_flatMap_const _ _ Ev.cells_length _) hr (rd_none Ev.cells_length (by decide) hr) (evs_oneCell M) (by unfold maxLen; omega) (by omega) hbase ?_
  intro v' w' hw hg _
  have ho' : OwnL w' base 45 9 v' Ev.cells (L ++ M) := OwnL.app (n := L.length + M.length) rfl hw
  obtain ⟨A', c', rfl⟩ := ho'.shape
  refine h A' c' _ w' (Lib.hid (by rw [List.length_append])) ?_ hg
  exact ho'
theorem rd_ev1 (w : World) (x : Ev) : Rd (w.alloc (.cells #[.int .i64 x.frame, .int .i64 x.emitter, .int .i64 x.kind, .int .i64 x.ord, .int .i64 x.asset, .int .i64 x.gain, .int .i64 x.pan, .int .i64 x.prio, .int .i64 x.len] 45)) (w.heap.size + 1) (some ⟨w.heap.size, 0, none⟩) ([x].flatMap Ev.cells) :=
  rd_new w _ 45 _ rfl _ (Nat.lt_succ_self _)
/-- Ahead of those that are not ahead of it. -/
def putK (L : List Ev) (e : Ev) : Nat := L.findIdx fun x => decide (cmpK e.key x.key ≤ 0)
def putE (L : List Ev) (e : Ev) : List Ev := insL L (putK L e) e
theorem putK_le (L : List Ev) (e : Ev) : putK L e ≤ L.length := List.findIdx_le_length
theorem putK_lt (L : List Ev) (e : Ev) (j : Nat) (hj : j < L.length) (h : j < putK L e) : decide (cmpK e.key L[j].key ≤ 0) = false := by
  have := List.not_of_lt_findIdx (p := fun x : Ev => decide (cmpK e.key x.key ≤ 0)) (xs := L) h
  simpa using this
theorem putK_at (L : List Ev) (e : Ev) (h : putK L e < L.length) : decide (cmpK e.key (L[putK L e]'h).key ≤ 0) = true :=
  List.findIdx_getElem (p := fun x : Ev => decide (cmpK e.key x.key ≤ 0)) (w := h)
/-- What is out behind k events. -/
def putO (L : List Ev) (e : Ev) (k : Nat) : List Ev := if k ≤ putK L e then L.take k else (putE L e).take (k + 1)
theorem putO_zero (L : List Ev) (e : Ev) : putO L e 0 = [] := by unfold putO; rw [if_pos (Nat.zero_le _)]; simp
theorem putO_in (L : List Ev) (e : Ev) (k : Nat) (hk : k < L.length) (h : k < putK L e) : putO L e (k + 1) = putO L e k ++ [L[k]] := by
  unfold putO
  rw [if_pos (by omega), if_pos (by omega), List.take_succ_eq_append_getElem hk]
theorem putE_get (L : List Ev) (e : Ev) (k : Nat) (hk : k < L.length) (h : putK L e ≤ k) : (putE L e)[k + 1]? = some L[k] := by
  have hp := putK_le L e
  have ht : (L.take (putK L e)).length = putK L e := by rw [List.length_take]; omega
  unfold putE insL
  rw [List.getElem?_append_right (by omega), ht, show k + 1 - putK L e = (k - putK L e) + 1 by omega, List.getElem?_cons_succ, List.getElem?_drop, show putK L e + (k - putK L e) = k by omega, List.getElem?_eq_getElem hk]
theorem putE_length (L : List Ev) (e : Ev) : (putE L e).length = L.length + 1 := insL_length _ _ _
theorem putO_out (L : List Ev) (e : Ev) (k : Nat) (hk : k < L.length) (h : putK L e < k) : putO L e (k + 1) = putO L e k ++ [L[k]] := by
  have hl := putE_length L e
  unfold putO
  rw [if_neg (by omega), if_neg (by omega), List.take_add_one, putE_get L e k hk (by omega)]
  rfl
theorem putO_mid (L : List Ev) (e : Ev) (k : Nat) (hk : k < L.length) (h : k = putK L e) : putO L e (k + 1) = (putO L e k ++ [e]) ++ [L[k]] := by
  have hl := putE_length L e
  unfold putO
  rw [if_neg (by omega), if_pos (by omega), List.take_add_one, putE_get L e k hk (by omega)]
  show _ ++ [L[k]] = _ ++ [L[k]]
  congr 1
  unfold putE insL
  rw [← h, List.take_append, List.length_take, Nat.min_eq_left (by omega), List.take_of_length_le (by rw [List.length_take]; omega), show k + 1 - k = 1 by omega]
  rfl
theorem putO_end (L : List Ev) (e : Ev) (h : putK L e < L.length) : putO L e L.length = putE L e := by
  unfold putO
  rw [if_neg (by omega), List.take_of_length_le (by rw [putE_length]; exact Nat.le_refl _)]
theorem putO_last (L : List Ev) (e : Ev) (h : putK L e = L.length) : putO L e L.length ++ [e] = putE L e := by
  unfold putO putE
  rw [if_pos (by omega), h, insL_end, List.take_length]
theorem putO_length (L : List Ev) (e : Ev) (k : Nat) : (putO L e k).length ≤ k + 1 := by
  unfold putO
  split <;> (rw [List.length_take]; omega)
set_option maxHeartbeats 8000000 in
theorem r11Put_any (A : Option Addr) (c : Nat) (L : List Ev) (e : Ev) (w : World) (hl : L.length ≤ 1000000) (hr : Rd w w.heap.size A (L.flatMap Ev.cells)) :
    Calls Try.prog 128 #[.slice A L.length c, e.val] w fun r w' => ∃ A' c' n', r = .returned (.slice A' n' c') ∧ OwnL w' w.heap.size 45 9 (.slice A' n' c') Ev.cells (putE L e) ∧ Below w.heap.size w w' := by
  obtain ⟨n, hn⟩ : ∃ n, L.length = n := ⟨_, rfl⟩
  obtain ⟨p, hp⟩ : ∃ p, putK L e = p := ⟨_, rfl⟩
  have hpn : p ≤ n := by rw [← hp, ← hn]; exact putK_le L e
  rw [hn] at hl ⊢
  have HN := Lib.hid hn
  have HP := Lib.hid hp
  have HR := Lib.hid hr
  unfold Ev.val
  clear hn hp hr
  go_enter Try.func128, Try.ntmps128
  go_upto_region 3 with fail
  obtain ⟨W, hW⟩ : ∃ W, W = (w.alloc (.cells e.cells.toArray 45)).alloc (.cells #[] 45) := ⟨_, rfl⟩
  have hW' := hW
  simp only [Ev.cells] at hW'
  rw [← hW']
  have hke : Blk W w.heap.size 45 e.cells.toArray := by rw [hW]; exact (by repeat (first | ((with_reducible refine blk_at ?_); first | rfl | (simp; done)) | (with_reducible refine Blk.alloc ?_ _) | (with_reducible refine Blk.drew ?_)))
  have hbw : Below w.heap.size w W := by rw [hW]; exact bAlloc (bAlloc (Below.refl _ _) _) _
  have hsz : W.heap.size = w.heap.size + 1 + 1 := by rw [hW]; simp
  have ho0 : OwnL W (w.heap.size + 1) 45 9 (.slice (some ⟨w.heap.size + 1, 0, none⟩) 0 0) Ev.cells ([] : List Ev) := by
    rw [hW]
    have := OwnL.lit (w := w.alloc (.cells e.cells.toArray 45)) (base := w.heap.size + 1) (E := 45) (f := Ev.cells) [] #[] (by simp) (by simp) Ev.cells_length rfl (n := 0) (c := 0) rfl rfl
    simpa using this
  have HK := Lib.hid hke
  have HBW := Lib.hid hbw
  have HO0 := Lib.hid (show OwnL W (w.heap.size + 1) 45 9 (.slice (some ⟨w.heap.size + 1, 0, none⟩) 0 0) Ev.cells (putO L e 0) by rw [putO_zero]; exact ho0)
  have hlw : w.heap.size < W.heap.size := by omega
  clear hW hW' hke hbw ho0 hsz
  go_wp2_with fail
  go_loopw [5, 6, 7] (fun u b v wr => ∃ k : Nat, k ≤ n ∧ v = .int .i64 k ∧ b = .bool (decide (p < k)) ∧ Hid (OwnL wr (w.heap.size + 1) 45 9 u Ev.cells (putO L e k)) ∧ Hid (Blk wr w.heap.size 45 e.cells.toArray) ∧ Hid (Below w.heap.size w wr)) (fun _ _ v _ => n - (intOf v).toNat)
  case atStart => exact ⟨0, Nat.zero_le _, rfl, by simp, HO0, HK, HBW⟩
  case round =>
    obtain ⟨k, hk, rfl, rfl, HO, HKR, HBR⟩ := hrel
    clear HO0 HK HBW hlw
    have hs0 := HKR.out.lt
    obtain ⟨e0, e1, e2, e3, e4, e5, e6, e7, e8⟩ := Blk.ev HKR.out
    by_cases hlt : k < n
    · have hkL : k < L.length := by rw [HN.out]; exact hlt
      obtain ⟨b, off, hA, hbl, x0, x1, x2, x3, x4, x5, x6, x7, x8⟩ := (HR.out.below HBR.out (Nat.le_refl _)).ev hkL
      subst hA
      have hblw := Nat.lt_trans hbl hs0
      have HOL := Lib.hid (putO_length L e k)
      have HLT := Lib.hid (putK_lt L e k hkL)
      have HAT := Lib.hid (fun h : putK L e = k => (show decide (cmpK e.key L[k].key ≤ 0) = true by
        have := putK_at L e (by rw [h]; exact hkL)
        simpa only [h] using this))
      have HPI := Lib.hid (putO_in L e k hkL)
      have HPM := Lib.hid (putO_mid L e k hkL)
      have HPO := Lib.hid (putO_out L e k hkL)
      obtain ⟨x, hx⟩ : ∃ x, L[k] = x := ⟨_, rfl⟩
      rw [hx] at x0 x1 x2 x3 x4 x5 x6 x7 x8 HLT HAT HPI HPM HPO
      obtain ⟨q, hq⟩ : ∃ q, cmpK e.key x.key = q := ⟨_, rfl⟩
      rw [hq] at HLT HAT
      have HCMP : Hid (∀ w, Calls Try.prog 143 #[e.key.val, x.key.val] w fun r w' => r = .returned (.int .i64 q) ∧ Below w.heap.size w w') := Lib.hid (fun w => by rw [← hq]; exact r11Compare_any _ _ _)
      clear hx hq hkL
      rcases Nat.lt_trichotomy p k with h | h | h
      · have hd : decide (p < k) = true := decide_eq_true h
        have HNX := Lib.hid (HPO.out (by rw [HP.out]; exact h))
        rw [hd]
        clear HLT HAT HPI HPM HPO
        go_wp2_with fail
        refine wp_region_mild (by kernel_rfl) (by kernel_rfl) ?_
        repeat (go_big_quiet_step (fail))
        refine wpQuiet_nil ?_
        intro w1 hw'
        obtain ⟨⟨wq, k1⟩, hw''⟩ := hw'
        subst hw''
        obtain ⟨k1c, k1f⟩ := bcl k1
        have k1z := k1.size
        go_wp2_with (first | (at_builtin; refine wpList_app_ev rfl (.tmp 32) (.tmp 37) rfl (w.heap.size + 1) _ (putO L e k) [x] ((HO.out.below k1).alloc _) rfl _ _ 1 1 rfl rfl (rd_ev1 _ x) (by have := HOL.out; simp only [List.length_cons, List.length_nil]; omega) (by simp; omega) ?_; intro A' c' n' w2 hn' ho' hg'))
        have HO2 : Hid (OwnL w2 (w.heap.size + 1) 45 9 (.slice A' n' c') Ev.cells (putO L e (k + 1))) := Lib.hid (by rw [HNX.out]; exact ho')
        have HK2 := Lib.hid (((HKR.out.on k1).alloc _).grown hg' (fun h => by have := HO.out.base_le _ h; omega))
        have HB2 := Lib.hid (Below.grown (bAlloc (bTrans HBR.out k1) _) hg' (by simp; omega) (fun g h => by have := HO.out.base_le g h; omega))
        clear ho' hg' k1 k1c k1f HO HKR HBR
        go_wp2
        go_roundw
        case rel => exact ⟨k + 1, by omega, by go_num, by rw [decide_eq_true (show p < k + 1 by omega)], HO2, HK2, HB2⟩
        case measure => simp [intOf]; omega
      · have hd : decide (p < k) = false := decide_eq_false (by omega)
        have hc := HAT.out (by rw [HP.out]; exact h)
        have HNX := Lib.hid (HPM.out (by rw [HP.out]; exact h.symm))
        rw [hd]
        clear HLT HAT HPI HPM HPO
        go_wp2_with fail
        refine wp_region_mild (by kernel_rfl) (by kernel_rfl) ?_
        repeat (go_big_quiet_step ((go_at_call 143; exact mild_of (HCMP.out _))))
        refine wpQuiet_nil ?_
        intro w1 hw'
        obtain ⟨⟨wq, k1⟩, hw''⟩ := hw'
        subst hw''
        obtain ⟨k1c, k1f⟩ := bcl k1
        have k1z := k1.size
        go_upto_region 8 with (first | (at_builtin; refine wpList_app_ev rfl (.tmp 28) (.tmp 30) rfl (w.heap.size + 1) _ (putO L e k) [e] ((HO.out.below k1).alloc _) rfl _ _ 1 1 rfl rfl (rd_ev1 _ e) (by have := HOL.out; simp only [List.length_cons, List.length_nil]; omega) (by simp; omega) ?_; intro A' c' n' w2 hn' ho' hg'))
        have HO2 : Hid (OwnL w2 (w.heap.size + 1) 45 9 (.slice A' n' c') Ev.cells (putO L e k ++ [e])) := Lib.hid ho'
        have HK2 := Lib.hid (((HKR.out.on k1).alloc _).grown hg' (fun h => by have := HO.out.base_le _ h; omega))
        have HB2 := Lib.hid (Below.grown (bAlloc (bTrans HBR.out k1) _) hg' (by simp; omega) (fun g h => by have := HO.out.base_le g h; omega))
        have hcc : ∀ o, w2.cell? ⟨b, o, none⟩ = wr.cell? ⟨b, o, none⟩ := fun o => (HB2.out.cell (p := ⟨b, o, none⟩) hbl).trans (HBR.out.cell (p := ⟨b, o, none⟩) hbl).symm
        have y0 := (hcc _).trans x0
        have y1 := (hcc _).trans x1
        have y2 := (hcc _).trans x2
        have y3 := (hcc _).trans x3
        have y4 := (hcc _).trans x4
        have y5 := (hcc _).trans x5
        have y6 := (hcc _).trans x6
        have y7 := (hcc _).trans x7
        have y8 := (hcc _).trans x8
        have hs2 := HK2.out.lt
        have hblw2 := Nat.lt_trans hbl hs2
        clear hcc x0 x1 x2 x3 x4 x5 x6 x7 x8 e0 e1 e2 e3 e4 e5 e6 e7 e8 ho' hg' k1 k1c k1f k1z HO HKR HBR hs0 hblw hc hd HCMP
        obtain ⟨A2, c2, n2, rfl, rfl, rfl⟩ : ∃ A2 c2 n2, A' = A2 ∧ c' = c2 ∧ n' = n2 := ⟨_, _, _, rfl, rfl, rfl⟩
        go_wp2_with (first | (at_builtin; refine wpList_app_ev rfl (.tmp 32) (.tmp 37) rfl (w.heap.size + 1) _ (putO L e k ++ [e]) [x] (HO2.out.alloc _) rfl _ _ 1 1 rfl rfl (rd_ev1 _ x) (by have := HOL.out; simp only [List.length_append, List.length_cons, List.length_nil]; omega) (by simp; omega) ?_; intro A3 c3 n3 w3 hn3 ho3 hg3))
        have HO3 : Hid (OwnL w3 (w.heap.size + 1) 45 9 (.slice A3 n3 c3) Ev.cells (putO L e (k + 1))) := Lib.hid (by rw [HNX.out]; exact ho3)
        have HK3 := Lib.hid ((HK2.out.alloc _).grown hg3 (fun h => by have := HO2.out.base_le _ h; omega))
        have HB3 := Lib.hid (Below.grown (bAlloc HB2.out _) hg3 (by have := HB2.out.size; simp; omega) (fun g h => by have := HO2.out.base_le g h; omega))
        clear ho3 hg3 HO2 HK2 HB2
        go_wp2
        go_roundw
        case rel => exact ⟨k + 1, by omega, by go_num, by rw [decide_eq_true (show p < k + 1 by omega)], HO3, HK3, HB3⟩
        case measure => simp [intOf]; omega
      · have hd : decide (p < k) = false := decide_eq_false (by omega)
        have hc := HLT.out (by rw [HP.out]; exact h)
        have HNX := Lib.hid (HPI.out (by rw [HP.out]; exact h))
        rw [hd]
        clear HLT HAT HPI HPM HPO
        go_wp2_with fail
        refine wp_region_mild (by kernel_rfl) (by kernel_rfl) ?_
        repeat (go_big_quiet_step ((go_at_call 143; exact mild_of (HCMP.out _))))
        refine wpQuiet_nil ?_
        intro w1 hw'
        obtain ⟨⟨wq, k1⟩, hw''⟩ := hw'
        subst hw''
        obtain ⟨k1c, k1f⟩ := bcl k1
        have k1z := k1.size
        go_wp2_with (first | (at_builtin; refine wpList_app_ev rfl (.tmp 32) (.tmp 37) rfl (w.heap.size + 1) _ (putO L e k) [x] ((HO.out.below k1).alloc _) rfl _ _ 1 1 rfl rfl (rd_ev1 _ x) (by have := HOL.out; simp only [List.length_cons, List.length_nil]; omega) (by simp; omega) ?_; intro A' c' n' w2 hn' ho' hg'))
        have HO2 : Hid (OwnL w2 (w.heap.size + 1) 45 9 (.slice A' n' c') Ev.cells (putO L e (k + 1))) := Lib.hid (by rw [HNX.out]; exact ho')
        have HK2 := Lib.hid (((HKR.out.on k1).alloc _).grown hg' (fun h => by have := HO.out.base_le _ h; omega))
        have HB2 := Lib.hid (Below.grown (bAlloc (bTrans HBR.out k1) _) hg' (by simp; omega) (fun g h => by have := HO.out.base_le g h; omega))
        clear ho' hg' k1 k1c k1f HO HKR HBR
        go_wp2
        go_roundw
        case rel => exact ⟨k + 1, by omega, by go_num, by rw [decide_eq_false (show ¬ p < k + 1 by omega)], HO2, HK2, HB2⟩
        case measure => simp [intOf]; omega
    · obtain rfl : k = n := by omega
      have hlw := hs0
      rcases Nat.lt_or_ge p k with h | h
      · have hd : decide (p < k) = true := decide_eq_true h
        rw [hd]
        have HNX := Lib.hid (putO_end L e (by rw [HP.out, HN.out]; exact h))
        obtain ⟨A', c', rfl⟩ := HO.out.shape
        go_wp2
        go_ret
        exact ⟨A', c', _, rfl, by have e := HNX.out; rw [HN.out] at e; rw [← e]; exact HO.out.more (Nat.le_succ _), HBR.out⟩
      · have hd : decide (p < k) = false := decide_eq_false (by omega)
        rw [hd]
        have HNX := Lib.hid (putO_last L e (by rw [HP.out, HN.out]; omega))
        have HOL := Lib.hid (putO_length L e k)
        go_wp2_with (first | (at_builtin; refine wpList_app_ev rfl (.tmp 41) (.tmp 43) rfl (w.heap.size + 1) _ (putO L e k) [e] (HO.out.alloc _) rfl _ _ 1 1 rfl rfl (rd_ev1 _ e) (by have := HOL.out; simp only [List.length_cons, List.length_nil]; omega) (by simp; omega) ?_; intro A' c' n' w2 hn' ho' hg'))
        have HB2 := Lib.hid (Below.grown (bAlloc HBR.out _) hg' (by have := HBR.out.size; simp; omega) (fun g h => by have := HO.out.base_le g h; omega))
        go_wp2
        go_ret
        exact ⟨A', c', _, rfl, by rw [← HNX.out, HN.out]; exact OwnL.more ho' (Nat.le_succ _), HB2.out⟩
end Go.Proofs.Ytnaclkaapicelaa

namespace Go.Proofs.Ytnaclkaapicelaa
open Go.RowKit Go.Shelf
attribute [local go_sem] Oper.semAt_some
set_option maxRecDepth 100000
set_option linter.unusedSimpArgs false
set_option maxHeartbeats 4000000 in
theorem played_any (seed a b : Int) (N : Nat) (w : World) : Calls Try.prog 64 #[.int .u32 seed, .agg #[.int .i64 a, .int .i64 b], .int .i64 N] w fun e w' => (∃ bs bf bk, e = .returned (.func (.func 105) #[] #[.pointer (some ⟨bs, 0, none⟩), .pointer (some ⟨bf, 0, none⟩), .pointer (some ⟨bk, 0, none⟩)]) ∧ w.heap.size ≤ bs ∧ w.heap.size ≤ bf ∧ w.heap.size ≤ bk ∧ Blk w' bs 22 #[.int .u32 seed] ∧ Blk w' bf 3 #[.int .i64 N] ∧ Blk w' bk 66 #[.int .i64 a, .int .i64 b]) ∧ Below w.heap.size w w' := by
  go_enter Try.func64, Try.ntmps64
  go_wp2_with fail
  refine named3 (F := fun W => bodyPost _ _ _ _ _ W) ?_
  intro w1 k0 k1 k2 hb1 hz1
  refine bodyPost_ret (v := .func (.func 105) #[] #[.pointer (some ⟨w.heap.size, 0, none⟩), .pointer (some ⟨w.heap.size + 1 + 1, 0, none⟩), .pointer (some ⟨w.heap.size + 1, 0, none⟩)]) (by simp [results, Try.results64, go_sem]) rfl ⟨⟨_, _, _, rfl, by omega, by omega, by omega, k0, k2, k1⟩, hb1⟩
section
variable {P : Program} {a : Act} {o : Oper}
theorem goes_mono {W : World} {T T' : Value → World → Prop} (h : Oper.goes P o a W T) (ht : ∀ v w', T v w' → T' v w') : Oper.goes P o a W T' := by
  unfold Oper.goes at *
  generalize (execOp a.eval o).run P W = r at *
  cases r with
  | ok n w' =>
    cases n <;> simp only [Oper.goesUpon] at h ⊢
    case value u => exact ht _ _ h
    case skip => exact ht _ _ h
    case enter f args => exact h.mono fun e w'' ⟨v, he, hh⟩ => ⟨v, he, ht _ _ hh⟩
  | halt x w' => simp only [Oper.goesUpon] at h
/-- A slice put into a variable. -/
theorem run_storeSl (w : World) (b i : Nat) (ty : TypeId) (p : Option Addr) (l c : Nat) (ht : w.there b i 1) (hi : (P.info? ty).map (·.size) = some 1) : (storeVar ty ⟨b, i, none⟩ (.slice p l c)).run P w = .ok () (w.setCell ⟨b, i, none⟩ (.slice p l c)) := by
  obtain ⟨h1, h2⟩ := ht 0 (by decide)
  rw [Nat.add_zero] at h1 h2
  cases hq : P.info? ty with
  | none => simp [hq] at hi
  | some q =>
    have hs : q.size = 1 := by simpa [hq] using hi
    have := run_storeCells_cells (P := P) b i [.slice p l c] 0 w (fun j hj => by obtain rfl : j = 0 := by simpa using hj
                                                                                 simpa using h1) (fun j hj => by obtain rfl : j = 0 := by simpa using hj
                                                                                                                 simpa using h2) (fun v hv => by obtain rfl := List.mem_singleton.1 hv; rfl)
    simp only [Nat.add_zero] at this
    simp [storeVar, sizeOf, typeInfo, hq, Value.cells, hs, this, World.setCells]
/-- A new row, written out. -/
theorem goes_bs {W : World} (t e : TypeId) (len : Nat) (parts : Array (Nat × Operand)) (ho : o.op = .buildSlice t len parts) (cells : Array Value) (ie : TypeInfo) (z : Value)
    (hu : P.underlying t = some (.slice e)) (hie : P.info? e = some ie) (hz : ie.zero = some z) (hsmall : ¬ len * ie.size > 2 ^ 24) (hpos : ¬ len * ie.size = 0)
    (hf : Instr.fill (fun i => some (i * ie.size, ie.size)) ((Array.range (len * ie.size)).map (z.cells[· % z.cells.size]!)) (parts.map fun (i, x) => (i, a.eval x)).toList = some cells) :
    Oper.goes P o a W (fun v W' => v = .slice (some ⟨W.heap.size, 0, none⟩) len len ∧ W' = W.alloc (.cells cells e)) := by
  unfold Oper.goes execOp
  simp only [ho, Sem.run_bind, run_buildSlice W t e len _ cells ie z hu hie hz hsmall hpos hf, Result.andThen_ok]
  exact ⟨rfl, rfl⟩
/-- An append, wherever what is added lies. -/
theorem goes_app {W : World} (s x : Operand) (t : TypeId) (ho : o.op = .call { callee := .builtin .append, args := #[s, x], argTypes := #[t, t] })
    (base : Nat) (e : TypeId) (i : TypeInfo) (z : Value) (size bytes : Nat) (ht : P.underlying t = some (.slice e)) (hi : P.info? e = some i) (hz : i.zero = some z)
    (hsize : i.size = size) (hby : i.bytes = bytes) (hzs : z.cells.size = size) (hsz : 0 < size)
    (v : Value) (n : Nat) (xs : List Value) (hs : a.eval s = v) (hown : W.ownsRow base e size v n xs)
    (B : Nat) (A : Option Addr) (m c : Nat) (news : List Value) (hx : a.eval x = .slice A m c) (hl : news.length = m * size) (hr : Rd W B A news) (hA : A = none → m = 0) (h1 : ∀ u ∈ news, u.oneCell' = true)
    (h63 : n + m ≤ maxLen) (hbytes : (n + m) * bytes ≤ 140737488355328) (hbase : base ≤ W.heap.size) :
    Oper.goes P o a W (fun v' W' => W'.ownsRow base e size v' (n + m) (xs ++ news) ∧ W.grownBy W' v.ownBlock) := by
  obtain ⟨v', w', hrun, h2, h3, -⟩ := append_rd_run (P := P) W base t o.type e i z size bytes ht hi hz hsize hby hzs hsz v n xs hown B A m c news hl hr hA h1 h63 hbytes hbase
  have hr : (execOp a.eval o).run P W = .ok (.value v') w' := by
    unfold execOp
    simp only [ho, resolve, invoke, builtin, Sem.run_bind, Sem.run_pure, Result.andThen_ok, List.map_toArray, List.map_cons, List.map_nil, hs, hx, hrun]
  unfold Oper.goes
  rw [hr]
  exact ⟨h2, h3⟩
end
theorem goes_app_ev {W : World} {o : Oper} {a : Act} (s x : Operand) (ho : o.op = .call { callee := .builtin .append, args := #[s, x], argTypes := #[37, 37] }) (base : Nat) (u : Value) (L M : List Ev) (hown : OwnL W base 45 9 u Ev.cells L) (hs : a.eval s = u)
    (B : Nat) (A : Option Addr) (m c : Nat) (hm : m = M.length) (hx : a.eval x = .slice A m c) (hr : Rd W B A (M.flatMap Ev.cells)) (hn : L.length + M.length ≤ 1000000000) (hbase : base ≤ W.heap.size) :
    Oper.goes Try.prog o a W (fun v' W' => OwnL W' base 45 9 v' Ev.cells (L ++ M) ∧ W.grownBy W' u.ownBlock) := by
  subst hm
  obtain ⟨i0, hi0, hz0, hz1, hz2⟩ := info_parts Try.infoEv
  refine goes_mono (goes_app s x 37 ho base 45 i0 _ 9 72 Try.underlying37 hi0 hz0 hz1 hz2 rfl (by decide) u L.length (L.flatMap Ev.cells) hs hown B A M.length c (M.flatMap Ev.cells) hx (length_flatMap_const _ _ Ev.cells_length _) hr (rd_none Ev.cells_length (by decide) hr) (evs_oneCell M) (by unfold maxLen; omega) (by omega) hbase) ?_
  rintro v' W' ⟨h2, h3⟩
  exact ⟨OwnL.app rfl h2, h3⟩
theorem infoPb : (Try.prog.info? 41).map (fun i => (i.zero, i.size, i.bytes)) = some (some (.agg #[.int .u8 0, .int .u8 0]), 2, 2) := by kernel_rfl
theorem pbs_oneCell (l : List (Nat × Nat)) : ∀ u ∈ l.flatMap pbCells, u.oneCell' = true := fun u hu => by
  obtain ⟨q, -, hq⟩ := List.mem_flatMap.1 hu
  simp only [pbCells, List.mem_cons, List.not_mem_nil, or_false] at hq
  rcases hq with rfl | rfl <;> rfl
theorem goes_app_pb {W : World} {o : Oper} {a : Act} (s x : Operand) (ho : o.op = .call { callee := .builtin .append, args := #[s, x], argTypes := #[34, 34] }) (base : Nat) (u : Value) (L M : List (Nat × Nat)) (hown : OwnL W base 41 2 u pbCells L) (hs : a.eval s = u)
    (B : Nat) (A : Option Addr) (m c : Nat) (hm : m = M.length) (hx : a.eval x = .slice A m c) (hr : Rd W B A (M.flatMap pbCells)) (hn : L.length + M.length ≤ 1000000000) (hbase : base ≤ W.heap.size) :
    Oper.goes Try.prog o a W (fun v' W' => OwnL W' base 41 2 v' pbCells (L ++ M) ∧ W.grownBy W' u.ownBlock) := by
  subst hm
  obtain ⟨i0, hi0, hz0, hz1, hz2⟩ := info_parts infoPb
  refine goes_mono (goes_app s x 34 ho base 41 i0 _ 2 2 Try.underlying34 hi0 hz0 hz1 hz2 rfl (by decide) u L.length (L.flatMap pbCells) hs hown B A M.length c (M.flatMap pbCells) hx (length_flatMap_const _ _ pbCells_length _) hr (rd_none pbCells_length (by decide) hr) (pbs_oneCell M) (by unfold maxLen; omega) (by omega) hbase) ?_
  rintro v' W' ⟨h2, h3⟩
  exact ⟨OwnL.app rfl h2, h3⟩
theorem goes_bs_pb {W : World} {o : Oper} {a : Act} (y : Operand) (ho : o.op = .buildSlice 34 1 #[(0, y)]) (p : Nat × Nat) (hy : a.eval y = .agg (pbCells p).toArray) : Oper.goes Try.prog o a W (fun v W' => v = .slice (some ⟨W.heap.size, 0, none⟩) 1 1 ∧ W' = W.alloc (.cells (pbCells p).toArray 41)) := by
  obtain ⟨i0, hi0, hz0, hz1, hz2⟩ := info_parts infoPb
  refine goes_bs 34 41 1 _ ho _ i0 _ Try.underlying34 hi0 hz0 (by rw [hz1]; decide) (by rw [hz1]; decide) ?_
  rw [hz1]
  simp only [List.map_toArray, List.map_cons, List.map_nil, hy]
  simp [Instr.fill, pbCells, go_sem]
/-- The state behind the rounds that have come. -/
def lastM (S : Nat → Int) : List Rnd → (Nat → Int)
  | [] => S
  | r :: l => lastM r.T l
theorem lastM_snoc : ∀ (pre : List Rnd) (S : Nat → Int) (r : Rnd), lastM S (pre ++ [r]) = r.T
  | [], _, _ => rfl
  | x :: l, _, r => lastM_snoc l x.T r
section
variable {α : Type} {A A' W : World} {m : Nat} {E : TypeId} {k : Nat} {v : Value} {f : α → List Value} {l : List α}
theorem OwnL.isRow (h : OwnL A m E k v f l) {g : Nat} (hg : v.ownBlock = some g) : m ≤ g ∧ ∃ cur fz, A.heap[g]? = some (.cells cur E fz) := by
  rcases h.2 with ⟨rfl, _⟩ | ⟨g1, cap, cur, rfl, hb, h1, _⟩
  · simp [Value.ownBlock] at hg
  · simp only [Value.ownBlock, Option.some.injEq] at hg
    subst hg
    exact ⟨hb, _, _, h1⟩
/-- What turns is no cells, or lies below the row. -/
theorem OwnL.away {B : Nat} {row : Option Nat} (h : OwnL A m E k v f l) (hg : A.grownBy A' row) (hr : ∀ r, row = some r → B ≤ r ∧ ((∃ o : Obj, A.heap[r]? = some o ∧ o.isCells = false) ∨ (r < m ∧ ∃ o : Obj, A.heap[r]? = some o ∧ o.isCells = true))) : OwnL A' m E k v f l := by
  refine h.kept hg ?_
  cases hv : v.ownBlock with
  | none => exact .inl rfl
  | some g =>
    refine .inr fun e => ?_
    obtain ⟨h1, cur, fz, h2⟩ := h.isRow hv
    rcases (hr g e.symm).2 with ⟨o, ho, hc⟩ | ⟨hlt, -⟩
    · rw [h2] at ho; cases ho; cases hc
    · omega
theorem OwnL.putObj (h : OwnL A m E k v f l) {i : Nat} {o o' : Obj} (ho : A.heap[i]? = some o) (hc : o.isCells = false) : OwnL (A.putObj i o') m E k v f l := by
  refine h.kept (grownBy_putObj' A i o') ?_
  cases hv : v.ownBlock with
  | none => exact .inl rfl
  | some g =>
    refine .inr fun e => ?_
    obtain ⟨h1, cur, fz, h2⟩ := h.isRow hv
    cases e
    rw [h2] at ho; cases ho; cases hc
theorem OwnL.farC (h : OwnL A m E k v f l) {b : Nat} (hb : v.ownBlock ≠ some b) (i : Nat) (vs : List Value) : OwnL (A.setCells b i vs) m E k v f l := h.kept (grownBy_setCells A b i vs) (.inr hb)
theorem OwnL.ne_low (h : OwnL A m E k v f l) {b : Nat} (hb : b < m) : v.ownBlock ≠ some b := fun e => by have := (h.isRow e).1; omega
theorem Blk.putObj {g : Nat} {t : TypeId} {cs : Array Value} (h : Blk A g t cs) {i : Nat} {o o' : Obj} (ho : A.heap[i]? = some o) (hc : o.isCells = false) : Blk (A.putObj i o') g t cs := by
  have hne : g ≠ i := fun e => by
    rw [← e] at ho
    have h' : A.heap[g]? = some (.cells cs t (0, 0)) := h
    rw [h'] at ho; cases ho; cases hc
  exact (World.putObj_heap_other hne).trans h
end
/-- What is so between the rounds of a match. -/
structure MI (T0 : Nat → Int) (w0 b8 b12 b13 b14 : Nat) (w : World) (m : Nat) (pre : List Rnd) (W : World) : Prop where
  below : Below w0 w W
  s8 : ∃ Z : Array Value, Z.size = 60 ∧ Blk W b8 33 Z
  s12 : Blk W b12 33 (stCells (lastM T0 pre)).toArray
  rows : ∃ A1 c1 A2 c2, Blk W b13 34 #[.slice A1 (pre.map fun r => (r.x, r.y)).length c1] ∧ Blk W b14 37 #[.slice A2 (pre.flatMap (·.L)).length c2] ∧ OwnL W m 41 2 (.slice A1 (pre.map fun r => (r.x, r.y)).length c1) pbCells (pre.map fun r => (r.x, r.y)) ∧ OwnL W m 45 9 (.slice A2 (pre.flatMap (·.L)).length c2) Ev.cells (pre.flatMap (·.L))
  size : m ≤ W.heap.size
  short : (pre.flatMap (·.L)).length ≤ 22 * pre.length
  low : b14 < m ∧ w0 ≤ m
theorem MI.keeps {T0 : Nat → Int} {w0 b8 b12 b13 b14 : Nat} {w : World} {m : Nat} {pre : List Rnd} {A A' : World} {row : Option Nat} {B : Nat} (h : MI T0 w0 b8 b12 b13 b14 w m pre A) (hg : A.grownBy A' row) (hB : w0 ≤ B ∧ b8 < B ∧ b12 < B ∧ b13 < B ∧ b14 < B) (hw : w0 ≤ A.heap.size)
    (hr : ∀ r, row = some r → B ≤ r ∧ ((∃ o : Obj, A.heap[r]? = some o ∧ o.isCells = false) ∨ (r < m ∧ ∃ o : Obj, A.heap[r]? = some o ∧ o.isCells = true))) : MI T0 w0 b8 b12 b13 b14 w m pre A' := by
  have hne : ∀ b, b < B → row ≠ some b := fun b hb e => by have := (hr b e).1; omega
  obtain ⟨Z, hZ, h8⟩ := h.s8
  obtain ⟨A1, c1, A2, c2, r1, r2, r3, r4⟩ := h.rows
  exact ⟨h.below.grown hg hw (fun k e => by have := (hr k e).1; omega), ⟨Z, hZ, h8.grown hg (hne _ hB.2.1)⟩, h.s12.grown hg (hne _ hB.2.2.1), ⟨A1, c1, A2, c2, r1.grown hg (hne _ hB.2.2.2.1), r2.grown hg (hne _ hB.2.2.2.2), r3.away hg hr, r4.away hg hr⟩, Nat.le_trans h.size hg.size, h.short, h.low⟩
theorem KpX.trans {X : Nat → Prop} {A B C : World} (h : KpX X A B) (k : KpX X B C) : KpX X A C := ⟨Nat.le_trans h.1 k.1, fun r t cs hr h1 h2 hx => k.2 r t cs (h.2 r t cs hr h1 h2 hx) h1 h2 hx⟩
theorem KpX.put {X : Nat → Prop} (W : World) (l : Nat) (o o' : Obj) (ho : W.heap[l]? = some o) (hc : o.isCells = false) : KpX X W (W.putObj l o') := ⟨(grownBy_putObj' W l o').size, fun _ _ _ hr _ _ _ => hr.putObj ho hc⟩
theorem KpX.of_grown {X : Nat → Prop} {A B : World} (h : Below A.heap.size A B) : KpX X A B := ⟨h.size, fun _ _ _ hr _ _ _ => hr.on h⟩
section
variable {P : Program} {ops : Array Oper} {X : Nat → Prop} {w : World} {kd : Nat → Kd} {E : Act → (World → Prop) → Prop} {a : Act} {o : Oper} {rest : List Oper} {k : Nat} {D : World → Prop}
theorem mixS_run (v : Value) (hw : Region.wanted o (yielded ops a.tmps) = true) (hk : kd k = .pure) (hr : ∀ W, RunsTo P o a W v) (h : wpMixS P ops X w kd E rest (k + 1) (a.put o.dst v) D) : wpMixS P ops X w kd E (o :: rest) k a D := by
  unfold wpMixS msStep
  rw [if_pos hw, hk]
  exact ⟨v, hr, h⟩
theorem runs_loadSl {W : World} (ty e : TypeId) (x : Operand) (ho : o.op = .load ty x) (b i : Nat) (hx : a.eval x = .pointer (some ⟨b, i, none⟩)) (hu : P.underlying ty = some (.slice e)) {v : Value} (hc : W.cell? ⟨b, i, none⟩ = some v) : RunsTo P o a W v := by
  unfold RunsTo execOp
  simp only [ho, hx, Instr.loadAt, Instr.sureAddr, Sem.run_bind, Sem.run_pure, Result.andThen_ok]
  simp [loadVar, isAgg, run_underlying hu, hc]
theorem mixS_hrun (v : Value) (hw : Region.wanted o (yielded ops a.tmps) = true) (hk : kd k = .held) (hD : ∀ W, D W → ComeX X w W) (hr : ∀ W, ComeX X w W → RunsTo P o a W v) (h : wpMixS P ops X w kd E rest (k + 1) (a.put o.dst v) D) : wpMixS P ops X w kd E (o :: rest) k a D := by
  unfold wpMixS msStep
  rw [if_pos hw, hk]
  exact ⟨hD, v, hr, h⟩
theorem mixS_storeSl (hw : Region.wanted o (yielded ops a.tmps) = true) (hk : kd k = .tail) (ty : TypeId) (x y : Operand) (ho : o.op = .store ty x y) (b i : Nat) (p : Option Addr) (l c : Nat) (hx : a.eval x = .pointer (some ⟨b, i, none⟩)) (hy : a.eval y = .slice p l c) (ht : ∀ W, D W → W.there b i 1) (hi : (P.info? ty).map (·.size) = some 1)
    (h : wpMixS P ops X w kd E rest (k + 1) (a.put o.dst undef) (fun W' => ∃ W, D W ∧ W' = W.setCell ⟨b, i, none⟩ (.slice p l c))) : wpMixS P ops X w kd E (o :: rest) k a D :=
  mixS_tail hw hk (fun W => W.setCell ⟨b, i, none⟩ (.slice p l c)) (fun W hW => by
    unfold execOp
    simp only [ho, hx, hy, Instr.storeAt, Instr.sureAddr, Sem.run_bind, Sem.run_pure, Result.andThen_ok, run_storeSl W b i ty p l c (ht W hW) hi]) h
theorem goes_store {W : World} (ty : TypeId) (x y : Operand) (ho : o.op = .store ty x y) (b i : Nat) (cs : Array Value) (hx : a.eval x = .pointer (some ⟨b, i, none⟩)) (hy : a.eval y = .agg cs) (ht : W.there b i cs.size) (hi : (P.info? ty).map (·.size) = some cs.size) (h1 : cs.all (·.oneCell') = true) {T : Value → World → Prop} (hT : T undef (W.setCells b i cs.toList)) : Oper.goes P o a W T := by
  unfold Oper.goes execOp
  simp only [ho, hx, hy, Instr.storeAt, Instr.sureAddr, Sem.run_bind, Sem.run_pure, Result.andThen_ok, run_storeVar_mid W b i ty cs ht hi h1]
  exact hT
theorem goes_runs {W : World} {v : Value} {T : Value → World → Prop} (h : RunsTo P o a W v) (ht : T v W) : Oper.goes P o a W T := by
  unfold Oper.goes
  unfold RunsTo at h
  rw [h]
  exact ht
end
theorem named_put2 {F : World → Prop} {W : World} {cs zs G : Array Value} {T1 T2 : TypeId} (hz : G.size = zs.size) (h : ∀ W2, Blk W2 W.heap.size T1 cs → Blk W2 (W.heap.size + 1) T2 G → Below W.heap.size W W2 → W2.heap.size = W.heap.size + 2 → F W2) : F (((W.alloc (.cells cs T1)).alloc (.cells zs T2)).setCells (W.heap.size + 1) 0 G.toList) := by
  have hs : (W.alloc (.cells cs T1)).heap.size = W.heap.size + 1 := World.size_alloc _ _
  have hn : Blk ((W.alloc (.cells cs T1)).alloc (.cells zs T2)) (W.heap.size + 1) T2 zs := by
    have := Blk.new (W.alloc (.cells cs T1)) T2 zs
    rwa [hs] at this
  have h2 := hn.whole G.toList (by rw [Array.length_toList, hz])
  rw [Array.toArray_toList] at h2
  exact h _ (((Blk.new W T1 cs).alloc _).farC (by omega) 0 _) h2 (bSetCells (bAlloc (bAlloc (Below.refl _ _) _) _) (by omega) 0 _) (by rw [setCells_size]; simp)
theorem there_new1 (w : World) (o : Obj) (cs : Array Value) (T : TypeId) {n : Nat} (h : cs.size = n) : ((w.alloc o).alloc (.cells cs T)).there (w.heap.size + 1) 0 n := by
  have := there_new (w.alloc o) cs T h
  rwa [World.size_alloc] at this
theorem rounds_core {a b : Int} {S : Nat → Int} {N : Nat} {xs : List Rnd} (h : xs.map Rnd.core = preM a b S N) : lastM S xs = stM a b S N ∧ (xs.map fun r => (r.x, r.y)) = (preM a b S N).map (·.1) ∧ (xs.flatMap (·.L)) = (preM a b S N).flatMap (·.2.2) := by
  refine ⟨?_, ?_, ?_⟩
  · cases N with
    | zero =>
      have : xs = [] := by
        have := congrArg List.length h
        rw [List.length_map, preM_length] at this
        exact List.eq_nil_of_length_eq_zero this
      rw [this]; rfl
    | succ k =>
      rw [preM_succ] at h
      obtain ⟨ys, zs, rfl, h1, h2⟩ := List.map_eq_append_iff.1 h
      obtain ⟨r, rfl, hr⟩ : ∃ r, zs = [r] ∧ r.core = rdM a b (stM a b S k) := by
        cases zs with
        | nil => simp at h2
        | cons z t =>
          simp only [List.map_cons, List.cons.injEq, List.map_eq_nil_iff] at h2
          exact ⟨z, by rw [h2.2], h2.1⟩
      rw [lastM_snoc]
      show _ = (rdM a b (stM a b S k)).2.1
      rw [← hr]; rfl
  · rw [← h, List.map_map]; rfl
  · rw [← h, List.flatMap_map]; rfl
set_option maxHeartbeats 8000000 in
theorem match_any (seed a b : Int) (N : Nat) (w : World) (hs : U32 seed) (ha : 0 ≤ a ∧ a ≤ 3) (hb : 0 ≤ b ∧ b ≤ 3) (hN : N ≤ 5000) :
    Calls Try.prog 23 #[.int .u32 seed, .int .i64 a, .int .i64 b, .int .i64 N] w fun e w' => ∃ v1 v2 : Value, e = .returned (.tuple #[.agg (stCells (stM a b (beginS seed) N)).toArray, v1, v2, .int .i64 0]) ∧ OwnL w' w.heap.size 41 2 v1 pbCells ((preM a b (beginS seed) N).map (·.1)) ∧ OwnL w' w.heap.size 45 9 v2 Ev.cells ((preM a b (beginS seed) N).flatMap (·.2.2)) ∧ Below w.heap.size w w' := by
  have g1 : inB a 0 3 = true := decide_eq_true ha
  have g2 : inB b 0 3 = true := decide_eq_true hb
  have g3 : inB (N : Int) 0 5000 = true := decide_eq_true (by omega)
  have HW1 := fun V => bw a 0 3 V _ g1
  have HW2 := fun V => bw b 0 3 V _ g2
  have HW3 := fun V => bw (N : Int) 0 5000 V _ g3
  have H1 := Lib.hid HW1
  have H2 := Lib.hid HW2
  have H3 := Lib.hid HW3
  obtain ⟨T0, hT0⟩ : ∃ T0, beginS seed = T0 := ⟨_, rfl⟩
  have hbeg := fun V => gBegin_any seed V
  rw [hT0] at hbeg
  obtain ⟨C0, hC0⟩ : ∃ C0 : Array Value, (stCells T0).toArray = C0 := ⟨_, rfl⟩
  rw [hC0] at hbeg
  have hsz : C0.size = 60 := by rw [← hC0, List.size_toArray, stCells_length]
  have H1C : Hid (C0.all (·.oneCell') = true) := Lib.hid (by rw [← hC0]; exact all_oneCell_toArray (int_one _))
  have HSZ : Hid ((Try.prog.info? 33).map (·.size) = some C0.size) := Lib.hid (by rw [hsz]; kernel_rfl)
  have HSI := Lib.hid hsz
  have HC0 := Lib.hid hC0
  have HT0 := Lib.hid hT0
  have HBEG := Lib.hid hbeg
  clear hbeg hsz hC0 hT0 HW1 HW2 HW3 g1 g2 g3
  rw [HT0.out]
  refine (callsIn_wide (n := 3)).1 ?_
  refine callsIn_of_wp_marks Try.func23 rfl trivial ?_ rfl
  simp only [Try.ntmps23, List.size_toArray, List.length_cons, List.length_nil, Nat.reduceAdd, Nat.reduceSub, Array.replicate_succ, Array.replicate_zero, List.push_toArray, List.append_toArray, List.nil_append, List.cons_append]
  refine wpIn_wide.2 ?_
  go_upto_region 1 with fail
  refine named1 (F := fun W => Code.wp _ _ _ _ W) ?_
  intro w1 k8 hb1 hz1
  have HK8 := Lib.hid k8
  have HB1 := Lib.hid hb1
  have HZ1 := Lib.hid hz1
  clear k8 hb1 hz1
  go_upto_region 4 with (first
    | (go_at_call 38; first | ((with_reducible refine (H1.out _).mono ?_); rintro e w2 ⟨rfl, rfl⟩) | ((with_reducible refine (H2.out _).mono ?_); rintro e w2 ⟨rfl, rfl⟩) | ((with_reducible refine (H3.out _).mono ?_); rintro e w2 ⟨rfl, rfl⟩))
    | (go_at_call 13; refine (HBEG.out _).mono ?_; rintro e w3 ⟨rfl, hb3⟩; have HB3 := Lib.hid hb3; clear hb3)
    | (refine wpList_store_mid rfl 33 (.tmp 12) (.tmp 32) rfl w3.heap.size 0 C0 rfl rfl (there_new _ _ _ (by rw [HSI.out]; rfl)) HSZ.out H1C.out ?_))
  refine named_put (F := fun W => Code.wp _ _ _ _ W) (by rw [Array.length_toList, HSI.out]; rfl) ?_
  intro w4 k12 hb4 hz4
  rw [Array.toArray_toList, ← HC0.out] at k12
  have hb14 := bTrans (bTrans HB1.out HB3.out) hb4
  have hge4 : w.heap.size + 1 ≤ w3.heap.size := by have := HB3.out.size; have := HZ1.out; omega
  obtain ⟨b12, hb12⟩ : ∃ b12, w3.heap.size = b12 := ⟨_, rfl⟩
  rw [hb12] at k12 hge4 ⊢
  have HK12 := Lib.hid k12
  have HK84 := Lib.hid ((HK8.out.on HB3.out).on hb4)
  have HB4 := Lib.hid hb14
  clear k12 hb4 hz4 hb14 hb12 HB3 HBEG H1C HSZ HSI HK8 HB1 HZ1 H1 H2 H3 HC0
  go_upto_region 6 with fail
  refine named2 (F := fun W => Code.wp _ _ _ _ W) ?_
  intro w5 k13 k14 hb5 hz5
  obtain ⟨b13, hb13⟩ : ∃ b13, w4.heap.size = b13 := ⟨_, rfl⟩
  have hl12 := HK12.out.lt
  rw [hb13] at k13 k14 hz5 hl12 ⊢
  have HK13 := Lib.hid k13
  have HK14 := Lib.hid k14
  have HK125 := Lib.hid (HK12.out.on hb5)
  have HK85 := Lib.hid (HK84.out.on hb5)
  have HB5 := Lib.hid (bTrans HB4.out hb5)
  have HZ5 := Lib.hid hz5
  clear k13 k14 hb5 hz5 hb13 HK12 HK84 HB4
  have HPL := Lib.hid (fun V => played_any seed a b N V)
  go_wp2_with (first | (go_at_call 64; refine (HPL.out _).mono ?_; rintro e w6 ⟨⟨bs, bf, bk, rfl, hs1, hs2, hs3, p1, p2, p3⟩, hb6⟩; have HP1 := Lib.hid p1; have HP2 := Lib.hid p2; have HP3 := Lib.hid p3; have HB6 := Lib.hid hb6; clear p1 p2 p3 hb6))
  refine (wpIn_wide (n := 3)).1 ?_
  have hb14 : b13 + 1 < w5.heap.size := by have := HZ5.out; omega
  have hs56 := HB6.out.size
  have h0 : w.heap.size ≤ w6.heap.size := Nat.le_trans HB5.out.size hs56
  refine wpIn_rangeFunc_st (by decide) (gf := 105) (lb := #[.pointer (some ⟨bs, 0, none⟩), .pointer (some ⟨bf, 0, none⟩), .pointer (some ⟨bk, 0, none⟩)]) rfl (enters_of Try.func105 (by kernel_rfl) rfl)
    (played_seq 2 (by decide) seed a b N (fun k => k = b12 ∨ k = b13 ∨ k = b13 + 1) w6 bs bf bk hs hN HP1.out HP2.out HP3.out (fun r e => by rcases e with rfl | rfl | rfl <;> (refine ⟨?_, ?_, ?_, ?_⟩ <;> omega))) (fun _ => rfl) (fun h k => KpX.trans h k) (fun W l o o' _ ho hc => KpX.put W l o o' ho hc)
    (fun m pre W => MI T0 w.heap.size w.heap.size b12 b13 (b13 + 1) w m pre W) (fun m pre A A' row h hg hr => h.keeps hg (B := w6.heap.size) ⟨h0, by omega, by omega, by omega, by omega⟩ h.below.size hr)
    (fun A hg => ?start) (fun x a' A => ∃ b15 b16, w6.heap.size ≤ b15 ∧ w6.heap.size ≤ b16 ∧ Blk A b15 41 #[.int .u8 x.x, .int .u8 x.y] ∧ Blk A b16 116 x.g2.toArray ∧ a' = { tmps := #[.int .u32 seed, .int .i64 a, .int .i64 b, .int .i64 N, undef, undef, undef, undef, .pointer (some ⟨w.heap.size, 0, none⟩), .slice none 0 0, .slice none 0 0, .int .i64 0, .pointer (some ⟨b12, 0, none⟩), .pointer (some ⟨b13, 0, none⟩), .pointer (some ⟨b13 + 1, 0, none⟩), .pointer (some ⟨b15, 0, none⟩), .pointer (some ⟨b16, 0, none⟩), .int .i64 a, .bool true, .bool false, .bool false, .int .i64 b, .bool true, .bool false, .bool false, .bool false, .int .i64 N, .bool true, .bool false, .bool false, undef, .int .u32 seed, .agg C0, .int .u32 seed, .int .i64 a, .int .i64 b, .agg #[.int .i64 a, .int .i64 b], .int .i64 N, .func (.func 105) #[] #[.pointer (some ⟨bs, 0, none⟩), .pointer (some ⟨bf, 0, none⟩), .pointer (some ⟨bk, 0, none⟩)], .agg #[.int .u8 x.x, .int .u8 x.y], .agg x.g2.toArray, undef, undef, undef, undef, undef, undef, undef, undef, undef, undef, undef, undef, undef], defers := [] }) (fun x a' A l o o' h hl ho hc => by obtain ⟨b15, b16, h1, h2, h3, h4, h5⟩ := h; exact ⟨b15, b16, h1, h2, h3.putObj ho hc, h4.putObj ho hc, h5⟩)
    ?assign (fun _ pre x A l o o' h hl ho hc => ⟨h.1.putObj ho hc, h.2⟩) ?body ?done
  case assign =>
    rintro l m pre x W K hm hI ⟨hO, hl22, hlt⟩ hK
    obtain ⟨G, hG⟩ : ∃ G : Array Value, x.g2.toArray = G := ⟨_, rfl⟩
    unfold Rnd.encs
    rw [hG]
    have hgs : G.size = 61 := by rw [← hG, List.size_toArray]; unfold Rnd.g2; rw [List.length_append, stCells_length]; rfl
    have HGS := Lib.hid hgs
    have HG1 : Hid (G.all (·.oneCell') = true) := Lib.hid (by
      rw [← hG]
      refine all_oneCell_toArray fun u hu => ?_
      unfold Rnd.g2 at hu
      rw [List.mem_append, List.mem_singleton] at hu
      rcases hu with hu | rfl
      · exact int_one _ u hu
      · rfl)
    have HGI : Hid ((Try.prog.info? 116).map (·.size) = some G.size) := Lib.hid (by rw [hgs]; kernel_rfl)
    have HG := Lib.hid hG
    have HI := Lib.hid hI
    clear hgs hG hI
    gi_wp2_with (first | (refine wpListIn_store rfl rfl 116 (.tmp 16) (.tmp 40) rfl (W.heap.size + 1) 0 G rfl rfl (there_new1 _ _ _ _ (by rw [HGS.out]; rfl)) HGI.out HG1.out ?_))
    refine named_put2 (F := fun W2 => K _ W2) (by rw [HGS.out]; rfl) ?_
    intro W2 k15 k16 hb2 hz2
    have hBW : w6.heap.size ≤ W.heap.size := Nat.le_trans hm HI.out.size
    refine hK _ W2 ⟨hb2.size, fun k o _ hk _ => (hb2.block k (Array.getElem?_eq_some_iff.1 hk).1).trans hk⟩ (KpX.of_grown hb2) (HI.out.keeps (grown_of hb2) (B := w6.heap.size) ⟨h0, by omega, by omega, by omega, by omega⟩ HI.out.below.size (fun r e => by cases e)) ⟨hO.below hb2, hl22, hlt⟩ ⟨W.heap.size, W.heap.size + 1, by omega, by omega, k15, by rw [HG.out]; exact k16, ?_⟩
    rw [HG.out]
  case start =>
    have hbA : Below w6.heap.size w6 A := ⟨hg.os, hg.tape, hg.output, hg.size, fun k hk => hg.block k hk (by simp)⟩
    have hb56 := bTrans HB6.out hbA
    exact ⟨bTrans HB5.out hb56, ⟨_, rfl, HK85.out.on hb56⟩, HT0.out ▸ HK125.out.on hb56, ⟨none, 0, none, 0, HK13.out.on hb56, HK14.out.on hb56, OwnL.nil, OwnL.nil⟩, Nat.le_refl _, Nat.zero_le _, by have := hg.size; omega, Nat.le_trans h0 hg.size⟩
  case body =>
    rintro l m pre x a' W hm hI ⟨hO, hl22, hlt⟩ ⟨b15, b16, h15, h16, k15, k16, rfl⟩
    obtain ⟨A1, c1, A2, c2, r1, r2, r3, r4⟩ := hI.rows
    have hBW : w6.heap.size ≤ W.heap.size := Nat.le_trans hm hI.size
    obtain ⟨n1, hn1⟩ : ∃ n1, (pre.map fun r => (r.x, r.y)).length = n1 := ⟨_, rfl⟩
    obtain ⟨n2, hn2⟩ : ∃ n2, (pre.flatMap (·.L)).length = n2 := ⟨_, rfl⟩
    obtain ⟨j, hj⟩ : ∃ j, x.L.length = j := ⟨_, rfl⟩
    rw [hn1] at r1 r3
    rw [hn2] at r2 r4
    rw [hj] at hO
    obtain ⟨X, hX⟩ : ∃ X : Nat → Prop, X = fun k => (Value.slice A1 n1 c1).ownBlock = some k ∨ (Value.slice A2 n2 c2).ownBlock = some k := ⟨_, rfl⟩
    have hXm : ∀ k, X k → m ≤ k ∧ ∃ cur E fz, W.heap[k]? = some (.cells cur E fz) ∧ (E = 41 ∨ E = 45) := fun k hk => by
      rw [hX] at hk
      rcases hk with hk | hk
      · obtain ⟨q1, cur, fz, q2⟩ := r3.isRow hk; exact ⟨q1, cur, _, fz, q2, .inl rfl⟩
      · obtain ⟨q1, cur, fz, q2⟩ := r4.isRow hk; exact ⟨q1, cur, _, fz, q2, .inr rfl⟩
    have hXb : ∀ k, k < w6.heap.size → ¬ X k := fun k hk e => by have := (hXm k e).1; omega
    have k12 := hI.s12
    have nx12 := hXb b12 (by omega)
    have nx13 := hXb b13 (by omega)
    have nx14 := hXb (b13 + 1) (by omega)
    have nx16 : ¬ X b16 := fun e => by
      obtain ⟨-, cur, E, fz, q, hE⟩ := hXm _ e
      have h' : W.heap[b16]? = some (.cells x.g2.toArray 116 (0, 0)) := k16
      rw [h'] at q; cases q
      rcases hE with h | h <;> cases h
    have l12 := k12.lt
    have l13 := r1.lt
    have l14 := r2.lt
    have l15 := k15.lt
    have l16 := k16.lt
    have c13 := r1.cell 0
    have c14 := r2.cell 0
    simp only [List.getElem?_toArray, List.getElem?_cons_zero] at c13 c14
    have g16 : x.g2 = stCells x.T ++ [.slice x.A j x.c] := by unfold Rnd.g2; rw [hj]
    have c16 : W.cell? ⟨b16, 60, none⟩ = some (.slice x.A j x.c) := by
      rw [k16.cell, g16, List.getElem?_toArray, List.getElem?_append_right (by rw [stCells_length]; exact Nat.le_refl _), stCells_length]; rfl
    have rg16 : W.rangeAt b16 0 (stCells x.T) := fun i v hv => by
      rw [k16.cell, g16, List.getElem?_toArray, Nat.zero_add, List.getElem?_append_left (List.getElem?_eq_some_iff.1 hv).1, hv]
    have hcome : ∀ W', Grown W W' → ComeX X W W' := fun W' h => ComeX.of_grown X h
    obtain ⟨CT, hCT⟩ : ∃ CT, stCells x.T = CT := ⟨_, rfl⟩
    have hlen : CT.length = 60 := by rw [← hCT, stCells_length]
    have hone := all_oneCell_toArray (int_one x.T)
    rw [hCT] at rg16 hone
    have hszT : (Try.prog.info? 33).map (·.size) = some CT.length := by rw [hlen]; kernel_rfl
    apply wpIn_block
    refine wp_region_round (by kernel_rfl) (by kernel_rfl) (fun ⟨_, _, e⟩ => e) ?_
    refine any_mixedS X [.pure, .held, .held, .make, .make, .make, .held, .pure, .held, .make, .tail, .tail, .tail] (by kernel_rfl) ?_
    dsimp only
    repeat (first | (refine mixS_pure rfl rfl rfl (fun K hK => ?_); go_big_quiet_op; refine hK _ ?_; clear hK K) | (refine mixS_held rfl rfl rfl (by assumption) (fun K hK => ?_); go_big_quiet_op; refine hK _ ?_; clear hK K))
    refine mixS_load rfl rfl hcome 33 (.tmp 41) rfl b16 0 rfl CT _ l16 nx16 rg16 Try.underlying33 rfl hszT ?_
    simp only [Act.put, List.setIfInBounds_toArray, List.set_cons_zero, List.set_cons_succ]
    refine mixS_hrun (.slice A1 n1 c1) rfl rfl hcome (fun V hV => runs_loadSl 34 41 (.tmp 13) rfl b13 0 rfl Try.underlying34 ((hV.cell l13 nx13).trans c13)) ?_
    simp only [Act.put, List.setIfInBounds_toArray, List.set_cons_zero, List.set_cons_succ]
    refine mixS_act rfl rfl hcome (fun v => v = .agg (pbCells (x.x, x.y)).toArray) (fun _ V => Grown W V) (fun V hV => goes_runs (runs_load 41 (.tmp 15) rfl b15 0 rfl (pbCells (x.x, x.y)) _ (Blk.range (k15.on hV)) Try.underlying41 rfl (by kernel_rfl)) ⟨⟨rfl, hV⟩, ComeX.refl X V⟩) ?_
    rintro _ rfl
    simp only [Act.put, List.setIfInBounds_toArray, List.set_cons_zero, List.set_cons_succ]
    refine mixS_act rfl rfl (fun _ h => h.2) (fun v => ∃ g, v = .slice (some ⟨g, 0, none⟩) 1 1) (fun v V => Grown W V ∧ ∃ g, v = .slice (some ⟨g, 0, none⟩) 1 1 ∧ Blk V g 41 (pbCells (x.x, x.y)).toArray) (fun V hV => goes_mono (goes_bs_pb (.tmp 44) rfl (x.x, x.y) rfl) ?_) ?_
    · rintro v V' ⟨rfl, rfl⟩
      exact ⟨⟨⟨_, rfl⟩, bAlloc hV.1 _, _, rfl, Blk.new _ _ _⟩, (ComeX.refl X V).below (bAlloc (Below.refl _ _) _)⟩
    rintro _ ⟨g, rfl⟩
    simp only [Act.put, List.setIfInBounds_toArray, List.set_cons_zero, List.set_cons_succ]
    refine mixS_act rfl rfl (fun _ h => h.2) (fun v => ∃ A c, v = .slice A (n1 + 1) c) (fun v V => OwnL V m 41 2 v pbCells ((pre.map fun r => (r.x, r.y)) ++ [(x.x, x.y)]) ∧ OwnL V m 45 9 (.slice A2 n2 c2) Ev.cells (pre.flatMap (·.L)) ∧ OwnL V 0 45 9 (.slice x.A j x.c) Ev.cells x.L) (fun V hV => goes_mono (goes_app_pb (.tmp 43) (.tmp 45) rfl m (.slice A1 n1 c1) (pre.map fun r => (r.x, r.y)) [(x.x, x.y)] (r3.below hV.1.1) rfl V.heap.size (some ⟨g, 0, none⟩) 1 1 rfl rfl ?_ ?_ ?_) ?_) ?_
    · obtain ⟨-, g1, e1, hb1⟩ := hV.1
      simp only [Value.slice.injEq, Option.some.injEq, Addr.mk.injEq, and_true] at e1
      subst e1
      exact fun _ => ⟨g, 0, rfl, hb1.lt, fun i u hu => by rw [Nat.zero_add, hb1.cell, List.getElem?_toArray, ← hu]; rfl⟩
    · rw [hn1]; simp only [List.length_singleton]; have : n1 = pre.length := by rw [← hn1, List.length_map]
      omega
    · exact Nat.le_trans hI.size hV.1.1.size
    · rintro v V' ⟨ho, hg⟩
      obtain ⟨A', c', e'⟩ := ho.shape
      have hne : ∀ (A3 : Option Addr) (n3 c3 : Nat) (m3 : Nat) (L3 : List Ev), OwnL V m3 45 9 (.slice A3 n3 c3) Ev.cells L3 → OwnL V' m3 45 9 (.slice A3 n3 c3) Ev.cells L3 := fun A3 n3 c3 m3 L3 h3 => h3.kept hg (by
        cases hb : (Value.slice A1 n1 c1).ownBlock with
        | none => cases hb3 : (Value.slice A3 n3 c3).ownBlock with
          | none => exact .inl rfl
          | some q => exact .inr (by simp)
        | some q => exact .inr (OwnL.apart h3 (r3.below hV.1.1) (by decide) hb))
      refine ⟨⟨⟨A', c', ?_⟩, ho, hne _ _ _ _ _ (r4.below hV.1.1), hne _ _ _ _ _ (hO.below hV.1.1)⟩, (ComeX.refl X V).grown hg (fun r e _ => by rw [hX]; exact .inl e)⟩
      rw [e', List.length_append, hn1]; rfl
    rintro _ ⟨A5, c5, rfl⟩
    simp only [Act.put, List.setIfInBounds_toArray, List.set_cons_zero, List.set_cons_succ]
    refine mixS_hrun (.slice A2 n2 c2) rfl rfl (fun _ h => h.2) (fun V hV => runs_loadSl 37 45 (.tmp 14) rfl (b13 + 1) 0 rfl Try.underlying37 ((hV.cell l14 nx14).trans c14)) ?_
    simp only [Act.put, List.setIfInBounds_toArray, List.set_cons_zero, List.set_cons_succ]
    repeat (first | (refine mixS_pure rfl rfl rfl (fun K hK => ?_); go_big_quiet_op; refine hK _ ?_; clear hK K) | fail)
    refine mixS_hrun (.slice x.A j x.c) rfl rfl (fun _ h => h.2) (fun V hV => runs_loadSl 37 45 (.tmp 48) rfl b16 60 rfl Try.underlying37 ((hV.cell l16 nx16).trans c16)) ?_
    simp only [Act.put, List.setIfInBounds_toArray, List.set_cons_zero, List.set_cons_succ]
    refine mixS_act rfl rfl (fun _ h => h.2) (fun v => ∃ A c, v = .slice A (n2 + j) c) (fun v V => OwnL V m 45 9 v Ev.cells ((pre.flatMap (·.L)) ++ x.L) ∧ OwnL V m 41 2 (.slice A5 (n1 + 1) c5) pbCells ((pre.map fun r => (r.x, r.y)) ++ [(x.x, x.y)])) (fun V hV => goes_mono (goes_app_ev (.tmp 47) (.tmp 49) rfl m (.slice A2 n2 c2) (pre.flatMap (·.L)) x.L hV.1.2.1 rfl V.heap.size x.A j x.c hj.symm rfl ?_ ?_ ?_) ?_) ?_
    · exact hV.1.2.2.rd
    · have := hI.short
      rw [hn2] at this ⊢
      omega
    · exact Nat.le_trans hI.size hV.2.size
    · rintro v V' ⟨ho, hg⟩
      obtain ⟨A', c', e'⟩ := ho.shape
      refine ⟨⟨⟨A', c', ?_⟩, ho, hV.1.1.kept hg ?_⟩, (ComeX.refl X V).grown hg (fun r e _ => by rw [hX]; exact .inr e)⟩
      · rw [e', List.length_append, hn2, hj]
      · cases hb : (Value.slice A2 n2 c2).ownBlock with
        | none => cases hb3 : (Value.slice A5 (n1 + 1) c5).ownBlock with
          | none => exact .inl rfl
          | some q => exact .inr (by simp)
        | some q => exact .inr (OwnL.apart hV.1.1 hV.1.2.1 (by decide) hb)
    rintro _ ⟨A9, c9, rfl⟩
    simp only [Act.put, List.setIfInBounds_toArray, List.set_cons_zero, List.set_cons_succ]
    refine mixS_store rfl rfl 33 (.tmp 12) (.tmp 42) rfl b12 0 CT.toArray rfl rfl (fun V hV => Blk.there (hV.2.blk k12 nx12) (by rw [List.size_toArray, List.size_toArray, stCells_length, hlen]; decide)) (by rw [List.size_toArray]; exact hszT) hone ?_
    simp only [Act.put, List.setIfInBounds_toArray, List.set_cons_zero, List.set_cons_succ]
    refine mixS_storeSl rfl rfl 34 (.tmp 13) (.tmp 46) rfl b13 0 A5 (n1 + 1) c5 rfl rfl (fun V' hV => by
      obtain ⟨V, hV, rfl⟩ := hV
      exact Blk.there ((hV.2.blk r1 nx13).farC (by omega) 0 _) (Nat.le_refl 1)) (by kernel_rfl) ?_
    simp only [Act.put, List.setIfInBounds_toArray, List.set_cons_zero, List.set_cons_succ]
    refine mixS_storeSl rfl rfl 37 (.tmp 14) (.tmp 50) rfl (b13 + 1) 0 A9 (n2 + j) c9 rfl rfl (fun V' hV => by
      obtain ⟨V1, ⟨V, hV, rfl⟩, rfl⟩ := hV
      exact Blk.there (((hV.2.blk r2 nx14).farC (by omega) 0 _).farG (by omega) 0 _) (Nat.le_refl 1)) (by kernel_rfl) ?_
    simp only [Act.put, List.setIfInBounds_toArray, List.set_cons_zero, List.set_cons_succ]
    refine mixS_nil ?_
    rintro W8 ⟨W7, ⟨W6, ⟨W5, ⟨⟨ho9, ho5⟩, hC⟩, rfl⟩, rfl⟩, rfl⟩
    have hlow : ∀ k, k ≠ b12 → k ≠ b13 → k ≠ b13 + 1 → (((W5.setCells b12 0 CT.toArray.toList).setCell ⟨b13, 0, none⟩ (.slice A5 (n1 + 1) c5)).setCell ⟨b13 + 1, 0, none⟩ (.slice A9 (n2 + j) c9)).heap[k]? = W5.heap[k]? := fun k e1 e2 e3 =>
      (Below.heap_setCell _ _ _ k e3).trans ((Below.heap_setCell _ _ _ k e2).trans (setCells_block W5 b12 _ 0 k e1))
    have hsz8 : (((W5.setCells b12 0 CT.toArray.toList).setCell ⟨b13, 0, none⟩ (.slice A5 (n1 + 1) c5)).setCell ⟨b13 + 1, 0, none⟩ (.slice A9 (n2 + j) c9)).heap.size = W5.heap.size := by simp [World.setCell, setCells_size]
    have hrest := setCells_rest W5 b12 CT.toArray.toList 0
    have t12 := ((hC.blk k12 nx12).whole CT.toArray.toList (by rw [List.size_toArray, stCells_length]; simp [hlen]))
    have t13 := ((hC.blk r1 nx13).farC (show b13 ≠ b12 by omega) 0 CT.toArray.toList).set 0 (.slice A5 (n1 + 1) c5)
    have t14 := (((hC.blk r2 nx14).farC (show b13 + 1 ≠ b12 by omega) 0 CT.toArray.toList).farG (show b13 + 1 ≠ b13 by omega) 0 (.slice A5 (n1 + 1) c5)).set 0 (.slice A9 (n2 + j) c9)
    have e1 : ((pre ++ [x]).map fun r => (r.x, r.y)) = (pre.map fun r => (r.x, r.y)) ++ [(x.x, x.y)] := by rw [List.map_append]; rfl
    have e2 : ((pre ++ [x]).flatMap (·.L)) = (pre.flatMap (·.L)) ++ x.L := by rw [List.flatMap_append]; simp
    obtain ⟨Z, hZ, k8⟩ := hI.s8
    have hm1 : b13 + 1 < m := by omega
    refine ⟨⟨by rw [hsz8]; exact hC.size, fun k o hk ho hc => ?_⟩, ⟨by rw [hsz8]; exact hC.size, fun r t cs hr ht1 ht2 hx => ?_⟩, ⟨⟨hrest.1.trans (hC.os.trans hI.below.os), hrest.2.1.trans (hC.tape.trans hI.below.tape), hrest.2.2.trans (hC.output.trans hI.below.output), by rw [hsz8]; exact Nat.le_trans hI.below.size hC.size, fun k hk => ?_⟩, ⟨Z, hZ, ?_⟩, ?_, ⟨A5, c5, A9, c9, ?_, ?_, ?_, ?_⟩, by rw [hsz8]; exact Nat.le_trans hI.size hC.size, ?_, hI.low⟩⟩
    · rw [hlow k (by omega) (by omega) (by omega), hC.block k (Array.getElem?_eq_some_iff.1 ho).1 (fun e => by
        obtain ⟨-, cur, E, fz, q, -⟩ := hXm k e
        rw [q] at ho; cases ho; cases hc)]
      exact ho
    · refine (hlow r (fun e => hx (.inl e)) (fun e => hx (.inr (.inl e))) (fun e => hx (.inr (.inr e)))).trans ((hC.block r hr.lt (fun e => ?_)).trans hr)
      obtain ⟨-, cur, E, fz, q, hE⟩ := hXm r e
      have h' : W.heap[r]? = some (.cells cs t (0, 0)) := hr
      rw [h'] at q; cases q
      rcases hE with h | h
      · exact ht2 h
      · exact ht1 h
    · rw [hlow k (by omega) (by omega) (by omega), hC.block k (Nat.lt_of_lt_of_le hk hI.below.size) (hXb k (by omega)), hI.below.block k hk]
    · exact (hlow _ (by omega) (by omega) (by omega)).trans (hC.blk k8 (hXb _ (by omega)))
    · rw [lastM_snoc, hCT]
      exact (t12.farG (by omega) 0 _).farG (by omega) 0 _
    · rw [e1, List.length_append, hn1]
      exact t13.farG (by omega) 0 _
    · rw [e2, List.length_append, hn2, hj]
      exact t14
    · rw [e1, List.length_append, hn1]
      exact ((ho5.farC (ho5.ne_low (by omega)) 0 _).farG (ho5.ne_low (by omega)) 0 _).farG (ho5.ne_low (by omega)) 0 _
    · rw [e2, List.length_append, hn2, hj]
      exact ((ho9.farC (ho9.ne_low (by omega)) 0 _).farG (ho9.ne_low (by omega)) 0 _).farG (ho9.ne_low (by omega)) 0 _
    · have := hI.short
      rw [e2, List.length_append, List.length_append, List.length_singleton]
      omega
  case done =>
    rintro D m xs W hD hS hI hK
    obtain ⟨Z, hZ, k8⟩ := hI.s8
    obtain ⟨A1, c1, A2, c2, r1, r2, r3, r4⟩ := hI.rows
    have k12 := hI.s12
    have hB := hI.below
    obtain ⟨hm, hm0⟩ := hI.low
    rw [HT0.out] at hS
    obtain ⟨f1, f2, f3⟩ := rounds_core hS
    rw [f1] at k12
    rw [f2] at r1 r3
    rw [f3] at r2 r4
    obtain ⟨n1, hn1⟩ : ∃ n1, ((preM a b T0 N).map (·.1)).length = n1 := ⟨_, rfl⟩
    obtain ⟨n2, hn2⟩ : ∃ n2, ((preM a b T0 N).flatMap (·.2.2)).length = n2 := ⟨_, rfl⟩
    rw [hn1] at r1 r3
    rw [hn2] at r2 r4
    obtain ⟨CF, hCF⟩ : ∃ CF, stCells (stM a b T0 N) = CF := ⟨_, rfl⟩
    have hlen : CF.length = 60 := by rw [← hCF, stCells_length]
    have hone := all_oneCell_toArray (int_one (stM a b T0 N))
    rw [hCF] at hone k12
    have hszT : (Try.prog.info? 33).map (·.size) = some CF.length := by rw [hlen]; kernel_rfl
    have l12 := k12.lt
    have l13 := r1.lt
    have l14 := r2.lt
    have c13 := r1.cell 0
    have c14 := r2.cell 0
    simp only [List.getElem?_toArray, List.getElem?_cons_zero] at c13 c14
    obtain ⟨X, hX⟩ : ∃ X : Nat → Prop, X = fun k => k = w.heap.size := ⟨_, rfl⟩
    have nx12 : ¬ X b12 := by rw [hX]; show ¬ (b12 = _); omega
    have nx13 : ¬ X b13 := by rw [hX]; show ¬ (b13 = _); omega
    have nx14 : ¬ X (b13 + 1) := by rw [hX]; show ¬ (b13 + 1 = _); omega
    have hcome : ∀ W', Grown W W' → ComeX X W W' := fun W' h => ComeX.of_grown X h
    clear hI f1 f2 f3 hS
    go_upto_region 10 with fail
    refine wp_region_mixedS X [.held, .held, .held, .make, .pure, .pure, .pure] (by kernel_rfl) (by kernel_rfl) ?_
    refine mixS_load rfl rfl hcome 33 (.tmp 12) rfl b12 0 rfl CF _ l12 nx12 (Blk.range k12) Try.underlying33 rfl hszT ?_
    simp only [Act.put, List.setIfInBounds_toArray, List.set_cons_zero, List.set_cons_succ]
    refine mixS_hrun (.slice A1 n1 c1) rfl rfl hcome (fun V hV => runs_loadSl 34 41 (.tmp 13) rfl b13 0 rfl Try.underlying34 ((hV.cell l13 nx13).trans c13)) ?_
    simp only [Act.put, List.setIfInBounds_toArray, List.set_cons_zero, List.set_cons_succ]
    refine mixS_hrun (.slice A2 n2 c2) rfl rfl hcome (fun V hV => runs_loadSl 37 45 (.tmp 14) rfl (b13 + 1) 0 rfl Try.underlying37 ((hV.cell l14 nx14).trans c14)) ?_
    simp only [Act.put, List.setIfInBounds_toArray, List.set_cons_zero, List.set_cons_succ]
    refine mixS_act rfl rfl hcome (fun v => v = undef) (fun _ V' => ∃ V, Grown W V ∧ V' = V.setCells w.heap.size 0 CF.toArray.toList) (fun V hV => goes_store 33 (.tmp 8) (.tmp 51) rfl w.heap.size 0 CF.toArray rfl rfl (Blk.there (k8.on hV) (by rw [List.size_toArray, hlen, hZ]; decide)) (by rw [List.size_toArray]; exact hszT) hone ⟨⟨rfl, V, hV, rfl⟩, ?_⟩) ?_
    · exact (ComeX.refl X V).grown (grownBy_setCells V w.heap.size 0 _) (fun r e _ => by cases e; rw [hX])
    rintro _ rfl
    simp only [Act.put, List.setIfInBounds_toArray, List.set_cons_zero, List.set_cons_succ]
    repeat (first | (refine mixS_pure rfl rfl rfl (fun K hK => ?_); go_big_quiet_op; refine hK _ ?_; clear hK K) | fail)
    refine mixS_nil ?_
    rintro W8 ⟨⟨W7, hg7, rfl⟩, -⟩
    have k88 : Blk (W7.setCells w.heap.size 0 CF.toArray.toList) w.heap.size 33 CF.toArray := (k8.on hg7).whole CF (by rw [hlen, hZ])
    have hB8 : Below w.heap.size w (W7.setCells w.heap.size 0 CF.toArray.toList) := bSetCells (bTrans hB hg7) (Nat.le_refl _) 0 _
    have hK8 : (W7.setCells w.heap.size 0 CF.toArray.toList).heap[D]? = some (.deferred (some [])) := (setCells_block W7 _ _ 0 D (by omega)).trans ((hg7.block D (Array.getElem?_eq_some_iff.1 hK).1).trans hK)
    have q3 := (r3.below hg7).farC (r3.ne_low (show w.heap.size < m by omega)) 0 CF.toArray.toList
    have q4 := (r4.below hg7).farC (r4.ne_low (show w.heap.size < m by omega)) 0 CF.toArray.toList
    obtain ⟨W9, hW9⟩ : ∃ W9, W7.setCells w.heap.size 0 CF.toArray.toList = W9 := ⟨_, rfl⟩
    rw [hW9] at k88 hB8 hK8 q3 q4 ⊢
    clear hW9
    go_wp2_with fail
    have hD9 : w.heap.size ≤ D := Nat.le_trans h0 hD
    refine ⟨by simp, .inl ⟨_, _, rfl, run_takeDeferred hK8, ?_⟩⟩
    have k9 := (k88.putObj (o' := .deferred none) hK8 rfl)
    have q5 := (q3.putObj (o' := .deferred none) hK8 rfl).more hm0
    have q6 := (q4.putObj (o' := .deferred none) hK8 rfl).more hm0
    have hB9 : Below w.heap.size w (W9.putObj D (.deferred none)) := hB8.grown (grownBy_putObj' W9 D (.deferred none)) hB8.size (fun k e => by cases e; exact hD9)
    refine ⟨.tuple #[.agg CF.toArray, .slice A1 n1 c1, .slice A2 n2 c2, .int .i64 0], ?_, ⟨_, _, by rw [hCF], q5, q6, hB9⟩⟩
    refine results_c3 (a := 8) (x := 9) (y := 10) (z := 11) (t := 33) (p := ⟨w.heap.size, 0, none⟩) (v := .agg CF.toArray) ?_ ?_ ?_
    · rfl
    · rfl
    · exact run_loadVar_mid _ _ _ 33 CF _ (Blk.range k9) Try.underlying33 rfl hszT
end Go.Proofs.Ytnaclkaapicelaa
