/-
  The ledger's start.
-/
import Derived.Test.YteccmklacgpodaaLNil
import Derived.Test.YteccmklacgpodaaMapX
import Derived.Test.YteccmklacgpodaaLgP
import Derived.Test.YteccmklacgpodaaRow
namespace Go.Proofs.Yteccmklacgpodaa
open Go.RowKit
set_option maxRecDepth 100000
set_option linter.unusedSimpArgs false
/-- What start answers. -/
inductive StartR (most now : Int) (L : List (Key4 × Ev)) (e z : Ev) : Bool → List Value → Bool → List (Key4 × Ev) → Prop
  | same : z = e → StartR most now L e z true (cmdC 0 zeroE 0 false) false L
  | turn (L' : List (Key4 × Ev)) : z ≠ e → StoreL L L' e → StartR most now L e z true (cmdC 2 e 0 false) true L'
  | full : most ≤ L.length → StartR most now L e z false (cmdC 0 zeroE 0 false) false L
  | fresh (L' : List (Key4 × Ev)) : (L.length : Int) < most → StoreL L L' e → StartR most now L e z false (cmdC 1 e (now - e.frame) false) true L'
theorem lg_results {P : Program} {fn : Func} {tmps : Array Value} {w : World} {a t x : Nat} {p : Addr} {v : Value} (hr : fn.results = #[.cell a t, .tmp x]) (ha : tmps.getD a undef = .pointer (some p)) (hl : (loadVar t p).run P w = .ok v w) :
    (results fn tmps).run P w = .ok (.tuple #[v, tmps.getD x undef]) w := by
  unfold results
  rw [hr]
  simp only [List.mapM_toArray, List.mapM_cons, List.mapM_nil, ha, asAddr]
  simp [hl]
theorem cmd_oneCell (k : Int) (e : Ev) (l : Int) (p : Bool) : (cmdC k e l p).toArray.all (·.oneCell') = true := by
  rw [Array.all_eq_true_iff_forall_mem]
  intro u hu
  simp only [cmdC, Ev.cells, List.mem_toArray, List.cons_append, List.nil_append, List.mem_cons, List.not_mem_nil, or_false] at hu
  rcases hu with rfl | rfl | rfl | rfl | rfl | rfl | rfl | rfl | rfl | rfl | rfl | rfl <;> rfl
theorem lg_load {W : World} {g : Nat} {cs : List Value} (h : Blk W g 57 cs.toArray) (hl : cs.length = 12) : (loadVar 57 ⟨g, 0, none⟩).run Try.prog W = .ok (.agg cs.toArray) W :=
  run_loadVar_mid W g 0 57 cs _ (fun j v hv => by rw [Nat.zero_add, h.cell j, List.getElem?_toArray]; exact hv) Try.underlying57 rfl (by rw [hl]; kernel_rfl)
theorem lg_grown {w W : World} {b : Nat} (h : Below w.heap.size w W) : w.grownBy W (some b) := ⟨h.os, h.tape, h.output, h.size, fun k hk _ => h.block k hk⟩
theorem zero_ev (W : World) : (zeroValue 43).run Try.prog W = .ok zeroE.val W := by kernel_rfl
set_option maxHeartbeats 4000000 in
theorem start_any (g b t : Nat) (most com now : Int) (halt : Bool) (L : List (Key4 × Ev)) (e z : Ev) (ok told : Bool) (out : List Value) (L' : List (Key4 × Ev)) (w : World) (hlen : L.length ≤ 1000) (hnow : 0 ≤ now - e.frame ∧ now - e.frame ≤ 4611686018427387904) (hres : StartR most now L e z ok out told L') (hG : Blk w g 62 #[.int .i64 most, .map (some b), .map (some t), .int .i64 com, .bool halt]) (hM : MapIs Key4.val Ev.val Try.prog 41 w b L) (hw : e.key.Wf)
    (hno : (∀ p ∈ L, p.1.val ≠ e.key.val) → z = zeroE ∧ ok = false) (hyes : ∀ p ∈ L, p.1.val = e.key.val → z = p.2 ∧ ok = true) :
    Calls Try.prog 30 #[.pointer (some ⟨g, 0, none⟩), e.val, .int .i64 now] w fun x w' => x = .returned (.tuple #[.agg out.toArray, .bool told]) ∧ MapIs Key4.val Ev.val Try.prog 41 w' b L' ∧ w.grownBy w' (some b) := by
  obtain ⟨kl, hkl⟩ := key_lit e.key hw
  have hbw := hM.lt
  obtain ⟨W1, hW1⟩ : ∃ W1, W1 = (w.alloc (.cells #[.int .i64 e.frame, .int .i64 e.emitter, .int .i64 e.kind, .int .i64 e.ord, .int .i64 e.asset, .int .i64 e.gain, .int .i64 e.pan, .int .i64 e.prio, .int .i64 e.len] 43)).alloc (.cells (cmdC 0 zeroE 0 false).toArray 57) := ⟨_, rfl⟩
  have kE : Blk W1 w.heap.size 43 #[.int .i64 e.frame, .int .i64 e.emitter, .int .i64 e.kind, .int .i64 e.ord, .int .i64 e.asset, .int .i64 e.gain, .int .i64 e.pan, .int .i64 e.prio, .int .i64 e.len] := by rw [hW1]; exact (Blk.new _ _ _).alloc _
  have kG : Blk W1 g 62 #[.int .i64 most, .map (some b), .map (some t), .int .i64 com, .bool halt] := by rw [hW1]; exact (hG.alloc _).alloc _
  have hB1 : Below w.heap.size w W1 := by rw [hW1]; exact bAlloc (bAlloc (Below.refl _ _) _) _
  have hM1 : MapIs Key4.val Ev.val Try.prog 41 W1 b L := hM.same (hB1.block b hM.lt)
  have kC : Blk W1 (w.heap.size + 1) 57 (cmdC 0 zeroE 0 false).toArray := by rw [hW1]; have := Blk.new (w.alloc (.cells #[.int .i64 e.frame, .int .i64 e.emitter, .int .i64 e.kind, .int .i64 e.ord, .int .i64 e.asset, .int .i64 e.gain, .int .i64 e.pan, .int .i64 e.prio, .int .i64 e.len] 43)) 57 (cmdC 0 zeroE 0 false).toArray; rw [World.size_alloc] at this; exact this
  have KC := Lib.hid kC
  have c1 := kG.cell 1
  have lG := kG.lt
  have lE := kE.lt
  simp only [List.getElem?_toArray, List.getElem?_cons_zero, List.getElem?_cons_succ] at c1
  have KE := Lib.hid kE
  have KG := Lib.hid kG
  have HB1 := Lib.hid hB1
  have HM1 := Lib.hid hM1
  have HNO := Lib.hid hno
  have HYES := Lib.hid hyes
  have HKL := Lib.hid hkl
  have hre : W1.rangeAt w.heap.size 0 e.key.cells := fun j v hv => by
    have h4 : j < 4 := by
      have := (List.getElem?_eq_some_iff.1 hv).1
      simpa [Key4.cells] using this
    rw [Nat.zero_add, kE.cell j]
    obtain rfl | rfl | rfl | rfl : j = 0 ∨ j = 1 ∨ j = 2 ∨ j = 3 := by omega
    all_goals exact hv
  have HRE := Lib.hid hre
  clear kC kE kG hB1 hM1 hno hyes hkl hre hG hM hw
  unfold Ev.val
  go_enter Try.func30, Try.ntmps30
  go_upto_region 1 with fail
  have e1 : (cmdC 0 zeroE 0 false).toArray = #[.int .i64 0, .int .i64 0, .int .i64 0, .int .i64 0, .int .i64 0, .int .i64 0, .int .i64 0, .int .i64 0, .int .i64 0, .int .i64 0, .int .i64 0, .bool false] := rfl
  rw [e1] at hW1
  rw [← hW1]
  clear hW1 e1
  have hKp := Keeps.base W1
  refine wp_region_mixed [.pure, .pure, .pure, .held, .pure, .held, .held, .pure, .pure, .pure, .make, .tail, .pure] (fun _ => lgNew W1 43 zeroE.cells.toArray) (by kernel_rfl) (by kernel_rfl) ?_
  repeat (first | (refine mix_pure rfl rfl rfl (fun K hK => ?_); go_big_quiet_op; refine hK _ ?_; clear hK K) | (refine mix_held rfl rfl rfl (by assumption) (fun K hK => ?_); go_big_quiet_op; refine hK _ ?_; clear hK K))
  refine mix_load rfl rfl (by assumption) 41 (.tmp 15) rfl w.heap.size 0 rfl e.key.cells _ lE HRE.out Try.underlying41 rfl (by kernel_rfl) ?_
  simp only [Act.put, List.setIfInBounds_toArray, List.set_cons_zero, List.set_cons_succ]
  refine mix_look rfl rfl (by assumption) (.tmp 14) (.tmp 16) 59 41 43 rfl key_law Try.underlying59 zero_ev b L rfl HM1.out e.key kl rfl HKL.out (.tuple #[z.val, .bool ok]) (fun h => by obtain ⟨rfl, rfl⟩ := HNO.out h; rfl) (fun p hp h => by obtain ⟨rfl, rfl⟩ := HYES.out p hp h; rfl) ?_
  simp only [Act.put, List.setIfInBounds_toArray, List.set_cons_zero, List.set_cons_succ]
  repeat (first | (refine mix_pure rfl rfl rfl (fun K hK => ?_); go_big_quiet_op; refine hK _ ?_; clear hK K) | (refine mix_held rfl rfl rfl (by assumption) (fun K hK => ?_); go_big_quiet_op; refine hK _ ?_; clear hK K))
  refine mix_make rfl rfl (by assumption) lgNew_st (lgNew_makes rfl zero_ev rfl) ?_
  rintro v ⟨g8, rfl⟩ hKp2
  simp only [Act.put, List.setIfInBounds_toArray, List.set_cons_zero, List.set_cons_succ]
  refine mix_store rfl rfl 43 (.tmp 8) (.tmp 18) rfl g8 0 z.cells.toArray rfl rfl (fun W hW => ?_) (by kernel_rfl) (by rw [Array.all_eq_true_iff_forall_mem]; intro u hu; exact lg_oneCell [z] u (by simpa using hu)) ?_
  · exact Blk.there (hW.2 g8 rfl).2 (by simp [Ev.cells])
  simp only [Act.put, List.setIfInBounds_toArray, List.set_cons_zero, List.set_cons_succ]
  repeat (first | (refine mix_pure rfl rfl rfl (fun K hK => ?_); go_big_quiet_op; refine hK _ ?_; clear hK K) | (refine mix_held rfl rfl rfl (by assumption) (fun K hK => ?_); go_big_quiet_op; refine hK _ ?_; clear hK K))
  refine mix_nil ?_
  rintro W' ⟨W, ⟨hg, hR⟩, rfl⟩
  obtain ⟨hge, hBg⟩ := hR g8 rfl
  have k8 := hBg.whole z.cells.toArray.toList rfl
  rw [Array.toArray_toList] at k8
  have hb2 := bSetCells (HB1.out.trans (Below.mono hg (Below.size HB1.out))) (Nat.le_trans (Below.size HB1.out) hge) 0 z.cells.toArray.toList
  have hb12 := bSetCells hg hge 0 z.cells.toArray.toList
  obtain ⟨w2, hW2⟩ : ∃ w2, W.setCells g8 0 z.cells.toArray.toList = w2 := ⟨_, rfl⟩
  rw [hW2] at k8 hb2 hb12 ⊢
  have K8 : Hid (Blk w2 g8 43 #[.int .i64 z.frame, .int .i64 z.emitter, .int .i64 z.kind, .int .i64 z.ord, .int .i64 z.asset, .int .i64 z.gain, .int .i64 z.pan, .int .i64 z.prio, .int .i64 z.len]) := Lib.hid k8
  have KE2 := Lib.hid (KE.out.on hb12)
  have KG2 := Lib.hid (KG.out.on hb12)
  have HM2 : Hid (MapIs Key4.val Ev.val Try.prog 41 w2 b L) := Lib.hid (HM1.out.same (hb12.block b HM1.out.lt))
  have HB2 := Lib.hid hb2
  have KC2 := Lib.hid (KC.out.on hb12)
  have lC2 := KC2.out.lt
  have lb2 := HM2.out.lt
  have HG2 : Hid (w.grownBy w2 none) := Lib.hid ⟨hb2.os, hb2.tape, hb2.output, hb2.size, fun k hk _ => hb2.block k hk⟩
  have HRE2 : Hid (w2.rangeAt w.heap.size 0 e.key.cells) := Lib.hid (fun j v hv => (Below.cell (p := ⟨w.heap.size, 0 + j, none⟩) hb12 lE).trans (HRE.out j v hv))
  have HEE2 : Hid (w2.rangeAt w.heap.size 0 e.cells) := Lib.hid (fun j v hv => by
    rw [Nat.zero_add, KE2.out.cell j]
    have : (#[.int .i64 e.frame, .int .i64 e.emitter, .int .i64 e.kind, .int .i64 e.ord, .int .i64 e.asset, .int .i64 e.gain, .int .i64 e.pan, .int .i64 e.prio, .int .i64 e.len] : Array Value) = e.cells.toArray := rfl
    rw [this, List.getElem?_toArray]; exact hv)
  have l8 := K8.out.lt
  have lE2 := KE2.out.lt
  have lG2 := KG2.out.lt
  clear hKp hKp2 hg hR hge hBg k8 hb2 hb12 hW2 lE lG KE KG HM1 HB1 HRE c1
  have g0 := KG2.out.cell 0
  have g1 := KG2.out.cell 1
  simp only [List.getElem?_toArray, List.getElem?_cons_zero, List.getElem?_cons_succ] at g0 g1
  cases hres
  case full hful =>
    go_upto_region 7 with fail
    have hKp := Keeps.base w2
    refine wp_region_mixed [.pure, .pure, .pure, .held, .held, .pure, .pure, .pure, .held, .pure, .pure] (fun _ => lgNew w2 43 zeroE.cells.toArray) (by kernel_rfl) (by kernel_rfl) ?_
    repeat (first | (refine mix_pure rfl rfl rfl (fun K hK => ?_); go_big_quiet_op; refine hK _ ?_; clear hK K) | (refine mix_held rfl rfl rfl (by assumption) (fun K hK => ?_); go_big_quiet_op; refine hK _ ?_; clear hK K))
    refine mix_lenM rfl rfl (by assumption) (.tmp 43) 59 41 43 rfl Try.underlying59 b L rfl HM2.out ?_
    simp only [Act.put, List.setIfInBounds_toArray, List.set_cons_zero, List.set_cons_succ]
    repeat (first | (refine mix_pure rfl rfl rfl (fun K hK => ?_); go_big_quiet_op; refine hK _ ?_; clear hK K) | (refine mix_held rfl rfl rfl (by assumption) (fun K hK => ?_); go_big_quiet_op; refine hK _ ?_; clear hK K))
    refine mix_nil ?_
    intro w3 hg3
    have KC3 := Lib.hid (KC2.out.on hg3)
    have HM3 := Lib.hid (HM2.out.same (hg3.block b lb2))
    have HB3 := Lib.hid (HB2.out.trans (Below.mono hg3 (Below.size HB2.out)))
    have lC3 := KC3.out.lt
    clear hKp hg3 KC2 KE2 KG2 K8 HG2 HRE2 HEE2
    go_wp2_with (first
      | (refine wpList_store_mid rfl 57 (.tmp 6) (.tmp 50) rfl (w.heap.size + 1) 0 (cmdC 0 zeroE 0 false).toArray rfl rfl (Blk.there KC3.out (by decide)) (by kernel_rfl) (by kernel_rfl) ?_))
    have kf := KC3.out.whole (cmdC 0 zeroE 0 false) rfl
    refine bodyPost_ret (lg_results (a := 6) (t := 57) (x := 7) rfl rfl (lg_load kf rfl)) rfl ⟨rfl, HM3.out.same (setCells_block _ _ _ 0 b (by omega)), lg_grown (bSetCells HB3.out (Nat.le_succ _) 0 _)⟩
  case fresh hfr hst =>
    have HST := Lib.hid hst
    go_upto_region 7 with fail
    have hKp := Keeps.base w2
    refine wp_region_mixed [.pure, .pure, .pure, .held, .held, .pure, .pure, .pure, .held, .pure, .pure] (fun _ => lgNew w2 43 zeroE.cells.toArray) (by kernel_rfl) (by kernel_rfl) ?_
    repeat (first | (refine mix_pure rfl rfl rfl (fun K hK => ?_); go_big_quiet_op; refine hK _ ?_; clear hK K) | (refine mix_held rfl rfl rfl (by assumption) (fun K hK => ?_); go_big_quiet_op; refine hK _ ?_; clear hK K))
    refine mix_lenM rfl rfl (by assumption) (.tmp 43) 59 41 43 rfl Try.underlying59 b L rfl HM2.out ?_
    simp only [Act.put, List.setIfInBounds_toArray, List.set_cons_zero, List.set_cons_succ]
    repeat (first | (refine mix_pure rfl rfl rfl (fun K hK => ?_); go_big_quiet_op; refine hK _ ?_; clear hK K) | (refine mix_held rfl rfl rfl (by assumption) (fun K hK => ?_); go_big_quiet_op; refine hK _ ?_; clear hK K))
    refine mix_nil ?_
    intro w3 hg3
    have KC3 := Lib.hid (KC2.out.on hg3)
    have KE3 := Lib.hid (KE2.out.on hg3)
    have KG3 := Lib.hid (KG2.out.on hg3)
    have HM3 := Lib.hid (HM2.out.same (hg3.block b lb2))
    have HB3 := Lib.hid (HB2.out.trans (Below.mono hg3 (Below.size HB2.out)))
    have HRE3 : Hid (w3.rangeAt w.heap.size 0 e.key.cells) := Lib.hid (fun j v hv => (Below.cell (p := ⟨w.heap.size, 0 + j, none⟩) hg3 lE2).trans (HRE2.out j v hv))
    have HEE3 : Hid (w3.rangeAt w.heap.size 0 e.cells) := Lib.hid (fun j v hv => (Below.cell (p := ⟨w.heap.size, 0 + j, none⟩) hg3 lE2).trans (HEE2.out j v hv))
    have lE3 := KE3.out.lt
    have lG3 := KG3.out.lt
    have g31 := KG3.out.cell 1
    simp only [List.getElem?_toArray, List.getElem?_cons_zero, List.getElem?_cons_succ] at g31
    clear hKp hg3 KC2 KE2 KG2 K8 HG2 HRE2 HEE2 g0 g1 lE2 lG2 l8 lC2 lb2 HM2 HB2 hst
    go_upto_region 9 with fail
    have hKp := Keeps.base w3
    refine wp_region_mixed [.pure, .pure, .pure, .held, .pure, .held, .held, .tail] (fun _ => lgNew w3 43 zeroE.cells.toArray) (by kernel_rfl) (by kernel_rfl) ?_
    repeat (first | (refine mix_pure rfl rfl rfl (fun K hK => ?_); go_big_quiet_op; refine hK _ ?_; clear hK K) | (refine mix_held rfl rfl rfl (by assumption) (fun K hK => ?_); go_big_quiet_op; refine hK _ ?_; clear hK K))
    refine mix_load rfl rfl (by assumption) 41 (.tmp 55) rfl w.heap.size 0 rfl e.key.cells _ lE3 HRE3.out Try.underlying41 rfl (by kernel_rfl) ?_
    simp only [Act.put, List.setIfInBounds_toArray, List.set_cons_zero, List.set_cons_succ]
    refine mix_load rfl rfl (by assumption) 43 (.tmp 4) rfl w.heap.size 0 rfl e.cells _ lE3 HEE3.out Try.underlying43 rfl (by kernel_rfl) ?_
    simp only [Act.put, List.setIfInBounds_toArray, List.set_cons_zero, List.set_cons_succ]
    refine mix_storeM rfl rfl (.tmp 54) (.tmp 56) (.tmp 57) 59 41 43 rfl key_law Try.underlying59 b L L' rfl (fun W hW => HM3.out.same (hW.block b HM3.out.lt)) (by unfold maxLen; omega) e.key e kl rfl rfl HKL.out HST.out.1 HST.out.2.1 HST.out.2.2.1 HST.out.2.2.2 ?_
    refine mix_nil ?_
    rintro w4 ⟨V, hV, hM4, hT4⟩
    have hgb := hT4.grown
    have hnC : w.heap.size + 1 ≠ b := by omega
    have hnE : w.heap.size ≠ b := by omega
    have KC4 := Lib.hid ((KC3.out.on hV).grown hgb (by simp; omega))
    have KE4 := (KE3.out.on hV).grown hgb (by simp; omega)
    have HGW : Hid (w.grownBy w4 (some b)) := Lib.hid ((lg_grown (HB3.out.trans (Below.mono hV (Below.size HB3.out)))).trans hgb)
    have HM4 := Lib.hid hM4
    have lC4 := KC4.out.lt
    have lE4 := KE4.lt
    have x0 := KE4.cell 0; have x1 := KE4.cell 1; have x2 := KE4.cell 2; have x3 := KE4.cell 3; have x4 := KE4.cell 4; have x5 := KE4.cell 5; have x6 := KE4.cell 6; have x7 := KE4.cell 7; have x8 := KE4.cell 8
    simp only [List.getElem?_toArray, List.getElem?_cons_zero, List.getElem?_cons_succ] at x0 x1 x2 x3 x4 x5 x6 x7 x8
    obtain ⟨hn1, hn2⟩ := hnow
    clear hV hM4 hT4 hgb KE4 KC3 KE3 KG3 HM3 HB3 HRE3 HEE3 lE3 lG3 g31 hKp
    go_wp2_with (first
      | (refine wpList_store_mid rfl 57 (.tmp 6) (.tmp 64) rfl (w.heap.size + 1) 0 (cmdC 1 e (now - e.frame) false).toArray rfl rfl (Blk.there KC4.out (Nat.le_of_eq rfl)) (by kernel_rfl) (cmd_oneCell _ _ _ _) ?_))
    obtain ⟨C, hC⟩ : ∃ C, cmdC 1 e (now - e.frame) false = C := ⟨_, rfl⟩
    have hC12 : C.length = 12 := by rw [← hC]; rfl
    have kf := KC4.out.whole C (by rw [hC12]; rfl)
    have hm5 := HM4.out.same (setCells_block w4 (w.heap.size + 1) C 0 b (by omega))
    have hb5 := bSetCells (Below.refl w.heap.size w4) (Nat.le_succ w.heap.size) 0 C
    have hg5 : w.grownBy (w4.setCells (w.heap.size + 1) 0 C) (some b) := ⟨hb5.os.trans HGW.out.os, hb5.tape.trans HGW.out.tape, hb5.output.trans HGW.out.output, Nat.le_trans HGW.out.size hb5.size, fun k hk hx => (setCells_block _ _ _ 0 k (by omega)).trans (HGW.out.block k hk hx)⟩
    rw [hC]
    obtain ⟨w5, hW5⟩ : ∃ w5, w4.setCells (w.heap.size + 1) 0 C = w5 := ⟨_, rfl⟩
    rw [hW5] at kf hm5 hg5
    rw [hW5]
    clear hb5
    exact bodyPost_ret (lg_results (a := 6) (t := 57) (x := 7) rfl rfl (lg_load kf hC12)) rfl ⟨rfl, hm5, hg5⟩
  case same =>
    have hz : z = e := by assumption
    rw [hz] at K8 ⊢
    have KE3 := KE2.out
    have K83 := K8.out
    have x0 := KE3.cell 0; have x1 := KE3.cell 1; have x2 := KE3.cell 2; have x3 := KE3.cell 3; have x4 := KE3.cell 4; have x5 := KE3.cell 5; have x6 := KE3.cell 6; have x7 := KE3.cell 7; have x8 := KE3.cell 8
    have y0 := K83.cell 0; have y1 := K83.cell 1; have y2 := K83.cell 2; have y3 := K83.cell 3; have y4 := K83.cell 4; have y5 := K83.cell 5; have y6 := K83.cell 6; have y7 := K83.cell 7; have y8 := K83.cell 8
    simp only [List.getElem?_toArray, List.getElem?_cons_zero, List.getElem?_cons_succ] at x0 x1 x2 x3 x4 x5 x6 x7 x8 y0 y1 y2 y3 y4 y5 y6 y7 y8
    clear KE3 K83
    go_wp2_with (first
      | (refine wpList_store_mid rfl 57 (.tmp 6) (.tmp 27) rfl (w.heap.size + 1) 0 (cmdC 0 zeroE 0 false).toArray rfl rfl (Blk.there KC2.out (by decide)) (by kernel_rfl) (by kernel_rfl) ?_))
    have kf := KC2.out.whole (cmdC 0 zeroE 0 false) rfl
    refine bodyPost_ret (lg_results (a := 6) (t := 57) (x := 7) rfl rfl (lg_load kf rfl)) rfl ⟨rfl, HM2.out.same (setCells_block _ _ _ 0 b (by omega)), lg_grown (bSetCells HB2.out (Nat.le_succ _) 0 _)⟩
  case turn =>
    have hz : z ≠ e := by assumption
    have hst : StoreL L L' e := by assumption
    have HST := Lib.hid hst
    have HZ : Hid (decide (z = e) = false) := Lib.hid (decide_eq_false hz)
    have x0 := KE2.out.cell 0; have x1 := KE2.out.cell 1; have x2 := KE2.out.cell 2; have x3 := KE2.out.cell 3; have x4 := KE2.out.cell 4; have x5 := KE2.out.cell 5; have x6 := KE2.out.cell 6; have x7 := KE2.out.cell 7; have x8 := KE2.out.cell 8
    have y0 := K8.out.cell 0; have y1 := K8.out.cell 1; have y2 := K8.out.cell 2; have y3 := K8.out.cell 3; have y4 := K8.out.cell 4; have y5 := K8.out.cell 5; have y6 := K8.out.cell 6; have y7 := K8.out.cell 7; have y8 := K8.out.cell 8
    simp only [List.getElem?_toArray, List.getElem?_cons_zero, List.getElem?_cons_succ] at x0 x1 x2 x3 x4 x5 x6 x7 x8 y0 y1 y2 y3 y4 y5 y6 y7 y8
    clear hst hz
    go_upto_region 5 with (first | (refine wpList_runs (.bool false) rfl (by rw [← HZ.out]; exact runs_eql rfl rfl rfl (by kernel_rfl) (ev_eql z e) _) ?_))
    clear x0 x1 x2 x3 x4 x5 x6 x7 x8 y0 y1 y2 y3 y4 y5 y6 y7 y8 g0
    have hKp := Keeps.base w2
    refine wp_region_mixed [.pure, .pure, .pure, .held, .pure, .held, .held, .tail] (fun _ => lgNew w2 43 zeroE.cells.toArray) (by kernel_rfl) (by kernel_rfl) ?_
    repeat (first | (refine mix_pure rfl rfl rfl (fun K hK => ?_); go_big_quiet_op; refine hK _ ?_; clear hK K) | (refine mix_held rfl rfl rfl (by assumption) (fun K hK => ?_); go_big_quiet_op; refine hK _ ?_; clear hK K))
    refine mix_load rfl rfl (by assumption) 41 (.tmp 34) rfl w.heap.size 0 rfl e.key.cells _ lE2 HRE2.out Try.underlying41 rfl (by kernel_rfl) ?_
    simp only [Act.put, List.setIfInBounds_toArray, List.set_cons_zero, List.set_cons_succ]
    refine mix_load rfl rfl (by assumption) 43 (.tmp 4) rfl w.heap.size 0 rfl e.cells _ lE2 HEE2.out Try.underlying43 rfl (by kernel_rfl) ?_
    simp only [Act.put, List.setIfInBounds_toArray, List.set_cons_zero, List.set_cons_succ]
    refine mix_storeM rfl rfl (.tmp 33) (.tmp 35) (.tmp 36) 59 41 43 rfl key_law Try.underlying59 b L L' rfl (fun W hW => HM2.out.same (hW.block b HM2.out.lt)) (by unfold maxLen; omega) e.key e kl rfl rfl HKL.out HST.out.1 HST.out.2.1 HST.out.2.2.1 HST.out.2.2.2 ?_
    refine mix_nil ?_
    rintro w4 ⟨V, hV, hM4, hT4⟩
    have hgb := hT4.grown
    have hnC : w.heap.size + 1 ≠ b := by omega
    have hnE : w.heap.size ≠ b := by omega
    have KC4 := Lib.hid ((KC2.out.on hV).grown hgb (by simp; omega))
    have KE4 := (KE2.out.on hV).grown hgb (by simp; omega)
    have HGW : Hid (w.grownBy w4 (some b)) := Lib.hid ((lg_grown (HB2.out.trans (Below.mono hV (Below.size HB2.out)))).trans hgb)
    have HM4 := Lib.hid hM4
    have lC4 := KC4.out.lt
    have lE4 := KE4.lt
    have x0 := KE4.cell 0; have x1 := KE4.cell 1; have x2 := KE4.cell 2; have x3 := KE4.cell 3; have x4 := KE4.cell 4; have x5 := KE4.cell 5; have x6 := KE4.cell 6; have x7 := KE4.cell 7; have x8 := KE4.cell 8
    simp only [List.getElem?_toArray, List.getElem?_cons_zero, List.getElem?_cons_succ] at x0 x1 x2 x3 x4 x5 x6 x7 x8
    clear hV hM4 hT4 hgb KE4 KC2 KE2 KG2 HM2 HB2 HRE2 HEE2 lE2 lG2 g1 hKp K8 HG2 l8 lC2
    go_wp2_with (first
      | (refine wpList_store_mid rfl 57 (.tmp 6) (.tmp 38) rfl (w.heap.size + 1) 0 (cmdC 2 e 0 false).toArray rfl rfl (Blk.there KC4.out (Nat.le_of_eq rfl)) (by kernel_rfl) (cmd_oneCell _ _ _ _) ?_))
    obtain ⟨C, hC⟩ : ∃ C, cmdC 2 e 0 false = C := ⟨_, rfl⟩
    have hC12 : C.length = 12 := by rw [← hC]; rfl
    have kf := KC4.out.whole C (by rw [hC12]; rfl)
    have hm5 := HM4.out.same (setCells_block w4 (w.heap.size + 1) C 0 b (by omega))
    have hb5 := bSetCells (Below.refl w.heap.size w4) (Nat.le_succ w.heap.size) 0 C
    have hg5 : w.grownBy (w4.setCells (w.heap.size + 1) 0 C) (some b) := ⟨hb5.os.trans HGW.out.os, hb5.tape.trans HGW.out.tape, hb5.output.trans HGW.out.output, Nat.le_trans HGW.out.size hb5.size, fun k hk hx => (setCells_block _ _ _ 0 k (by omega)).trans (HGW.out.block k hk hx)⟩
    rw [hC]
    obtain ⟨w5, hW5⟩ : ∃ w5, w4.setCells (w.heap.size + 1) 0 C = w5 := ⟨_, rfl⟩
    rw [hW5] at kf hm5 hg5
    rw [hW5]
    clear hb5
    exact bodyPost_ret (lg_results (a := 6) (t := 57) (x := 7) rfl rfl (lg_load kf hC12)) rfl ⟨rfl, hm5, hg5⟩
end Go.Proofs.Yteccmklacgpodaa
