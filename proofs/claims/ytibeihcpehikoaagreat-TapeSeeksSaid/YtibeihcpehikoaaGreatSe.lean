/-
  The walks beneath: TapQ, DkPl.
-/
import Derived.Test.YtibeihcpehikoaaGreatSc
namespace Go.Proofs.YtibeihcpehikoaaGreat
open Go.RowKit
set_option maxRecDepth 100000
set_option maxHeartbeats 8000000
set_option linter.unusedSimpArgs false
section
theorem play_out {w : World} {base g : Nat} {s d x m : Int} {a b : List Nat} {n ev F : Nat} {ks : List (Nat → Int)} (h : DkW w base g s d x m a b n ev F ks) (f t : Int) (hO : f < 0 ∨ t < f ∨ (F : Int) < t) : Calls Tryz.prog 41 #[.pointer (some ⟨g, 0, none⟩), .int .i64 f, .int .i64 t] w fun e w' => e = .returned (.tuple #[.slice none 0 0, .int .i64 6]) ∧ Below w.heap.size w w' := by
 obtain ⟨A, B, K, cA, cB, nK, cK, hk, -, -, -⟩ := h.blk
 clear h
 refine (callsIn_wide (n := 3)).1 ?_
 refine callsIn_of_wp_marks Tryz.func41 rfl trivial ?_ rfl
 simp only [Tryz.ntmps41, zM, zH, zI, Nat.reduceAdd, Nat.reduceSub, Array.replicate_succ, Array.replicate_zero, List.push_toArray, List.append_toArray, List.nil_append, List.cons_append]
 refine wpIn_wide.2 ?_
 go_upto_region 1 with fail
 refine named1 (F := fun W => Code.wp _ _ _ _ W) ?_
 intro w1 k1 hb hz1
 have k2 := hk.on hb
 have HB := zz hb
 have c1 := k1.cell 0
 have l1 := k1.lt
 have d8 := k2.cell 8
 have dl := k2.lt
 simp only [zA, zB, zC] at c1 d8
 clear hk k1 k2 hb
 go_upto_region 3 with fail
 refine wp_region_mixedY [.pure, .pure, .pure, .held, .pure, .pure, .pure, .pure, .held, .pure, .pure, .pure, .held, .pure, .pure, .pure] (fun _ => ⟨fun _ => True, fun _ _ => True⟩) (by kernel_rfl) (by kernel_rfl) ?_
 by_cases h1 : f < 0
 ·clear hO
  repeat (first | (refine mixY_pure rfl rfl rfl (fun K hK => ?_); go_big_quiet_op; refine hK _ ?_; clear hK K) | (refine mixY_held rfl rfl rfl (fun K hK => ?_); go_big_quiet_op; refine hK _ ?_; clear hK K) | (refine mixY_skip rfl ?_; simp only [Act.put, zD, zE, zF]) | (refine mixY_hrun (.int .i64 (F : Int)) rfl rfl (fun W hW => by have q := (Below.cell (p := ⟨g, 8, none⟩) hW dl).trans d8; simp [RunsTo, execOp, go_sem, q]) ?_; simp only [Act.put, zD, zE, zF]))
  refine mixY_nil ?_
  intro W hW
  have HW := zz hW.1
  go_wp2_with fail
  exact ⟨.tuple #[.slice none 0 0, .int .i64 6], by simp [results, Tryz.results41, go_sem], rfl, bTrans HB.out HW.out⟩
 by_cases h2 : t < f
 ·clear hO
  repeat (first | (refine mixY_pure rfl rfl rfl (fun K hK => ?_); go_big_quiet_op; refine hK _ ?_; clear hK K) | (refine mixY_held rfl rfl rfl (fun K hK => ?_); go_big_quiet_op; refine hK _ ?_; clear hK K) | (refine mixY_skip rfl ?_; simp only [Act.put, zD, zE, zF]) | (refine mixY_hrun (.int .i64 (F : Int)) rfl rfl (fun W hW => by have q := (Below.cell (p := ⟨g, 8, none⟩) hW dl).trans d8; simp [RunsTo, execOp, go_sem, q]) ?_; simp only [Act.put, zD, zE, zF]))
  refine mixY_nil ?_
  intro W hW
  have HW := zz hW.1
  go_wp2_with fail
  exact ⟨.tuple #[.slice none 0 0, .int .i64 6], by simp [results, Tryz.results41, go_sem], rfl, bTrans HB.out HW.out⟩
 have h3 : (F : Int) < t := by omega
 clear hO
 repeat (first | (refine mixY_pure rfl rfl rfl (fun K hK => ?_); go_big_quiet_op; refine hK _ ?_; clear hK K) | (refine mixY_held rfl rfl rfl (fun K hK => ?_); go_big_quiet_op; refine hK _ ?_; clear hK K) | (refine mixY_skip rfl ?_; simp only [Act.put, zD, zE, zF]) | (refine mixY_hrun (.int .i64 (F : Int)) rfl rfl (fun W hW => by have q := (Below.cell (p := ⟨g, 8, none⟩) hW dl).trans d8; simp [RunsTo, execOp, go_sem, q]) ?_; simp only [Act.put, zD, zE, zF]))
 refine mixY_nil ?_
 intro W hW
 have HW := zz hW.1
 go_wp2_with fail
 exact ⟨.tuple #[.slice none 0 0, .int .i64 6], by simp [results, Tryz.results41, go_sem], rfl, bTrans HB.out HW.out⟩
end
section
open Go.RowKit Go.Shelf
attribute [local go_sem] Oper.semAt_some
attribute [local irreducible] wpMixY
def pgD (r : PgR) : List Value := [.int .i64 (r.k : Int), .slice r.A r.L.length r.c]
theorem pgD_length (r : PgR) : (pgD r).length = 2 := rfl
theorem infoPd : (Tryz.prog.info? 54).map (fun i => (i.zero, i.size, i.bytes)) = some (some (.agg #[.int .i64 0, .slice none 0 0]), 2, 32) := by kernel_rfl
theorem pds_oneCell (l : List PgR) : ∀ u ∈ l.flatMap pgD, u.oneCell' = true := fun u hu => by
 obtain ⟨q, -, hq⟩ := List.mem_flatMap.1 hu
 simp only [pgD, List.mem_cons, List.not_mem_nil, or_false] at hq
 rcases hq with rfl | rfl <;> rfl
theorem goes_app_pd {W : World} {o : Oper} {a : Act} (s x : Operand) (ho : o.op = .call { callee := .builtin .append, args := #[s, x], argTypes := #[27, 27] }) (base : Nat) (u : Value) (L M : List PgR) (hown : OwnL W base 54 2 u pgD L) (hs : a.eval s = u)
  (B : Nat) (A : Option Addr) (m c : Nat) (hm : m = M.length) (hx : a.eval x = .slice A m c) (hr : Rd W B A (M.flatMap pgD)) (hn : L.length + M.length ≤ 1000000000) (hbase : base ≤ W.heap.size) :
  Oper.goes Tryz.prog o a W (fun v' W' => OwnL W' base 54 2 v' pgD (L ++ M) ∧ W.grownBy W' u.ownBlock ∧ (v'.ownBlock = u.ownBlock ∨ v'.ownBlock = some W.heap.size)) := by
 subst hm
 obtain ⟨i0, hi0, hz0, hz1, hz2⟩ := info_parts infoPd
 obtain ⟨v', w', hrun, h2, h3, h4⟩ := append_rd_run (P := Tryz.prog) W base 27 o.type 54 i0 _ 2 32 Tryz.underlying27 hi0 hz0 hz1 hz2 rfl (by decide) u L.length (L.flatMap pgD) hown B A M.length c (M.flatMap pgD) (length_flatMap_const _ _ pgD_length _) hr (rd_none pgD_length (by decide) hr) (pds_oneCell M) (by unfold maxLen; omega) (by omega) hbase
 have hr : (execOp a.eval o).run Tryz.prog W = .ok (.value v') w' := by
  unfold execOp
  simp only [ho, resolve, invoke, builtin, Sem.run_bind, Sem.run_pure, Result.andThen_ok, List.map_toArray, List.map_cons, List.map_nil, hs, hx, hrun]
 unfold Oper.goes
 rw [hr]
 exact ⟨OwnL.app rfl h2, h3, h4⟩
structure PJ (inp : Nat → Nat × Nat) (S : Nat → Int) (F f t w0 b8 : Nat) (w : World) (m : Nat) (pre : List PgR) (W : World) : Prop where
 below : Below w0 w W
 row : ∃ A1 c1, Blk W b8 27 #[.slice A1 pre.length c1] ∧ OwnL W m 54 2 (.slice A1 pre.length c1) pgD pre
 evs : ∀ r ∈ pre, OwnL W m 62 9 (.slice r.A r.L.length r.c) Ev.cells r.L ∧ r.L.length ≤ 22
 con : ∀ j (hj : j < pre.length), pre[j].k = f + j ∧ pre[j].L = evP inp S F (f + j)
 size : m ≤ W.heap.size
 low : b8 < m ∧ w0 ≤ m
 upto : f + pre.length ≤ t
section
variable {inp : Nat → Nat × Nat} {S : Nat → Int} {F f t w0 b8 m : Nat} {w A A' : World} {pre : List PgR}
theorem PJ.keeps {row : Option Nat} {B : Nat} (h : PJ inp S F f t w0 b8 w m pre A) (hg : A.grownBy A' row) (hB : w0 ≤ B ∧ b8 < B) (hw : w0 ≤ A.heap.size)
  (hr : ∀ r, row = some r → B ≤ r ∧ ((∃ o : Obj, A.heap[r]? = some o ∧ o.isCells = false) ∨ (r < m ∧ ∃ o : Obj, A.heap[r]? = some o ∧ o.isCells = true))) : PJ inp S F f t w0 b8 w m pre A' := by
 have hne : ∀ b, b < B → row ≠ some b := fun b hb e => by have := (hr b e).1; omega
 obtain ⟨A1, c1, r1, r2⟩ := h.row
 exact ⟨h.below.grown hg hw (fun k e => by have := (hr k e).1; omega), ⟨A1, c1, r1.grown hg (hne _ hB.2), r2.away hg hr⟩, fun r hrr => ⟨(h.evs r hrr).1.away hg hr, (h.evs r hrr).2⟩, h.con, Nat.le_trans h.size hg.size, h.low, h.upto⟩
theorem PJ.on (h : PJ inp S F f t w0 b8 w m pre A) (hg : Below A.heap.size A A') (hw : w0 ≤ A.heap.size) : PJ inp S F f t w0 b8 w m pre A' := by
 obtain ⟨A1, c1, r1, r2⟩ := h.row
 exact ⟨h.below.trans (hg.mono hw), ⟨A1, c1, r1.on hg, r2.below hg⟩, fun r hrr => ⟨(h.evs r hrr).1.below hg, (h.evs r hrr).2⟩, h.con, Nat.le_trans h.size hg.size, h.low, h.upto⟩
end
theorem play_in (s d x mm : Int) (a b : List Nat) (na ev F f t base g : Nat) (w : World) (hs : U32 s) (hd : 0 ≤ d ∧ d ≤ 8) (hF : (F : Int) = d + (min a.length b.length : Nat)) (hal : a.length = na) (hbl : b.length = na) (hna : na ≤ 1000) (hev : 1 ≤ ev ∧ ev ≤ 20000) (hft : f ≤ t) (htF : t ≤ F)
    (h63a : ∀ x ∈ a, x < 64) (h63b : ∀ x ∈ b, x < 64) (hD : DkW w base g s d x mm a b na ev F (keptS (inpT d.toNat a b) (beginS s) ev (F + 1))) :
    Calls Tryz.prog 41 #[.pointer (some ⟨g, 0, none⟩), .int .i64 (f : Int), .int .i64 (t : Int)] w fun e w' => ∃ (A' : Option Addr) (cp : Nat) (xs : List PgR), e = .returned (.tuple #[.slice A' xs.length cp, .int .i64 0]) ∧ xs.length = t - f ∧ (∀ j (hj : j < xs.length), xs[j].k = f + j ∧ xs[j].L = evP (inpT d.toNat a b) (beginS s) F (f + j)) ∧
      OwnL w' w.heap.size 54 2 (.slice A' xs.length cp) pgD xs ∧ (∀ r ∈ xs, OwnL w' w.heap.size 62 9 (.slice r.A r.L.length r.c) Ev.cells r.L ∧ r.L.length ≤ 22) ∧ Below w.heap.size w w' := by
  obtain ⟨A, B, K, cA, cB, nK, cK, hk, -, -, -⟩ := hD.blk
  have HK := zz hk
  have HSEQ := zz (fun (w2 : World) (b1 b2 go : Nat) (h0 : Below w.heap.size w w2) hgo hne k1 k2 hp => pages_stB 2 (by decide) s d x mm a b na ev F f base g go b1 b2 w w2 hs hd hF hal hbl hna hev (Nat.le_trans hft htF) h63a h63b hD h0 hgo hne k1 k2 hp)
  have hF1 : F ≤ 1008 := by omega
  clear hD hk hF hal hbl h63a h63b
  refine (callsIn_wide (n := 3)).1 ?_
  refine callsIn_of_wp_marks Tryz.func41 rfl trivial ?_ rfl
  simp only [Tryz.ntmps41, zM, zH, zI, Nat.reduceAdd, Nat.reduceSub, Array.replicate_succ, Array.replicate_zero, List.push_toArray, List.append_toArray, List.nil_append, List.cons_append]
  refine wpIn_wide.2 ?_
  go_upto_region 1 with fail
  refine named1 (F := fun W => Code.wp _ _ _ _ W) ?_
  intro w1 k5 hb hz1
  have kd := HK.out.on hb
  have c5 := k5.cell 0
  have d8 := kd.cell 8
  simp only [zA, zB, zC] at c5 d8
  have l5 := k5.lt
  have ld := kd.lt
  have K5 := zz k5
  have HB := zz hb
  clear k5 kd hz1 hb
  have g1 : decide ((f : Int) < 0) = false := decide_eq_false (by omega)
  have g2 : decide (t < f) = false := decide_eq_false (by omega)
  have g3 : decide (F < t) = false := decide_eq_false (by omega)
  go_upto_region 3 with fail
  refine wp_region_mixedY [.pure, .pure, .pure, .held, .pure, .pure, .pure, .pure, .held, .pure, .pure, .pure, .held, .pure, .pure, .pure] (fun _ => ⟨fun _ => True, fun _ _ => True⟩) (by kernel_rfl) (by kernel_rfl) ?_
  repeat (first | (refine mixY_pure rfl rfl rfl (fun K hK => ?_); go_big_quiet_op; refine hK _ ?_; clear hK K) | (refine mixY_held rfl rfl rfl (fun K hK => ?_); go_big_quiet_op; refine hK _ ?_; clear hK K) | (refine mixY_skip rfl ?_; simp only [Act.put, zD, zE, zF]) | (refine mixY_hrun (.int .i64 (F : Int)) rfl rfl (fun W hW => by have q := (Below.cell (p := ⟨g, 8, none⟩) hW ld).trans d8; simp [RunsTo, execOp, go_sem, q]) ?_; simp only [Act.put, zD, zE, zF]))
  refine mixY_nil ?_
  intro w2 hW
  have hb2 := hW.1
  have K52 := zz (K5.out.on hb2)
  have HB2 := zz (bTrans HB.out hb2)
  clear hW c5 d8 l5 ld K5 HB hb2
  go_upto_region 6 with fail
  refine named1 (F := fun W => Code.wp _ _ _ _ W) ?_
  intro w3 k8 hb3 hz3
  have K8 := zz k8
  have K53 := zz (K52.out.on hb3)
  have HB3 := zz (bTrans HB2.out hb3)
  have hzz := HB2.out.size
  have l52 := K52.out.lt
  obtain ⟨b8, hb8⟩ : ∃ b8, w2.heap.size = b8 := ⟨_, rfl⟩
  rw [hb8] at K8 hzz l52 ⊢
  clear k8 hb3 hz3 K52 HB2 hb8
  have HPG := zz (fun V => pages_any g (f : Int) V)
  go_wp2_with (first
    | (go_at_call 96; refine (HPG.out _).mono ?_; rintro e w6 ⟨rfl, q1, q2, q3, q4⟩; have Q1 := zz q1; have Q2 := zz q2; have Q3 := zz q3; have Q4 := zz q4; clear q1 q2 q3 q4))
  have hz3 : b8 < w3.heap.size := K8.out.lt
  have hz6 : w3.heap.size ≤ w6.heap.size := Q4.out.size
  have K86 := zz (K8.out.on Q4.out)
  have K56 := zz (K53.out.on Q4.out)
  have HB6 := zz (bTrans HB3.out Q4.out)
  have c8c := K86.out.cell 0
  simp only [zA, zB] at c8c
  have hseq := HSEQ.out w6 w3.heap.size (w3.heap.size + 1) b8 HB6.out ⟨by omega, by omega⟩ ⟨by omega, by omega⟩ Q1.out Q2.out (fun r n c e => by
    rw [c8c] at e; cases e)
  obtain ⟨v3, hv3⟩ : ∃ v3, w3.heap.size = v3 := ⟨_, rfl⟩
  rw [hv3] at hseq hz3 hz6 ⊢
  have hv6 : v3 < w6.heap.size := by have := Q1.out.lt; omega
  have hwb : w.heap.size ≤ b8 := hzz
  have hb86 : b8 < w6.heap.size := by omega
  clear c8c K8 K53 HB3 Q1 Q2 Q3 Q4 HSEQ HPG hv3
  refine (wpIn_wide (n := 3)).1 ?_
  refine wpIn_rangeFunc_stB (by decide) (gf := 166) (lb := #[.pointer (some ⟨v3, 0, none⟩), .pointer (some ⟨v3 + 1, 0, none⟩)]) rfl (enters_of Tryz.func166 (by kernel_rfl) rfl)
    hseq (fun _ => rfl) (fun h k => KpG.trans h k) (fun W l o o' hl ho hc => KpG.put W l o o' hl (by omega) ho hc)
    (fun m pre V => PJ (inpT d.toNat a b) (beginS s) F f t w.heap.size b8 w m pre V ∧ Blk V w.heap.size 3 #[.int .i64 (t : Int)])
    (fun c m xs V => c = .exit 1 ∧ ∃ pre x, xs = pre ++ [x] ∧ PJ (inpT d.toNat a b) (beginS s) F f t w.heap.size b8 w m pre V ∧ f + pre.length = t)
    (fun m pre V V' row h hg hr => ⟨h.1.keeps hg (B := w6.heap.size) ⟨by omega, by omega⟩ (by have := h.1.below.size; omega) hr, h.2.grown hg (fun e => by have := (hr _ e).1; omega)⟩)
    (fun c m xs V V' row h hg hr => by
      obtain ⟨h1, pre, x, h2, h3, h4⟩ := h
      exact ⟨h1, pre, x, h2, h3.keeps hg (B := w6.heap.size) ⟨by omega, by omega⟩ (by have := h3.below.size; omega) hr, h4⟩)
    (fun V hg => ?start)
    (fun x a' V => ∃ g9, w6.heap.size ≤ g9 ∧ Blk V g9 54 #[.int .i64 (x.k : Int), .slice x.A x.L.length x.c] ∧ a' = { tmps := #[.pointer (some ⟨g, 0, none⟩), .int .i64 (f : Int), .int .i64 (t : Int), undef, undef, .pointer (some ⟨w.heap.size, 0, none⟩), .slice none 0 0, .int .i64 0, .pointer (some ⟨b8, 0, none⟩), .pointer (some ⟨g9, 0, none⟩), .bool false, .pointer (some ⟨g, 0, none⟩), .bool false, .bool false, .int .i64 (f : Int), .bool false, .bool false, .int .i64 (t : Int), .int .i64 (f : Int), .bool false, .bool false, .bool false, .int .i64 (t : Int), .pointer (some ⟨g, 0, none⟩), .pointer (some ⟨g, 0, none⟩), .pointer (some ⟨g, 8, none⟩), .int .i64 (F : Int), .bool false, .bool false, .pointer (some ⟨g, 0, none⟩), .int .i64 (f : Int), .func (.func 166) #[] #[.pointer (some ⟨v3, 0, none⟩), .pointer (some ⟨v3 + 1, 0, none⟩)], .agg #[.int .i64 (x.k : Int), .slice x.A x.L.length x.c], .agg (stCells x.T).toArray, undef, undef, undef, undef, undef, undef, undef, undef, undef], defers := [] })
    (fun x a' V l o o' h hl ho hc => ?ax) ?assign (fun m pre x V l o o' h hl ho hc => ⟨h.1.putObj ho hc, h.2⟩) ?body ?done ?stop
  case start =>
    have hbA : Below w6.heap.size w6 V := ⟨hg.os, hg.tape, hg.output, hg.size, fun k hk => hg.block k hk (by simp)⟩
    exact ⟨⟨bTrans HB6.out hbA, ⟨none, 0, K86.out.on hbA, OwnL.nil⟩, fun r hr => by simp at hr, fun j hj => by simp at hj, zL _, ⟨by have := hg.size; omega, by have := hg.size; omega⟩, by simpa using hft⟩, K56.out.on hbA⟩
  case ax =>
    obtain ⟨g9, h1, h2, h3⟩ := h
    exact ⟨g9, h1, h2.putObj ho hc, h3⟩
  case assign =>
    rintro l m pre x W K hm hI hY hK
    unfold PgR.encs
    obtain ⟨CR, hCR⟩ : ∃ CR, (stCells x.T).toArray = CR := ⟨_, rfl⟩
    obtain ⟨j, hj⟩ : ∃ j, x.L.length = j := ⟨_, rfl⟩
    rw [hCR, hj] at hK ⊢
    have HK := zz hK
    have HI := zz hI
    have HY := zz hY
    clear hK hI hY hCR hj
    dsimp only
    gi_wp2_with fail
    have hb7 : Below W.heap.size W (W.alloc (.cells #[.int .i64 (x.k : Int), .slice x.A j x.c] 54)) := bAlloc (Below.refl _ _) _
    have hIW : w6.heap.size ≤ W.heap.size := Nat.le_trans hm HI.out.1.size
    exact HK.out _ _ ⟨hb7.size, fun k o _ ho _ => (hb7.block k (Array.getElem?_eq_some_iff.1 ho).1).trans ho⟩ (KpG.grown hb7 hIW (by omega)) ⟨HI.out.1.on hb7 (by have := HI.out.1.below.size; omega), HI.out.2.on hb7⟩ ⟨HY.out.1.below hb7, HY.out.2⟩ ⟨W.heap.size, hIW, Blk.new _ _ _, rfl⟩
  case body =>
    rintro l m pre x a' W hm ⟨hI, h5⟩ ⟨hO, hl22, hxk, hxF, -, hxL⟩ ⟨g9, hg9, k9, rfl⟩
    obtain ⟨A1, c1, r1, r2⟩ := hI.row
    have hBW : w6.heap.size ≤ W.heap.size := Nat.le_trans hm hI.size
    obtain ⟨n1, hn1⟩ : ∃ n1, pre.length = n1 := ⟨_, rfl⟩
    obtain ⟨j, hj⟩ : ∃ j, x.L.length = j := ⟨_, rfl⟩
    obtain ⟨xk, hxkk⟩ : ∃ xk, x.k = xk := ⟨_, rfl⟩
    obtain ⟨CR, hCR⟩ : ∃ CR, (stCells x.T).toArray = CR := ⟨_, rfl⟩
    have hup := hI.upto
    rw [hn1] at r1 r2 hxk hup
    rw [hxkk] at hxk hxF k9 hxL
    rw [hj] at k9
    have c10 := r1.cell 0
    have f10 := r1.frozen 0
    have l10 := r1.lt
    have p0 := k9.cell 0
    have p1 := k9.cell 1
    have t0 := h5.cell 0
    simp only [zA, zB, zC] at c10 p0 p1 t0
    have l9 := k9.lt
    have l5 := h5.lt
    have R1 := zz r1
    have R2 := zz r2
    have HI := zz hI
    have HO := zz hO
    have HJ := zz hj
    have H5 := zz h5
    have HL := zz hxL
    have HXK := zz hxkk
    have HLN := zz hn1
    have hpc : pgD x = [.int .i64 (xk : Int), .slice x.A j x.c] := by unfold pgD; rw [hj, hxkk]
    have HPC := zz hpc
    have HL22 := zz hl22
    have HXN := zz hxk
    rw [hCR, hj, hxkk]
    have hwm := hI.low.2
    have hb8m := hI.low.1
    by_cases hbr : t ≤ xk
    · have g1 : decide (t ≤ xk) = true := decide_eq_true hbr
      have hEq : f + n1 = t := by omega
      clear r1 r2 hI hO hj hn1 hpc hxkk hCR k9 h5 hxL hl22 hxk hbr
      gi_wp2_with fail
      exact ⟨⟨zL _, fun k o _ ho _ => ho⟩, rfl, pre, x, rfl, HI.out, by rw [HLN.out]; exact hEq⟩
    · have g1 : decide (t ≤ xk) = false := decide_eq_false hbr
      have hlt : f + n1 < t := by omega
      clear r1 r2 hI hO hj hn1 hpc hxkk hCR h5 hxL hl22 hxk hbr
      have K9 := zz k9
      clear k9
      gi_wp2_with (first
        | (refine wpListIn_goes rfl (by intro c h; cases h) rfl (goes_app_pd (.tmp 38) (.tmp 40) rfl m (.slice A1 n1 c1) pre [x] (R2.out.alloc _) rfl (W.heap.size + 1) (some ⟨W.heap.size, 0, none⟩) 1 1 rfl rfl ?_ ?_ ?_) ?_
           · have := rd_new W #[.int .i64 (xk : Int), .slice x.A j x.c] 54 W.heap.size rfl (W.heap.size + 1) (by omega)
             simp only [List.flatMap_cons, List.flatMap_nil, List.append_nil]
             rw [HPC.out]
             exact this
           · rw [HLN.out, List.length_singleton]; omega
           · rw [World.size_alloc]; exact Nat.le_succ_of_le HI.out.size
           rintro v7 w7 ⟨ho7, hg7, hv7⟩
           obtain ⟨A7, c7, e7⟩ := ho7.shape
           rw [zG, HLN.out, List.length_singleton] at e7
           subst e7
           have hne : ∀ b, b < m → (Value.slice A1 n1 c1).ownBlock ≠ some b := fun b hb => R2.out.ne_low hb
           have k10 : Blk w7 b8 27 #[.slice A1 n1 c1] := (R1.out.alloc _).grown hg7 (hne _ hb8m)
           have q10 := k10.cell 0
           have p10 := k10.frozen 0
           have ql10 := k10.lt
           simp only [zA, zB] at q10
           have HO7 := zz ho7
           have HG7 := zz hg7
           have HV7 := zz hv7
           have K10' := zz k10
           clear ho7 hg7 hv7 k10 hne))
      have hA1 : ∀ r, (Value.slice A1 n1 c1).ownBlock = some r → A1 = some ⟨r, 0, none⟩ := fun r e => by
        rcases R2.out.2 with ⟨h, -⟩ | ⟨g', cap, cur, hv, -⟩
        · rw [h] at e; simp [Value.ownBlock] at e
        · rw [hv] at e
          simp only [Value.ownBlock, Option.some.injEq] at e
          simp only [Value.slice.injEq] at hv
          rw [hv.1, e]
      have hlow7 : ∀ k, k < W.heap.size → (Value.slice A1 n1 c1).ownBlock ≠ some k → k ≠ b8 → (w7.setCell ⟨b8, 0, none⟩ (.slice A7 (n1 + 1) c7)).heap[k]? = W.heap[k]? := fun k hk h1 h2 =>
        (Below.heap_setCell w7 _ _ k h2).trans ((HG7.out.block k (by rw [World.size_alloc]; omega) (fun e => h1 e.symm)).trans (Below.heap_alloc W _ k hk))
      have hz7 : W.heap.size ≤ (w7.setCell ⟨b8, 0, none⟩ (.slice A7 (n1 + 1) c7)).heap.size := by
        have := HG7.out.size
        rw [World.size_alloc] at this
        simp only [World.size_setCell]; omega
      have hown : ∀ (A3 : Option Addr) (n3 c3 : Nat) (L3 : List Ev), OwnL W m 62 9 (.slice A3 n3 c3) Ev.cells L3 → OwnL (w7.setCell ⟨b8, 0, none⟩ (.slice A7 (n1 + 1) c7)) m 62 9 (.slice A3 n3 c3) Ev.cells L3 := fun A3 n3 c3 L3 h3 => by
        refine (OwnL.kept (h3.alloc _) HG7.out ?_).farG (OwnL.ne_low (OwnL.kept (h3.alloc _) HG7.out ?_) hb8m) 0 _
        all_goals
          cases hb : (Value.slice A1 n1 c1).ownBlock with
          | none => cases hb3 : (Value.slice A3 n3 c3).ownBlock with
            | none => exact .inl rfl
            | some q => exact .inr (by simp)
          | some q => exact .inr (OwnL.apart h3 R2.out (by decide) hb)
      have kq := K10'.out.set 0 (.slice A7 (n1 + 1) c7)
      refine ⟨⟨hz7, fun k o hk ho hc => ?_⟩, ⟨hz7, fun r hr hx => ?_, fun r t' cs hk hx hnp => ?_, fun r n c e => ?_⟩, ⟨?_, ⟨A7, c7, ?_, ?_⟩, fun r' hr' => ?_, fun i hi => ?_, Nat.le_trans HI.out.size hz7, HI.out.low, by rw [zG, HLN.out, List.length_singleton]; omega⟩, ?_⟩
      · refine (hlow7 k (Array.getElem?_eq_some_iff.1 ho).1 (fun e => ?_) (fun e => by omega)).trans ho
        obtain ⟨-, cur, fz, q⟩ := R2.out.isRow e
        rw [q] at ho; cases ho; cases hc
      · exact hlow7 r (by omega) (R2.out.ne_low (by omega)) hx
      · refine (hlow7 r hk.lt (fun e => ?_) hx).trans hk
        rw [hA1 r e] at c10
        exact hnp n1 c1 c10
      · have e2 := kq.cell 0
        simp only [zA, zB, zD, zE] at e2
        rw [e2] at e
        simp only [Option.some.injEq, Value.slice.injEq] at e
        obtain ⟨rfl, -, -⟩ := e
        rcases HV7.out with h | h
        · have h2 := hA1 r (by rw [← h]; rfl)
          exact .inl ⟨n1, c1, by rw [c10, h2]⟩
        · have h3 : some r = some (W.alloc (.cells #[.int .i64 (xk : Int), .slice x.A j x.c] 54)).heap.size := h
          rw [World.size_alloc] at h3
          have h4 : r = W.heap.size + 1 := Option.some.inj h3
          have h5 : r < w7.heap.size := HO7.out.block_lt r rfl
          exact .inr ⟨by omega, by rw [World.size_setCell]; exact h5⟩
      · exact bSetG ((bAlloc HI.out.below _).grown HG7.out (by rw [World.size_alloc]; have := HI.out.below.size; omega) (fun k e => Nat.le_trans hwm (R2.out.base_le k e))) hwb _ _
      · rw [zG, HLN.out, List.length_singleton]
        exact kq
      · rw [zG, HLN.out, List.length_singleton]
        exact HO7.out.farG (HO7.out.ne_low hb8m) 0 _
      · rcases List.mem_append.1 hr' with hr' | hr'
        · exact ⟨hown _ _ _ _ (HI.out.evs r' hr').1, (HI.out.evs r' hr').2⟩
        · rw [List.mem_singleton.1 hr']
          exact ⟨hown _ _ _ _ HO.out, HL22.out⟩
      · rw [List.getElem_append]
        split
        · rename_i h; exact HI.out.con i h
        · rename_i h
          have hin : i = n1 := by rw [zG, List.length_singleton] at hi; have := HLN.out; omega
          subst hin
          rw [List.getElem_singleton, HXK.out, HL.out, HXN.out]
          exact ⟨rfl, rfl⟩
      · exact (hlow7 _ (by omega) (R2.out.ne_low (by omega)) (by omega)).trans H5.out
  case done =>
    rintro D m xs W hD hS ⟨hI, -⟩ hK
    have hS : xs.length = F + 1 - f := hS
    have := hI.upto
    omega
  case stop =>
    rintro D c m xs W hD hS ⟨rfl, pre, x, rfl, hI, hpt⟩ hK
    obtain ⟨A1, c1, r1, r2⟩ := hI.row
    have c10 := r1.cell 0
    have l10 := r1.lt
    simp only [zA, zB] at c10
    have R2 := zz r2
    have HI := zz hI
    have HD := zz hD
    obtain ⟨np, hnp⟩ : ∃ np, pre.length = np := ⟨_, rfl⟩
    have HNP := zz hnp
    rw [hnp] at c10 hpt
    clear hI hD hS r1 r2 hnp
    refine wpIn_wide.2 ?_
    go_wp2_with fail
    refine ⟨by simp, .inl ⟨_, _, rfl, run_takeDeferred hK, ?_⟩⟩
    refine ⟨.tuple #[.slice A1 np c1, .int .i64 0], ?_, A1, c1, pre, by rw [HNP.out], by rw [HNP.out]; omega, HI.out.con, ?_, fun r hr => ?_, ?_⟩
    · simp [results, Tryz.results41, go_sem]
    · exact (R2.out.putObj hK rfl).more HI.out.low.2
    · exact ⟨((HI.out.evs r hr).1.putObj hK rfl).more HI.out.low.2, (HI.out.evs r hr).2⟩
    · exact HI.out.below.grown (grownBy_putObj' W D (.deferred none)) HI.out.below.size (fun k e => by cases e; have := HD.out; have := HB6.out.size; omega)
end
end Go.Proofs.YtibeihcpehikoaaGreat
