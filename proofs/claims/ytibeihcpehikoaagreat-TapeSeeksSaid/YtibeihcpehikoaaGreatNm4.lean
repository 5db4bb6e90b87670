/-
  The walks beneath: States, StatesW, EvByR, TapG.
-/
import Derived.Test.YtibeihcpehikoaaGreatNl8
import Derived.Test.YtibeihcpehikoaaGreatNm3
namespace Go.Proofs.YtibeihcpehikoaaGreat
open Go.RowKit
set_option maxRecDepth 100000
set_option maxHeartbeats 16000000
set_option linter.unusedSimpArgs false
section
def evC (r : TrR) : List Value := [.slice r.A r.L.length r.c]
theorem evC_length (r : TrR) : (evC r).length = 1 := rfl
theorem infoEL : (Tryz.prog.info? 52).map (fun i => (i.zero, i.size, i.bytes)) = some (some (.slice none 0 0), 1, 24) := by kernel_rfl
theorem els_oneCell (l : List TrR) : ∀ u ∈ l.flatMap evC, u.oneCell' = true := fun u hu => by
 obtain ⟨q, -, hq⟩ := List.mem_flatMap.1 hu
 simp only [evC, List.mem_cons, List.not_mem_nil, or_false] at hq
 rcases hq with rfl
 rfl
theorem goes_app_el {W : World} {o : Oper} {a : Act} (s x : Operand) (ho : o.op = .call { callee := .builtin .append, args := #[s, x], argTypes := #[49, 49] }) (base : Nat) (u : Value) (L M : List TrR) (hown : OwnL W base 52 1 u evC L) (hs : a.eval s = u)
  (B : Nat) (A : Option Addr) (m c : Nat) (hm : m = M.length) (hx : a.eval x = .slice A m c) (hr : Rd W B A (M.flatMap evC)) (hn : L.length + M.length ≤ 100000000) (hbase : base ≤ W.heap.size) :
  Oper.goes Tryz.prog o a W (fun v' W' => OwnL W' base 52 1 v' evC (L ++ M) ∧ W.grownBy W' u.ownBlock) := by
 subst hm
 obtain ⟨i0, hi0, hz0, hz1, hz2⟩ := info_parts infoEL
 refine goes_mono (goes_app s x 49 ho base 52 i0 _ 1 24 Tryz.underlying49 hi0 hz0 hz1 hz2 rfl (by decide) u L.length (L.flatMap evC) hs hown B A M.length c (M.flatMap evC) hx (length_flatMap_const _ _ evC_length _) hr (rd_none evC_length (by decide) hr) (els_oneCell M) (by unfold maxLen; omega) (by omega) hbase) ?_
 rintro v' W' ⟨h2, h3⟩
 exact ⟨OwnL.app rfl h2, h3⟩
theorem goes_bs_el {W : World} {o : Oper} {a : Act} (y : Operand) (ho : o.op = .buildSlice 49 1 #[(0, y)]) (r : TrR) (hy : a.eval y = .slice r.A r.L.length r.c) : Oper.goes Tryz.prog o a W (fun v W' => v = .slice (some ⟨W.heap.size, 0, none⟩) 1 1 ∧ W' = W.alloc (.cells (evC r).toArray 52)) := by
 obtain ⟨i0, hi0, hz0, hz1, hz2⟩ := info_parts infoEL
 refine goes_bs 49 52 1 _ ho _ i0 _ Tryz.underlying49 hi0 hz0 (by rw [hz1]; decide) (by rw [hz1]; decide) ?_
 rw [hz1]
 simp only [List.map_toArray, List.map_cons, List.map_nil, hy]
 simp [Instr.fill, evC, go_sem]
theorem goes_bs_el0 {W : World} {o : Oper} {a : Act} (ho : o.op = .buildSlice 49 0 #[]) : Oper.goes Tryz.prog o a W (fun v W' => v = .slice (some ⟨W.heap.size, 0, none⟩) 0 0 ∧ W' = W.alloc (.cells #[] 52)) := by
 obtain ⟨i0, hi0, hz0, hz1, hz2⟩ := info_parts infoEL
 unfold Oper.goes execOp
 simp [ho, go_sem]
def stsT (inp : Nat → Nat × Nat) (S : Nat → Int) (N : Nat) : List (Nat → Int) := (List.range (N + 1)).map (stT inp S)
theorem stsT_succ (inp : Nat → Nat × Nat) (S : Nat → Int) (N : Nat) : stsT inp S (N + 1) = stsT inp S N ++ [stT inp S (N + 1)] := by
 unfold stsT
 rw [List.range_succ, List.map_append]; rfl
theorem stsT_length (inp : Nat → Nat × Nat) (S : Nat → Int) (N : Nat) : (stsT inp S N).length = N + 1 := by unfold stsT; simp
theorem stsT_get (inp : Nat → Nat × Nat) (S : Nat → Int) (N k : Nat) (h : k < (stsT inp S N).length) : (stsT inp S N)[k] = stT inp S k := by simp only [stsT, List.getElem_map, List.getElem_range]
section
variable {α β : Type} {W W2 : World} {E E' : TypeId} {base base' k k' : Nat} {v v' : Value} {f : α → List Value} {f' : β → List Value} {l : List α} {l' : List β}
theorem OwnL.keptBy (h : OwnL W base E k v f l) (h' : OwnL W base' E' k' v' f' l') (hne : E ≠ E') (hg : W.grownBy W2 v'.ownBlock) : OwnL W2 base E k v f l := OwnL.kept h hg (by
 cases hb : v'.ownBlock with
 | none => cases hb3 : v.ownBlock with
  | none => exact .inl rfl
  | some q => exact .inr (by simp)
 | some q => exact .inr (OwnL.apart h h' hne hb))
end
structure StF (w0 : World) (s d x y : Int) (v1 v2 : Value) (ss : List (Nat → Int)) (xs : List TrR) (W : World) : Prop where
 cf : Blk W w0.heap.size 24 #[.int .u32 s, .int .i64 d, .int .i64 x, .int .i64 y]
 sr : OwnL W w0.heap.size 41 60 v1 stCells ss
 er : OwnL W w0.heap.size 52 1 v2 evC xs
 ev : ∀ r ∈ xs, OwnL W w0.heap.size 62 9 (.slice r.A r.L.length r.c) Ev.cells r.L ∧ r.L.length ≤ 22
 bl : Below w0.heap.size w0 W
section
variable {w0 : World} {s d x y : Int} {v1 v2 u : Value} {ss st : List (Nat → Int)} {xs : List TrR} {r : TrR} {W W2 : World}
theorem StF.on (h : StF w0 s d x y v1 v2 ss xs W) (g : Grown W W2) : StF w0 s d x y v1 v2 ss xs W2 :=
 ⟨h.cf.on g, h.sr.below g, h.er.below g, fun r hr => ⟨(h.ev r hr).1.below g, (h.ev r hr).2⟩, bTrans h.bl g⟩
theorem StF.pushS (h : StF w0 s d x y v1 v2 ss xs W) (hg : W.grownBy W2 v1.ownBlock) (ho : OwnL W2 w0.heap.size 41 60 u stCells st) : StF w0 s d x y u v2 st xs W2 :=
 ⟨h.cf.grown hg (h.cf.apart h.sr (by decide)), ho, h.er.keptBy h.sr (by decide) hg, fun r hr => ⟨(h.ev r hr).1.keptBy h.sr (by decide) hg, (h.ev r hr).2⟩, h.bl.grown hg h.bl.size (fun k e => h.sr.base_le k e)⟩
theorem StF.pushE (h : StF w0 s d x y v1 v2 ss xs W) (hr : OwnL W w0.heap.size 62 9 (.slice r.A r.L.length r.c) Ev.cells r.L ∧ r.L.length ≤ 22) (hg : W.grownBy W2 v2.ownBlock) (ho : OwnL W2 w0.heap.size 52 1 u evC (xs ++ [r])) : StF w0 s d x y v1 u ss (xs ++ [r]) W2 :=
 ⟨h.cf.grown hg (h.cf.apart h.er (by decide)), h.sr.keptBy h.er (by decide) hg, ho, fun q hq => by
  rcases List.mem_append.1 hq with hq | hq
  ·exact ⟨(h.ev q hq).1.keptBy h.er (by decide) hg, (h.ev q hq).2⟩
  ·rw [List.mem_singleton.1 hq]
   exact ⟨hr.1.keptBy h.er (by decide) hg, hr.2⟩, h.bl.grown hg h.bl.size (fun k e => h.er.base_le k e)⟩
end
end
section
def rsTold (w : World) (T : Nat → Int) (L : List Ev) : Told :=
 ⟨fun v => ∃ A c, v = .tuple #[.agg (stCells T).toArray, .slice A L.length c], fun v W => ∀ A c, v = .tuple #[.agg (stCells T).toArray, .slice A L.length c] → OwnL W w.heap.size 62 9 (.slice A L.length c) Ev.cells L⟩
theorem rsTold_st {w : World} {T : Nat → Int} {L : List Ev} : ∀ v W U, (rsTold w T L).R v W → Grown W U → (rsTold w T L).R v U := fun _ _ _ h k A c hv => (h A c hv).below k
theorem rsTold_of {w W : World} {S T : Nat → Int} {L : List Ev} {n0 n1 : Nat} (hst : StepR) (hW : Grown w W) (hok : StOk S) (h0 : n0 < 64) (h1 : n1 < 64) (hTL : stepS n0 n1 S = (T, L)) :
  Calls Tryz.prog 73 #[.agg (stCells S).toArray, .agg #[.int .u8 n0, .int .u8 n1]] W fun e w' => ∃ v, e = .returned v ∧ ((rsTold w T L).S v ∧ (rsTold w T L).R v w') ∧ Grown W w' := by
 refine (hst S n0 n1 W T L hok h0 h1 hTL).mono ?_
 rintro e w' ⟨A, n, c, rfl, ho, hb⟩
 obtain rfl := ho.len
 refine ⟨_, rfl, ⟨⟨A, c, rfl⟩, fun A' c' hv => ?_⟩, hb⟩
 simp only [Value.tuple.injEq, Array.mk.injEq, List.cons.injEq, Value.slice.injEq, true_and, and_true] at hv
 obtain ⟨rfl, rfl⟩ := hv
 exact ho.more (Below.size hW)
theorem rstates_any (hst : StepR) (s d x y : Int) (A B : Option Addr) (c c' : Nat) (a b : List Nat) (N : Nat) (w : World) (hs : U32 s) (hof : ofB d a b = false) (hN : N = d.toNat + min a.length b.length) (ha : a.length ≤ 1000) (hb : b.length ≤ 1000) (ra : Rd w w.heap.size A (a.flatMap btC)) (rb : Rd w w.heap.size B (b.flatMap btC)) :
    Calls Tryz.prog 20 #[.agg #[.int .u32 s, .int .i64 d, .int .i64 x, .int .i64 y], .slice A a.length c, .slice B b.length c'] w fun e w' => ∃ (A1 A2 : Option Addr) (c1 c2 : Nat) (xs : List TrR), e = .returned (.tuple #[.slice A1 (N + 1) c1, .slice A2 N c2]) ∧ xs.map TrR.core = preT (inpT d.toNat a b) (beginS s) N ∧
      StF w s d x y (.slice A1 (N + 1) c1) (.slice A2 N c2) (stsT (inpT d.toNat a b) (beginS s) N) xs w' := by
  obtain ⟨hd, h63a, h63b⟩ := ofB_of hof
  have HST := zz hst
  have HRA := zz ra
  have HRB := zz rb
  have H63A := zz h63a
  have H63B := zz h63b
  have HOK := zz (begin_ok hs)
  have hbeg := fun V => r12Begin_any s V
  have hz : (beginS s) 0 = 0 ∧ (beginS s) 2 = 0 := ⟨rfl, rfl⟩
  obtain ⟨T0, hT0⟩ : ∃ T0, beginS s = T0 := ⟨_, rfl⟩
  rw [hT0] at hbeg HOK hz ⊢
  have HBEG := zz hbeg
  have HZ := zz hz
  obtain ⟨na, hna⟩ : ∃ na, a.length = na := ⟨_, rfl⟩
  obtain ⟨nb, hnb⟩ : ∃ nb, b.length = nb := ⟨_, rfl⟩
  have HNA := zz hna
  have HNB := zz hnb
  rw [hna] at ha hN ⊢
  rw [hnb] at hb hN ⊢
  have hmi : d + min (na : Int) (nb : Int) = (N : Int) := by omega
  have hNb : N ≤ 1008 := by omega
  have hmn : (N : Int) ≤ d + na ∧ (N : Int) ≤ d + nb := by omega
  have HMI := zz hmi
  clear ra rb h63a h63b hbeg hz hof hna hnb hN hmi hT0 hst
  go_enter Tryz.func20, Tryz.ntmps20
  go_upto_region 1 with fail
  refine named1 (F := fun W => Code.wp _ _ _ _ W) ?_
  intro w1 k0 hb1 hz1
  have r0a := (k0).cell 0; have r0b := (k0).cell 1; have r0c := (k0).cell 2; have r0d := (k0).cell 3; have r0e := (k0).frozen 0; have r0f := (k0).frozen 1; have r0g := (k0).frozen 2; have r0h := (k0).frozen 3; have r0l := (k0).lt; simp only [zA, zB, zC] at r0a r0b r0c r0d
  have K0 := zz k0
  have HB1 := zz hb1
  clear hb1 hz1 k0
  go_upto_region 2 with (first
    | (go_at_call 72; refine (HBEG.out _).mono ?_; rintro e w2 ⟨rfl, hb2⟩; have HB2 := zz (bTrans HB1.out hb2); have K2 := zz (K0.out.on hb2); clear hb2)
    | (refine wpList_goes rfl (goes_bs_st (.tmp 16) rfl T0 rfl) ?_
       rintro v3 w3 ⟨rfl, hw3⟩
       have HO3 : Hid (OwnL w3 w.heap.size 41 60 (.slice (some ⟨w2.heap.size, 0, none⟩) 1 1) stCells (stsT (inpT d.toNat a b) T0 0)) := zz (by
         rw [hw3]
         exact OwnL.lit (f := stCells) (m := 60) (n := 1) (c := 1) [T0] (stCells T0).toArray HB2.out.size (by simp [maxLen]) stCells_length (by simp) rfl rfl)
       have HB3 := zz (show Below w.heap.size w w3 by rw [hw3]; exact bAlloc HB2.out _)
       have K3 := zz (show Blk w3 w.heap.size 24 #[.int .u32 s, .int .i64 d, .int .i64 x, .int .i64 y] by rw [hw3]; exact K2.out.alloc _)
       clear hw3))
  clear K0 K2 HB1 HB2 r0a r0b r0c r0d r0e r0f r0g r0h r0l
  obtain ⟨g3, hg3⟩ : ∃ g3, w2.heap.size = g3 := ⟨_, rfl⟩
  rw [hg3] at HO3 ⊢
  clear hg3
  go_upto_region 3 with (first
    | (refine wpList_goes rfl (goes_bs_el0 rfl) ?_
       rintro v4 w4 ⟨rfl, hw4⟩
       have HF4 : Hid (StF w s d x y (.slice (some ⟨g3, 0, none⟩) 1 1) (.slice (some ⟨w3.heap.size, 0, none⟩) 0 0) (stsT (inpT d.toNat a b) T0 0) [] w4) := zz (by
         rw [hw4]
         exact ⟨K3.out.alloc _, HO3.out.alloc _, OwnL.lit (f := evC) (m := 1) (n := 0) (c := 0) [] #[] HB3.out.size (by simp [maxLen]) evC_length rfl rfl rfl, fun r hr => by simp at hr, bAlloc HB3.out _⟩)
       clear hw4))
  obtain ⟨g4, hg4⟩ : ∃ g4, w3.heap.size = g4 := ⟨_, rfl⟩
  rw [hg4] at HF4 ⊢
  clear hg4 K3 HO3 HB3
  go_wp2_with fail
  go_loopw [8, 9, 10] (fun v1 v2 v wr => ∃ (k : Nat) (A1 A2 : Option Addr) (c1 c2 : Nat) (xs : List TrR), k ≤ N ∧ v = .int .i64 k ∧ v1 = .slice A1 (k + 1) c1 ∧ v2 = .slice A2 k c2 ∧ Hid (xs.map TrR.core = preT (inpT d.toNat a b) T0 k) ∧ Hid (StF w s d x y (.slice A1 (k + 1) c1) (.slice A2 k c2) (stsT (inpT d.toNat a b) T0 k) xs wr)) (fun _ _ v _ => N - (intOf v).toNat)
  case atStart => exact ⟨0, _, _, _, _, [], Nat.zero_le _, rfl, rfl, rfl, rfl, HF4⟩
  case round =>
    obtain ⟨k, A1, A2, c1, c2, xs, hk, rfl, rfl, rfl, HP, HF⟩ := hrel
    clear HF4 HBEG
    have r0a := (HF.out.cf).cell 0; have r0b := (HF.out.cf).cell 1; have r0c := (HF.out.cf).cell 2; have r0d := (HF.out.cf).cell 3; have r0e := (HF.out.cf).frozen 0; have r0f := (HF.out.cf).frozen 1; have r0g := (HF.out.cf).frozen 2; have r0h := (HF.out.cf).frozen 3; have r0l := (HF.out.cf).lt; simp only [zA, zB, zC] at r0a r0b r0c r0d
    have hmi := HMI.out
    by_cases hlt : k < N
    · as_aux_lemma =>
      have hkm : (k : Int) < (N : Int) := by omega
      obtain ⟨hx64, hy64⟩ := inpT_lt (d := d.toNat) H63A.out H63B.out k
      obtain ⟨p1, hp1⟩ : ∃ p1, (inpT d.toNat a b k).1 = p1 := ⟨_, rfl⟩
      obtain ⟨p2, hp2⟩ : ∃ p2, (inpT d.toNat a b k).2 = p2 := ⟨_, rfl⟩
      rw [hp1] at hx64
      rw [hp2] at hy64
      have HP1 := zz hp1
      have HP2 := zz hp2
      have H64 := zz (And.intro hx64 hy64)
      clear hp1 hp2 hx64 hy64
      go_upto_region 7 with (first
        | (refine wpList_built rfl 118 [(0, .const (.int .u8 0)), (1, .const (.int .u8 0))] rfl #[.int .u8 0, .int .u8 0] [(0, .int .u8 0), (1, .int .u8 0)] ?_ (built_pbt 0 0) ?_; (case' hv => rfl)))
      refine named1 (F := fun W => Code.wp _ _ _ _ W) ?_
      intro w6 kp hb6 hz6
      have KP := zz kp
      have HG6 : Hid (Grown wr w6) := zz hb6
      have hlr : w.heap.size < wr.heap.size := HF.out.cf.lt
      obtain ⟨gp, hgp⟩ : ∃ gp, wr.heap.size = gp := ⟨_, rfl⟩
      rw [hgp] at KP hlr ⊢
      have hwr : gp ≤ wr.heap.size := by omega
      have HGP := zz hgp
      clear r0a r0b r0c r0d r0e r0f r0g r0h r0l kp hb6 hz6 hmi hgp
      have t0a := ((HF.out.cf.on HG6.out)).cell 0; have t0b := ((HF.out.cf.on HG6.out)).cell 1; have t0c := ((HF.out.cf.on HG6.out)).cell 2; have t0d := ((HF.out.cf.on HG6.out)).cell 3; have t0e := ((HF.out.cf.on HG6.out)).frozen 0; have t0f := ((HF.out.cf.on HG6.out)).frozen 1; have t0g := ((HF.out.cf.on HG6.out)).frozen 2; have t0h := ((HF.out.cf.on HG6.out)).frozen 3; have t0l := ((HF.out.cf.on HG6.out)).lt; simp only [zA, zB, zC] at t0a t0b t0c t0d
      go_upto_if 35 with fail
      go_cut [] (fun wx => Hid (Blk wx gp 118 #[.int .u8 (p1 : Int), .int .u8 (p2 : Int)]) ∧ Hid (Below gp wr wx))
      case first =>
        have f0 := KP.out.frozen 0
        have f1 := KP.out.frozen 1
        have e0 := KP.out.cell 0
        have e1 := KP.out.cell 1
        have el := KP.out.lt
        simp only [zA, zB, zC] at e0 e1
        by_cases hkd : (k : Int) < d
        · have hi0 : inpT d.toNat a b k = (0, 0) := by unfold inpT; rw [if_pos (by omega)]
          have q1 : p1 = 0 := by rw [← HP1.out, hi0]
          have q2 : p2 = 0 := by rw [← HP2.out, hi0]
          clear hi0
          go_wp2_with fail
          go_meet
          rw [q1, q2]
          exact ⟨KP, zz (by have := HG6.out; unfold Grown at this; rwa [HGP.out] at this)⟩
        · have hi0 : inpT d.toNat a b k = (a.getD (k - d.toNat) 0, b.getD (k - d.toNat) 0) := by unfold inpT; rw [if_neg (by omega)]
          obtain ⟨j, hj⟩ : ∃ j, k - d.toNat = j := ⟨_, rfl⟩
          rw [hj] at hi0
          have hna := HNA.out
          have hnb := HNB.out
          have hmn1 := hmn.1
          have hmn2 := hmn.2
          have h1 : j < a.length := by omega
          have h2 : j < b.length := by omega
          have hkj : (k : Int) - d = (j : Int) := by omega
          obtain ⟨ga, oa, rfl, hga, ca⟩ := HRA.out.at_ btC_length (by omega) h1
          obtain ⟨gb, ob, rfl, hgb, cb⟩ := HRB.out.at_ btC_length (by omega) h2
          replace ca := ca 0 _ rfl
          replace cb := cb 0 _ rfl
          rw [Nat.add_zero, Nat.mul_one] at ca cb
          rw [show a[j] = p1 from by rw [← HP1.out, hi0]; simp [List.getD_eq_getElem?_getD, h1]] at ca
          rw [show b[j] = p2 from by rw [← HP2.out, hi0]; simp [List.getD_eq_getElem?_getD, h2]] at cb
          have hbw : Below w.heap.size w w6 := bTrans HF.out.bl HG6.out
          have ca6 := (hbw.cell (p := ⟨ga, oa + j, none⟩) hga).trans ca
          have cb6 := (hbw.cell (p := ⟨gb, ob + j, none⟩) hgb).trans cb
          have hla : ga < w6.heap.size := Nat.lt_of_lt_of_le hga hbw.size
          have hlb : gb < w6.heap.size := Nat.lt_of_lt_of_le hgb hbw.size
          have hnj1 : j < na := by omega
          have hnj2 : j < nb := by omega
          have hga' : ga ≠ gp := by omega
          have hgb' : gb ≠ gp := by omega
          have hwp : w.heap.size ≠ gp := by omega
          clear ca cb hi0 hj h1 h2 hbw hna hnb
          have hgb6 : Below gp wr w6 := by have := HG6.out; unfold Grown at this; rwa [HGP.out] at this
          have HGB := zz hgb6
          clear hgb6
          go_wp2_with fail
          go_meet
          exact ⟨zz ((KP.out.set 0 (.int .u8 (p1 : Int))).set 1 (.int .u8 (p2 : Int))), zz ((HGB.out.setCell (p := ⟨gp, 0, none⟩) (zL _) _).setCell (p := ⟨gp, 1, none⟩) (zL _) _)⟩
      case rest =>
      obtain ⟨KP2, HG2⟩ := hcut
      have hgc : Grown wr wc := by have := HG2.out; rw [← HGP.out] at this; exact this
      have HF2 := zz (HF.out.on hgc)
      have HGC := zz hgc
      obtain ⟨q1, q2, q3, q4⟩ := stT_ok (inp := inpT d.toNat a b) HOK.out HZ.out.1 HZ.out.2 k (by omega)
      have hsucc : stT (inpT d.toNat a b) T0 (k + 1) = (rdT (inpT d.toNat a b) T0 k).1 := rfl
      have hpsucc := preT_succ (inpT d.toNat a b) T0 k
      have hrd : rdT (inpT d.toNat a b) T0 k = stepS (inpT d.toNat a b k).1 (inpT d.toNat a b k).2 (stT (inpT d.toNat a b) T0 k) := rfl
      rw [HP1.out, HP2.out] at hrd
      have hlen := stsT_length (inpT d.toNat a b) T0 k
      have hget := stsT_get (inpT d.toNat a b) T0 k k (by omega)
      have hss := stsT_succ (inpT d.toNat a b) T0 k
      obtain ⟨T, hT⟩ : ∃ T, stT (inpT d.toNat a b) T0 k = T := ⟨_, rfl⟩
      rw [hT] at q1 q2 q3 q4 hrd hget
      obtain ⟨T', L', hTL⟩ : ∃ T' L', stepS p1 p2 T = (T', L') := ⟨_, _, rfl⟩
      rw [hTL] at hrd
      rw [hrd] at hsucc hpsucc
      rw [hsucc] at hss
      have hl22 : L'.length ≤ 22 := by
        have := (stepS_ok p1 p2 q1 (by omega) (by omega)).2.1
        rw [hTL] at this; exact this
      have HSTP := zz (fun V (hV : Grown wc V) => rsTold_of (w := wc) HST.out hV q1 H64.out.1 H64.out.2 hTL)
      obtain ⟨gA, rfl, -, -, hgA⟩ := HF2.out.sr.formA (by omega)
      have hrx : wc.rangeAt gA (k * 60) (stCells T) := fun j v hv => by rw [← hget] at hv; exact HF2.out.sr.cell stCells_length (k := k) (j := j) (u := v) (by omega) hv
      have HRX := zz hrx
      have HPS := zz hpsucc
      have HSS : Hid (stsT (inpT d.toNat a b) T0 (k + 1) = stsT (inpT d.toNat a b) T0 k ++ [T']) := zz hss
      have HLEN := zz hlen
      have HL22 := zz hl22
      have e0 := KP2.out.cell 0
      have e1 := KP2.out.cell 1
      have el := KP2.out.lt
      have hk1 : k < k + 1 := Nat.lt_succ_self k
      have hkk : (k : Int) < (k : Int) + 1 := by omega
      simp only [zA, zB, zC] at e0 e1
      clear q1 q2 q3 q4 hsucc hpsucc hrd hT hTL hl22 hlen hget hss hrx hgc HF HG2 KP HG6 HOK HZ t0a t0b t0c t0d t0e t0f t0g t0h t0l HST
      go_upto_region 10 with fail
      have hKp := Keeps.base wc
      refine wp_region_mixedT [.pure, .pure, .pure, .held, .held, .make, .pure, .pure, .pure, .make, .tail, .pure] (fun | 5 => rsTold wc T' L' | _ => newTold wc 41 (stCells zeroT).toArray) (by kernel_rfl) (by kernel_rfl) ?_
      repeat (first | (refine mix_pure rfl rfl rfl (fun K hK => ?_); go_big_quiet_op; refine hK _ ?_; clear hK K))
      refine mix_load rfl rfl (by assumption) 41 (.tmp 55) rfl gA (k * 60) rfl (stCells T) _ hgA HRX.out Tryz.underlying41 rfl (by kernel_rfl) ?_
      simp only [Act.put, zD, zE, zF]
      repeat (first | (refine mix_pure rfl rfl rfl (fun K hK => ?_); go_big_quiet_op; refine hK _ ?_; clear hK K) | (refine mix_held rfl rfl rfl (by assumption) (fun K hK => ?_); go_big_quiet_op; refine hK _ ?_; clear hK K))
      refine mix_make rfl rfl (by assumption) rsTold_st (fun V hV => ?_) ?_
      · have HS2 := zz (HSTP.out V hV)
        go_simp
        exact HS2.out
      rintro v ⟨AN, cN, rfl⟩ hKp3
      simp only [Act.put, zD, zE, zF]
      repeat (first | (refine mix_pure rfl rfl rfl (fun K hK => ?_); go_big_quiet_op; refine hK _ ?_; clear hK K) | (refine mix_held rfl rfl rfl (by assumption) (fun K hK => ?_); go_big_quiet_op; refine hK _ ?_; clear hK K))
      refine mix_make rfl rfl (by assumption) newTold_st (newTold_makes rfl zero_state rfl) ?_
      rintro v ⟨g5, rfl⟩ hKp4
      simp only [Act.put, zD, zE, zF]
      refine mix_store rfl rfl 41 (.tmp 12) (.tmp 59) rfl g5 0 (stCells T').toArray rfl rfl (fun V hV => ?_) (by kernel_rfl) (all_oneCell_toArray (int_one T')) ?_
      · have := (hV.2 g5 rfl).2
        exact Blk.there this (by rw [zM, zM, stCells_length, stCells_length]; decide)
      simp only [Act.put, zD, zE, zF]
      repeat (first | (refine mix_pure rfl rfl rfl (fun K hK => ?_); go_big_quiet_op; refine hK _ ?_; clear hK K) | (refine mix_held rfl rfl rfl (by assumption) (fun K hK => ?_); go_big_quiet_op; refine hK _ ?_; clear hK K))
      refine mix_nil ?_
      rintro V' ⟨V, hD, rfl⟩
      obtain ⟨⟨hg, hR1⟩, hR2⟩ := hD
      obtain ⟨hge, hBg⟩ := hR2 g5 rfl
      have ho := hR1 AN cN rfl
      have hg : Grown wc V := hg
      have hn6 := hBg.whole (stCells T') (by rw [zM, stCells_length, stCells_length])
      have ho6 := ho.farC (b := g5) (hBg.apart ho (by decide)) 0 (stCells T')
      have hz6 : Grown wc (V.setCells g5 0 (stCells T')) := bSetCells hg hge 0 (stCells T')
      have hf6 := HF2.out.on hz6
      obtain ⟨w7, hw7⟩ : ∃ w7, V.setCells g5 0 (stCells T') = w7 := ⟨_, rfl⟩
      rw [hw7] at hn6 ho6 hf6
      first | rw [hw7] | (show Exit.then _ _ _ _ (V.setCells g5 0 (stCells T')); rw [hw7])
      have HN7 := zz hn6
      have HO7 := zz (ho6.more (show w.heap.size ≤ wc.heap.size by have := HF2.out.bl.size; omega))
      have HF7 := zz hf6
      have hl7 := hn6.lt
      have hg5 : w.heap.size ≤ g5 := by have := HF2.out.bl.size; omega
      have HONE := zz (int_one T')
      clear hw7 hn6 ho6 hf6 hg hge hBg hR1 hR2 ho hz6 hKp hKp3 hKp4 HSTP HF2 HRX KP2 HGC e0 e1 el hgA
      obtain ⟨M1, hM1⟩ : ∃ M1, k + 1 = M1 := ⟨_, rfl⟩
      have HM1 := zz hM1
      rw [hM1] at HF7 ⊢
      have HLM : Hid ((stsT (inpT d.toNat a b) T0 k).length = M1) := zz (by rw [HLEN.out, hM1])
      clear hM1 HLEN hk1
      go_upto_region 12 with (first
        | (refine wpList_load_mid rfl 41 (.tmp 12) rfl g5 0 rfl (stCells T') _ (Blk.range HN7.out) Tryz.underlying41 rfl (by kernel_rfl) ?_)
        | (refine wpList_goes rfl (goes_bs_st (.tmp 62) rfl T' rfl) ?_
           rintro v8 w8 ⟨rfl, hw8⟩
           have hg8 : Grown w7 w8 := by rw [hw8]; exact bAlloc (Below.refl _ _) _
           have hrd8 : Rd w8 w8.heap.size (some ⟨w7.heap.size, 0, none⟩) ([T'].flatMap stCells) := by
             rw [hw8]
             have := rd_new w7 (stCells T').toArray 41 w7.heap.size rfl (w7.alloc (.cells (stCells T').toArray 41)).heap.size (by simp)
             simpa using this
           have HF8 := zz (HF7.out.on hg8)
           have HO8 := zz (HO7.out.below hg8)
           have HRD8 := zz hrd8
           clear hw8 hg8 hrd8)
        | (refine wpList_goes rfl (goes_app_st (.tmp 61) (.tmp 63) rfl w.heap.size (.slice (some ⟨gA, 0, none⟩) M1 c1) _ [T'] HF8.out.sr ?h1 w8.heap.size (some ⟨w7.heap.size, 0, none⟩) 1 1 rfl ?h2 HRD8.out ?c0 ?c1) ?_
           case h1 => rfl
           case h2 => rfl
           case c0 => have h1 := HLM.out; have h2 := HM1.out; simp; omega
           case c1 => exact HF8.out.bl.size
           rintro v9 w9 ⟨ho9, hg9⟩
           rw [← HSS.out] at ho9
           obtain ⟨A9, c9, rfl⟩ := ho9.shape
           have HF9 := zz (HF8.out.pushS hg9 ho9)
           have HO9 := zz (HO8.out.keptBy HF8.out.sr (by decide) hg9)
           clear ho9 hg9))
      have hsz9 : (stsT (inpT d.toNat a b) T0 (k + 1)).length = M1 + 1 := by rw [stsT_length, HM1.out]
      rw [hsz9] at HF9 ⊢
      have hxl : xs.length = k := by
        have := congrArg List.length HP.out
        rwa [List.length_map, preT_length] at this
      have HXL := zz hxl
      clear HF7 HF8 HO7 HO8 HRD8 HN7 hsz9 hxl hl7
      obtain ⟨nL, hnL⟩ : ∃ nL, L'.length = nL := ⟨_, rfl⟩
      have HNL := zz hnL
      rw [hnL] at HO9 ⊢
      clear hnL
      go_upto_region 5 with (first
        | (refine wpList_goes rfl (goes_bs_el (.tmp 66) rfl ⟨T', L', AN, cN⟩ ?h0) ?_
           case h0 => rw [HNL.out]; rfl
           rintro v10 w10 ⟨rfl, hw10⟩
           have hg10 : Grown w9 w10 := by rw [hw10]; exact bAlloc (Below.refl _ _) _
           have hrd10 : Rd w10 w10.heap.size (some ⟨w9.heap.size, 0, none⟩) ([(⟨T', L', AN, cN⟩ : TrR)].flatMap evC) := by
             rw [hw10]
             have := rd_new w9 (evC ⟨T', L', AN, cN⟩).toArray 52 w9.heap.size rfl (w9.alloc (.cells (evC ⟨T', L', AN, cN⟩).toArray 52)).heap.size (by simp)
             simpa using this
           have HF10 := zz (HF9.out.on hg10)
           have HO10 := zz (HO9.out.below hg10)
           have HRD10 := zz hrd10
           clear hw10 hg10 hrd10)
        | (at_builtin
           refine wpList_goes rfl (goes_app_el (.tmp 65) (.tmp 67) rfl w.heap.size (.slice A2 k c2) xs [⟨T', L', AN, cN⟩] HF10.out.er ?h1 w10.heap.size (some ⟨w9.heap.size, 0, none⟩) 1 1 rfl ?h2 HRD10.out ?c0 ?c1) ?_
           case h1 => rfl
           case h2 => rfl
           case c0 => have h1 := HXL.out; simp; omega
           case c1 => exact HF10.out.bl.size
           rintro v11 w11 ⟨ho11, hg11⟩
           obtain ⟨A11, c11, rfl⟩ := ho11.shape
           have HF11 := zz (HF10.out.pushE (r := ⟨T', L', AN, cN⟩) ⟨by rw [HNL.out]; exact HO10.out, HL22.out⟩ hg11 ho11)
           clear ho11 hg11))
      have hxn : (xs ++ [(⟨T', L', AN, cN⟩ : TrR)]).length = k + 1 := by rw [zG, HXL.out]; rfl
      rw [hxn, ← HM1.out] at HF11
      try rw [hxn]
      try rw [HXL.out]
      rw [← HM1.out]
      have HPN : Hid ((xs ++ [(⟨T', L', AN, cN⟩ : TrR)]).map TrR.core = preT (inpT d.toNat a b) T0 (k + 1)) := zz (by rw [List.map_append, HP.out, HPS.out]; rfl)
      clear hxn HF9 HF10 HO9 HO10 HRD10 HM1 HLM HXL
      go_wp2_with fail
      go_roundw
      · exact ⟨k + 1, A9, A11, c9, c11, xs ++ [⟨T', L', AN, cN⟩], by omega, by push_cast; rfl, rfl, rfl, HPN, HF11⟩
      · have e1 : intOf (Value.int .i64 ((k : Int) + 1)) = (k : Int) + 1 := rfl
        have e2 : intOf (Value.int .i64 (k : Int)) = (k : Int) := rfl
        rw [e1, e2]; omega
    · obtain rfl : N = k := by omega
      go_wp2_with fail
      go_ret2
      exact ⟨A1, A2, c1, c2, xs, rfl, HP.out, HF.out⟩
end
section
theorem rnum_int (n : Int) (h0 : 0 ≤ n) (h1 : n < 18446744073709551616) (w : World) : Calls Tryz.prog 93 #[.int .u64 n] w fun e w' => e = .returned (.string ⟨(numB n.toNat).toArray⟩) ∧ Below w.heap.size w w' := by
 have h := rnum_any n.toNat (by omega) w
 rw [Int.toNat_of_nonneg h0] at h
 exact h
theorem rbytes_any (A : Option Addr) (c : Nat) (L : List Ev) (hL : L.length ≤ 1000) (w : World) (hr : Rd w w.heap.size A (L.flatMap Ev.cells)) (hok : orderedB L = true) :
  Calls Tryz.prog 86 #[.slice A L.length c] w fun e w' => e = .returned (.string ⟨(bytesB L).toArray⟩) ∧ Below w.heap.size w w' := by
 obtain ⟨h64, hev⟩ := ordered_ok hok
 have HEV := zz hev
 have HR := zz hr
 have HLN := zz (rnum_int L.length (by omega) (by omega))
 have hnl := numB_le (n := L.length) (by omega)
 obtain ⟨n, hn⟩ : ∃ n, L.length = n := ⟨_, rfl⟩
 have HBY := zz (show bytesB L = numB L.length ++ L.flatMap evB from rfl)
 rw [hn] at HBY HLN hnl hL h64 ⊢
 have HN := zz hn
 rw [show ((n : Int)).toNat = n from rfl] at HLN
 clear hr hok hev hn
 go_enter Tryz.func86, Tryz.ntmps86
 go_wp2_with (first | (go_at_call 93; refine (HLN.out _).mono ?_; rintro e w2 ⟨rfl, hb2⟩))
 have HB2 := zz hb2
 clear hb2
 go_loopw [3, 4] (fun s v wr => ∃ k : Nat, k ≤ n ∧ v = .int .i64 k ∧ s = .string ⟨(numB n ++ (L.take k).flatMap evB).toArray⟩ ∧ Hid (Below w.heap.size w wr)) (fun _ v _ => n - (intOf v).toNat)
 case atStart => exact ⟨0, Nat.zero_le _, rfl, by simp, HB2⟩
 case round =>
  clear HB2 HLN
  obtain ⟨k, hk, rfl, rfl, HB⟩ := hrel
  by_cases hlt : k < n
  ·have hkL : k < L.length := by rw [HN.out]; exact hlt
   obtain ⟨b, off, rfl, hbl, x0, x1, x2, x3, x4, x5, x6, x7, x8⟩ := (HR.out.below HB.out (zL _)).ev hkL
   have HTK := zz (bytes_take L k hkL)
   have hpl := bytesB_len (L.take k) (fun e he => HEV.out e (List.mem_of_mem_take he))
   have hx0 := ok_pos (HEV.out _ (List.getElem_mem hkL))
   obtain ⟨x, hx⟩ : ∃ x, L[k] = x := ⟨_, rfl⟩
   rw [hx] at x0 x1 x2 x3 x4 x5 x6 x7 x8 HTK hx0
   obtain ⟨pre, hpre⟩ : ∃ pre, numB n ++ (L.take k).flatMap evB = pre := ⟨_, rfl⟩
   have hpre2 : pre.length ≤ 6000 := by
    rw [← hpre, zG]
    rw [List.length_take] at hpl
    omega
   have HNX : Hid (numB n ++ (L.take (k + 1)).flatMap evB = pre ++ evB x) := zz (by rw [HTK.out, ← List.append_assoc, hpre])
   rw [hpre]
   clear hpl hpre hx HTK hnl
   go_upto_region 6 with fail
   obtain ⟨W, hW⟩ : ∃ W, W = wr.alloc (.cells #[.int .i64 x.frame, .int .i64 x.emitter, .int .i64 x.kind, .int .i64 x.ord, .int .i64 x.asset, .int .i64 x.gain, .int .i64 x.pan, .int .i64 x.prio, .int .i64 x.len] 62) := ⟨_, rfl⟩
   have hbk : Blk W wr.heap.size 62 #[.int .i64 x.frame, .int .i64 x.emitter, .int .i64 x.kind, .int .i64 x.ord, .int .i64 x.asset, .int .i64 x.gain, .int .i64 x.pan, .int .i64 x.prio, .int .i64 x.len] := by rw [hW]; exact Blk.new _ _ _
   have hbW : Below w.heap.size w W := by rw [hW]; exact bAlloc HB.out _
   rw [← hW]
   have HBK := zz hbk
   have HBW := zz hbW
   obtain ⟨e0, e1, e2, e3, e4, e5, e6, e7, e8⟩ := Blk.ev hbk
   have hlW := hbk.lt
   have H0 := zz (fun U => rnum_int x.frame (by omega) (by omega) U)
   have H1 := zz (fun U => rnum_int x.emitter (by omega) (by omega) U)
   have H2 := zz (fun U => rnum_int x.kind (by omega) (by omega) U)
   have H3 := zz (fun U => rnum_int x.ord (by omega) (by omega) U)
   have H4 := zz (fun U => rnum_int x.asset (by omega) (by omega) U)
   have H5 := zz (fun U => rnum_int x.gain (by omega) (by omega) U)
   have H6 := zz (fun U => rsigned_any x.pan (by omega) (by omega) U)
   have H7 := zz (fun U => rnum_int x.prio (by omega) (by omega) U)
   have H8 := zz (fun U => rnum_int x.len (by omega) (by omega) U)
   unfold strN at H6
   have l0 := numB_le (n := x.frame.toNat) (by omega)
   have l1 := numB_le (n := x.emitter.toNat) (by omega)
   have l2 := numB_le (n := x.kind.toNat) (by omega)
   have l3 := numB_le (n := x.ord.toNat) (by omega)
   have l4 := numB_le (n := x.asset.toNat) (by omega)
   have l5 := numB_le (n := x.gain.toNat) (by omega)
   have l6 := numB_le (n := zig x.pan) (by unfold zig; split <;> omega)
   have l7 := numB_le (n := x.prio.toNat) (by omega)
   have l8 := numB_le (n := x.len.toNat) (by omega)
   clear hW hbk hbW x0 x1 x2 x3 x4 x5 x6 x7 x8 HB
   refine wp_region_mild (by kernel_rfl) (by kernel_rfl) ?_
   repeat (go_big_quiet_step ((go_at_call 93; first | (with_reducible exact mild_of (H0.out _)) | (with_reducible exact mild_of (H1.out _)) | (with_reducible exact mild_of (H2.out _)) | (with_reducible exact mild_of (H3.out _)))))
   refine wpQuiet_nil ?_
   intro w1 hw'
   obtain ⟨⟨wq, k1⟩, hw''⟩ := hw'
   subst hw''
   obtain ⟨k1c, k1f⟩ := bcl k1
   have k1z := k1.size
   have hl1 := Nat.lt_of_lt_of_le hlW k1z
   go_wp2_with fail
   refine wp_region_mild (by kernel_rfl) (by kernel_rfl) ?_
   repeat (go_big_quiet_step ((first | (go_at_call 162; exact mild_of (H6.out _)) | (go_at_call 93; first | (with_reducible exact mild_of (H4.out _)) | (with_reducible exact mild_of (H5.out _)) | (with_reducible exact mild_of (H7.out _)) | (with_reducible exact mild_of (H8.out _))))))
   refine wpQuiet_nil ?_
   intro w2 hw'
   obtain ⟨⟨wq, k2⟩, hw''⟩ := hw'
   subst hw''
   go_wp2
   go_roundw
   case rel => exact ⟨k + 1, by omega, by go_num, by rw [HNX.out]; unfold evB; simp only [strN_append, List.append_assoc], zz (bTrans (bTrans HBW.out k1) k2)⟩
   case measure => simp [intOf]; omega
  ·obtain rfl : k = n := by omega
   have HF : Hid (numB k ++ (L.take k).flatMap evB = bytesB L) := zz (by rw [HBY.out, List.take_of_length_le (by rw [HN.out]; exact zL _)])
   rw [HF.out]
   go_wp2
   go_ret
   exact ⟨rfl, HB.out⟩
end
section
end
end Go.Proofs.YtibeihcpehikoaaGreat
