/-
  The walks beneath: States, StatesW, EvByR, TapG, TapT, TapTW.
-/
import Derived.Deep.CutBlock
import Derived.Deep.DeepCutAuto
import Derived.Test.YtibeihcpehikoaaGreatNt8
import Derived.Test.YtibeihcpehikoaaGreatNu3
import Derived.Test.YtibeihcpehikoaaGreatNt1
import Derived.Test.YtibeihcpehikoaaGreatNt4
namespace Go.Proofs.YtibeihcpehikoaaGreat
open Go.RowKit
set_option maxRecDepth 100000
set_option linter.unusedSimpArgs false
def evC (r : TrR) : List Value := [.slice r.A r.L.length r.c]
theorem evC_length (r : TrR) : (evC r).length = 1 := rfl
theorem infoEL : (Tryz.prog.info? 52).map (fun i => (i.zero, i.size, i.bytes)) = some (some (.slice none 0 0), 1, 24) := by kernel_rfl
theorem els_oneCell (l : List TrR) : ∀ u ∈ l.flatMap evC, u.oneCell' = true := fun u hu => by
  obtain ⟨q, -, hq⟩ := List.mem_flatMap.1 hu
  simp only [evC, List.mem_cons, List.not_mem_nil, or_false] at hq
  rcases hq with rfl
  rfl
theorem goes_app_el {W : World} {o : Oper} {a : Act} (s x : Operand) (ho : o.op = .call { callee := .builtin .append, args := #[s, x], argTypes := #[49, 49] }) (base : Nat) (u : Value) (L M : List TrR) (hown : OwnL W base 52 1 u evC L) (hs : a.eval s = u)
    (B : Nat) (A : Option Addr) (m c : Nat) (hm : m = M.length) (hx : a.eval x = .slice A m c) (hr : Rd W B A (M.flatMap evC)) (hn : L.length + M.length ≤ 100000000) (hbase : base ≤ W.heap.size) :
    Oper.goes Tryz.prog o a W (fun v' W' => OwnL W' base 52 1 v' evC (L ++ M) ∧ W.grownBy W' u.ownBlock) := by
  subst hm
  obtain ⟨i0, hi0, hz0, hz1, hz2⟩ := info_parts infoEL
  refine goes_mono (goes_app s x 49 ho base 52 i0 _ 1 24 Tryz.underlying49 hi0 hz0 hz1 hz2 rfl (by decide) u L.length (L.flatMap evC) hs hown B A M.length c (M.flatMap evC) hx (length_flatMap_const _ _ evC_length _) hr (rd_none evC_length (by decide) hr) (els_oneCell M) (by unfold maxLen; omega) (by omega) hbase) ?_
  rintro v' W' ⟨h2, h3⟩
  exact ⟨OwnL.app rfl h2, h3⟩
theorem goes_bs_el {W : World} {o : Oper} {a : Act} (y : Operand) (ho : o.op = .buildSlice 49 1 #[(0, y)]) (r : TrR) (hy : a.eval y = .slice r.A r.L.length r.c) : Oper.goes Tryz.prog o a W (fun v W' => v = .slice (some ⟨W.heap.size, 0, none⟩) 1 1 ∧ W' = W.alloc (.cells (evC r).toArray 52)) := by
  obtain ⟨i0, hi0, hz0, hz1, hz2⟩ := info_parts infoEL
  refine goes_bs 49 52 1 _ ho _ i0 _ Tryz.underlying49 hi0 hz0 (by rw [hz1]; decide) (by rw [hz1]; decide) ?_
  rw [hz1]
  simp only [List.map_toArray, List.map_cons, List.map_nil, hy]
  simp [Instr.fill, evC, go_sem]
theorem goes_bs_el0 {W : World} {o : Oper} {a : Act} (ho : o.op = .buildSlice 49 0 #[]) : Oper.goes Tryz.prog o a W (fun v W' => v = .slice (some ⟨W.heap.size, 0, none⟩) 0 0 ∧ W' = W.alloc (.cells #[] 52)) := by
  obtain ⟨i0, hi0, hz0, hz1, hz2⟩ := info_parts infoEL
  unfold Oper.goes execOp
  simp [ho, go_sem]
/-- All states, from the beginning to behind the last frame. -/
def stsT (inp : Nat → Nat × Nat) (S : Nat → Int) (N : Nat) : List (Nat → Int) := (List.range (N + 1)).map (stT inp S)
theorem stsT_succ (inp : Nat → Nat × Nat) (S : Nat → Int) (N : Nat) : stsT inp S (N + 1) = stsT inp S N ++ [stT inp S (N + 1)] := by
  unfold stsT
  rw [List.range_succ, List.map_append]; rfl
theorem stsT_length (inp : Nat → Nat × Nat) (S : Nat → Int) (N : Nat) : (stsT inp S N).length = N + 1 := by unfold stsT; simp
theorem stsT_get (inp : Nat → Nat × Nat) (S : Nat → Int) (N k : Nat) (h : k < (stsT inp S N).length) : (stsT inp S N)[k] = stT inp S k := by simp only [stsT, List.getElem_map, List.getElem_range]
section
variable {α β : Type} {W W2 : World} {E E' : TypeId} {base base' k k' : Nat} {v v' : Value} {f : α → List Value} {f' : β → List Value} {l : List α} {l' : List β}
/-- A row of another type grows. -/
theorem OwnL.keptBy (h : OwnL W base E k v f l) (h' : OwnL W base' E' k' v' f' l') (hne : E ≠ E') (hg : W.grownBy W2 v'.ownBlock) : OwnL W2 base E k v f l := OwnL.kept h hg (by
  cases hb : v'.ownBlock with
  | none => cases hb3 : v.ownBlock with
    | none => exact .inl rfl
    | some q => exact .inr (by simp)
  | some q => exact .inr (OwnL.apart h h' hne hb))
end
/-- What lies in memory while the states are made. -/
structure StF (w0 : World) (s d x y : Int) (v1 v2 : Value) (ss : List (Nat → Int)) (xs : List TrR) (W : World) : Prop where
  cf : Blk W w0.heap.size 24 #[.int .u32 s, .int .i64 d, .int .i64 x, .int .i64 y]
  sr : OwnL W w0.heap.size 41 60 v1 stCells ss
  er : OwnL W w0.heap.size 52 1 v2 evC xs
  ev : ∀ r ∈ xs, OwnL W w0.heap.size 62 9 (.slice r.A r.L.length r.c) Ev.cells r.L ∧ r.L.length ≤ 22
  bl : Below w0.heap.size w0 W
section
variable {w0 : World} {s d x y : Int} {v1 v2 u : Value} {ss st : List (Nat → Int)} {xs : List TrR} {r : TrR} {W W2 : World}
theorem StF.on (h : StF w0 s d x y v1 v2 ss xs W) (g : Grown W W2) : StF w0 s d x y v1 v2 ss xs W2 :=
  ⟨h.cf.on g, h.sr.below g, h.er.below g, fun r hr => ⟨(h.ev r hr).1.below g, (h.ev r hr).2⟩, bTrans h.bl g⟩
theorem StF.pushS (h : StF w0 s d x y v1 v2 ss xs W) (hg : W.grownBy W2 v1.ownBlock) (ho : OwnL W2 w0.heap.size 41 60 u stCells st) : StF w0 s d x y u v2 st xs W2 :=
  ⟨h.cf.grown hg (h.cf.apart h.sr (by decide)), ho, h.er.keptBy h.sr (by decide) hg, fun r hr => ⟨(h.ev r hr).1.keptBy h.sr (by decide) hg, (h.ev r hr).2⟩, h.bl.grown hg h.bl.size (fun k e => h.sr.base_le k e)⟩
theorem StF.pushE (h : StF w0 s d x y v1 v2 ss xs W) (hr : OwnL W w0.heap.size 62 9 (.slice r.A r.L.length r.c) Ev.cells r.L ∧ r.L.length ≤ 22) (hg : W.grownBy W2 v2.ownBlock) (ho : OwnL W2 w0.heap.size 52 1 u evC (xs ++ [r])) : StF w0 s d x y v1 u ss (xs ++ [r]) W2 :=
  ⟨h.cf.grown hg (h.cf.apart h.er (by decide)), h.sr.keptBy h.er (by decide) hg, ho, fun q hq => by
    rcases List.mem_append.1 hq with hq | hq
    · exact ⟨(h.ev q hq).1.keptBy h.er (by decide) hg, (h.ev q hq).2⟩
    · rw [List.mem_singleton.1 hq]
      exact ⟨hr.1.keptBy h.er (by decide) hg, hr.2⟩, h.bl.grown hg h.bl.size (fun k e => h.er.base_le k e)⟩
end
end Go.Proofs.YtibeihcpehikoaaGreat

namespace Go.Proofs.YtibeihcpehikoaaGreat
open Go.RowKit
set_option maxRecDepth 100000
set_option linter.unusedSimpArgs false
/-- What the document's step answers, told ahead. -/
def rsTold (w : World) (T : Nat → Int) (L : List Ev) : Told :=
  ⟨fun v => ∃ A c, v = .tuple #[.agg (stCells T).toArray, .slice A L.length c], fun v W => ∀ A c, v = .tuple #[.agg (stCells T).toArray, .slice A L.length c] → OwnL W w.heap.size 62 9 (.slice A L.length c) Ev.cells L⟩
theorem rsTold_st {w : World} {T : Nat → Int} {L : List Ev} : ∀ v W U, (rsTold w T L).R v W → Grown W U → (rsTold w T L).R v U := fun _ _ _ h k A c hv => (h A c hv).below k
theorem rsTold_of {w W : World} {S T : Nat → Int} {L : List Ev} {n0 n1 : Nat} (hst : StepR) (hW : Grown w W) (hok : StOk S) (h0 : n0 < 64) (h1 : n1 < 64) (hTL : stepS n0 n1 S = (T, L)) :
    Calls Tryz.prog 73 #[.agg (stCells S).toArray, .agg #[.int .u8 n0, .int .u8 n1]] W fun e w' => ∃ v, e = .returned v ∧ ((rsTold w T L).S v ∧ (rsTold w T L).R v w') ∧ Grown W w' := by
  refine (hst S n0 n1 W T L hok h0 h1 hTL).mono ?_
  rintro e w' ⟨A, n, c, rfl, ho, hb⟩
  obtain rfl := ho.len
  refine ⟨_, rfl, ⟨⟨A, c, rfl⟩, fun A' c' hv => ?_⟩, hb⟩
  simp only [Value.tuple.injEq, Array.mk.injEq, List.cons.injEq, Value.slice.injEq, true_and, and_true] at hv
  obtain ⟨rfl, rfl⟩ := hv
  exact ho.more (Below.size hW)
set_option maxHeartbeats 16000000 in
theorem rstates_any (hst : StepR) (s d x y : Int) (A B : Option Addr) (c c' : Nat) (a b : List Nat) (N : Nat) (w : World) (hs : U32 s) (hof : ofB d a b = false) (hN : N = d.toNat + min a.length b.length) (ha : a.length ≤ 1000) (hb : b.length ≤ 1000) (ra : Rd w w.heap.size A (a.flatMap btC)) (rb : Rd w w.heap.size B (b.flatMap btC)) :
    Calls Tryz.prog 20 #[.agg #[.int .u32 s, .int .i64 d, .int .i64 x, .int .i64 y], .slice A a.length c, .slice B b.length c'] w fun e w' => ∃ (A1 A2 : Option Addr) (c1 c2 : Nat) (xs : List TrR), e = .returned (.tuple #[.slice A1 (N + 1) c1, .slice A2 N c2]) ∧ xs.map TrR.core = preT (inpT d.toNat a b) (beginS s) N ∧
      StF w s d x y (.slice A1 (N + 1) c1) (.slice A2 N c2) (stsT (inpT d.toNat a b) (beginS s) N) xs w' := by
  obtain ⟨hd, h63a, h63b⟩ := ofB_of hof
  have HST := Lib.hid hst
  have HRA := Lib.hid ra
  have HRB := Lib.hid rb
  have H63A := Lib.hid h63a
  have H63B := Lib.hid h63b
  have HOK := Lib.hid (begin_ok hs)
  have hbeg := fun V => r12Begin_any s V
  have hz : (beginS s) 0 = 0 ∧ (beginS s) 2 = 0 := ⟨rfl, rfl⟩
  obtain ⟨T0, hT0⟩ : ∃ T0, beginS s = T0 := ⟨_, rfl⟩
  rw [hT0] at hbeg HOK hz ⊢
  have HBEG := Lib.hid hbeg
  have HZ := Lib.hid hz
  obtain ⟨na, hna⟩ : ∃ na, a.length = na := ⟨_, rfl⟩
  obtain ⟨nb, hnb⟩ : ∃ nb, b.length = nb := ⟨_, rfl⟩
  have HNA := Lib.hid hna
  have HNB := Lib.hid hnb
  rw [hna] at ha hN ⊢
  rw [hnb] at hb hN ⊢
  have hmi : d + min (na : Int) (nb : Int) = (N : Int) := by omega
  have hNb : N ≤ 1008 := by omega
  have hmn : (N : Int) ≤ d + na ∧ (N : Int) ≤ d + nb := by omega
  have HMI := Lib.hid hmi
  clear ra rb h63a h63b hbeg hz hof hna hnb hN hmi hT0 hst
  go_enter Tryz.func20, Tryz.ntmps20
  go_upto_region 1 with fail
  refine named1 (F := fun W => Code.wp _ _ _ _ W) ?_
  intro w1 k0 hb1 hz1
  have r0a := (k0).cell 0; have r0b := (k0).cell 1; have r0c := (k0).cell 2; have r0d := (k0).cell 3; have r0e := (k0).frozen 0; have r0f := (k0).frozen 1; have r0g := (k0).frozen 2; have r0h := (k0).frozen 3; have r0l := (k0).lt; simp only [List.getElem?_toArray, List.getElem?_cons_zero, List.getElem?_cons_succ] at r0a r0b r0c r0d
  have K0 := Lib.hid k0
  have HB1 := Lib.hid hb1
  clear hb1 hz1 k0
  go_upto_region 2 with (first
    | (go_at_call 72; refine (HBEG.out _).mono ?_; rintro e w2 ⟨rfl, hb2⟩; have HB2 := Lib.hid (bTrans HB1.out hb2); have K2 := Lib.hid (K0.out.on hb2); clear hb2)
    | (refine wpList_goes rfl (goes_bs_st (.tmp 16) rfl T0 rfl) ?_
       rintro v3 w3 ⟨rfl, hw3⟩
       have HO3 : Hid (OwnL w3 w.heap.size 41 60 (.slice (some ⟨w2.heap.size, 0, none⟩) 1 1) stCells (stsT (inpT d.toNat a b) T0 0)) := Lib.hid (by
         rw [hw3]
         exact OwnL.lit (f := stCells) (m := 60) (n := 1) (c := 1) [T0] (stCells T0).toArray HB2.out.size (by simp [maxLen]) stCells_length (by simp) rfl rfl)
       have HB3 := Lib.hid (show Below w.heap.size w w3 by rw [hw3]; exact bAlloc HB2.out _)
       have K3 := Lib.hid (show Blk w3 w.heap.size 24 #[.int .u32 s, .int .i64 d, .int .i64 x, .int .i64 y] by rw [hw3]; exact K2.out.alloc _)
       clear hw3))
  clear K0 K2 HB1 HB2 r0a r0b r0c r0d r0e r0f r0g r0h r0l
  obtain ⟨g3, hg3⟩ : ∃ g3, w2.heap.size = g3 := ⟨_, rfl⟩
  rw [hg3] at HO3 ⊢
  clear hg3
  go_upto_region 3 with (first
    | (refine wpList_goes rfl (goes_bs_el0 rfl) ?_
       rintro v4 w4 ⟨rfl, hw4⟩
       have HF4 : Hid (StF w s d x y (.slice (some ⟨g3, 0, none⟩) 1 1) (.slice (some ⟨w3.heap.size, 0, none⟩) 0 0) (stsT (inpT d.toNat a b) T0 0) [] w4) := Lib.hid (by
         rw [hw4]
         exact ⟨K3.out.alloc _, HO3.out.alloc _, OwnL.lit (f := evC) (m := 1) (n := 0) (c := 0) [] #[] HB3.out.size (by simp [maxLen]) evC_length rfl rfl rfl, fun r hr => by simp at hr, bAlloc HB3.out _⟩)
       clear hw4))
  obtain ⟨g4, hg4⟩ : ∃ g4, w3.heap.size = g4 := ⟨_, rfl⟩
  rw [hg4] at HF4 ⊢
  clear hg4 K3 HO3 HB3
  go_wp2_with fail
  go_loopw [8, 9, 10] (fun v1 v2 v wr => ∃ (k : Nat) (A1 A2 : Option Addr) (c1 c2 : Nat) (xs : List TrR), k ≤ N ∧ v = .int .i64 k ∧ v1 = .slice A1 (k + 1) c1 ∧ v2 = .slice A2 k c2 ∧ Hid (xs.map TrR.core = preT (inpT d.toNat a b) T0 k) ∧ Hid (StF w s d x y (.slice A1 (k + 1) c1) (.slice A2 k c2) (stsT (inpT d.toNat a b) T0 k) xs wr)) (fun _ _ v _ => N - (intOf v).toNat)
  case atStart => exact ⟨0, _, _, _, _, [], Nat.zero_le _, rfl, rfl, rfl, rfl, HF4⟩
  case round =>
    obtain ⟨k, A1, A2, c1, c2, xs, hk, rfl, rfl, rfl, HP, HF⟩ := hrel
    clear HF4 HBEG
    have r0a := (HF.out.cf).cell 0; have r0b := (HF.out.cf).cell 1; have r0c := (HF.out.cf).cell 2; have r0d := (HF.out.cf).cell 3; have r0e := (HF.out.cf).frozen 0; have r0f := (HF.out.cf).frozen 1; have r0g := (HF.out.cf).frozen 2; have r0h := (HF.out.cf).frozen 3; have r0l := (HF.out.cf).lt; simp only [List.getElem?_toArray, List.getElem?_cons_zero, List.getElem?_cons_succ] at r0a r0b r0c r0d
    have hmi := HMI.out
    by_cases hlt : k < N
    · as_aux_lemma =>
      have hkm : (k : Int) < (N : Int) := by omega
      obtain ⟨hx64, hy64⟩ := inpT_lt (d := d.toNat) H63A.out H63B.out k
      obtain ⟨p1, hp1⟩ : ∃ p1, (inpT d.toNat a b k).1 = p1 := ⟨_, rfl⟩
      obtain ⟨p2, hp2⟩ : ∃ p2, (inpT d.toNat a b k).2 = p2 := ⟨_, rfl⟩
      rw [hp1] at hx64
      rw [hp2] at hy64
      have HP1 := Lib.hid hp1
      have HP2 := Lib.hid hp2
      have H64 := Lib.hid (And.intro hx64 hy64)
      clear hp1 hp2 hx64 hy64
      go_upto_region 7 with (first
        | (refine wpList_built rfl 118 [(0, .const (.int .u8 0)), (1, .const (.int .u8 0))] rfl #[.int .u8 0, .int .u8 0] [(0, .int .u8 0), (1, .int .u8 0)] ?_ (built_pbt 0 0) ?_; (case' hv => rfl)))
      refine named1 (F := fun W => Code.wp _ _ _ _ W) ?_
      intro w6 kp hb6 hz6
      have KP := Lib.hid kp
      have HG6 : Hid (Grown wr w6) := Lib.hid hb6
      have hlr : w.heap.size < wr.heap.size := HF.out.cf.lt
      obtain ⟨gp, hgp⟩ : ∃ gp, wr.heap.size = gp := ⟨_, rfl⟩
      rw [hgp] at KP hlr ⊢
      have hwr : gp ≤ wr.heap.size := by omega
      have HGP := Lib.hid hgp
      clear r0a r0b r0c r0d r0e r0f r0g r0h r0l kp hb6 hz6 hmi hgp
      have t0a := ((HF.out.cf.on HG6.out)).cell 0; have t0b := ((HF.out.cf.on HG6.out)).cell 1; have t0c := ((HF.out.cf.on HG6.out)).cell 2; have t0d := ((HF.out.cf.on HG6.out)).cell 3; have t0e := ((HF.out.cf.on HG6.out)).frozen 0; have t0f := ((HF.out.cf.on HG6.out)).frozen 1; have t0g := ((HF.out.cf.on HG6.out)).frozen 2; have t0h := ((HF.out.cf.on HG6.out)).frozen 3; have t0l := ((HF.out.cf.on HG6.out)).lt; simp only [List.getElem?_toArray, List.getElem?_cons_zero, List.getElem?_cons_succ] at t0a t0b t0c t0d
      go_upto_if 35 with fail
      go_cut [] (fun wx => Hid (Blk wx gp 118 #[.int .u8 (p1 : Int), .int .u8 (p2 : Int)]) ∧ Hid (Below gp wr wx))
      case first =>
        have f0 := KP.out.frozen 0
        have f1 := KP.out.frozen 1
        have e0 := KP.out.cell 0
        have e1 := KP.out.cell 1
        have el := KP.out.lt
        simp only [List.getElem?_toArray, List.getElem?_cons_zero, List.getElem?_cons_succ] at e0 e1
        by_cases hkd : (k : Int) < d
        · have hi0 : inpT d.toNat a b k = (0, 0) := by unfold inpT; rw [if_pos (by omega)]
          have q1 : p1 = 0 := by rw [← HP1.out, hi0]
          have q2 : p2 = 0 := by rw [← HP2.out, hi0]
          clear hi0
          go_wp2_with fail
          go_meet
          rw [q1, q2]
          exact ⟨KP, Lib.hid (by have := HG6.out; unfold Grown at this; rwa [HGP.out] at this)⟩
        · have hi0 : inpT d.toNat a b k = (a.getD (k - d.toNat) 0, b.getD (k - d.toNat) 0) := by unfold inpT; rw [if_neg (by omega)]
          obtain ⟨j, hj⟩ : ∃ j, k - d.toNat = j := ⟨_, rfl⟩
          rw [hj] at hi0
          have hna := HNA.out
          have hnb := HNB.out
          have hmn1 := hmn.1
          have hmn2 := hmn.2
          have h1 : j < a.length := by omega
          have h2 : j < b.length := by omega
          have hkj : (k : Int) - d = (j : Int) := by omega
          obtain ⟨ga, oa, rfl, hga, ca⟩ := HRA.out.at_ btC_length (by omega) h1
          obtain ⟨gb, ob, rfl, hgb, cb⟩ := HRB.out.at_ btC_length (by omega) h2
          replace ca := ca 0 _ rfl
          replace cb := cb 0 _ rfl
          rw [Nat.add_zero, Nat.mul_one] at ca cb
          rw [show a[j] = p1 from by rw [← HP1.out, hi0]; simp [List.getD_eq_getElem?_getD, h1]] at ca
          rw [show b[j] = p2 from by rw [← HP2.out, hi0]; simp [List.getD_eq_getElem?_getD, h2]] at cb
          have hbw : Below w.heap.size w w6 := bTrans HF.out.bl HG6.out
          have ca6 := (hbw.cell (p := ⟨ga, oa + j, none⟩) hga).trans ca
          have cb6 := (hbw.cell (p := ⟨gb, ob + j, none⟩) hgb).trans cb
          have hla : ga < w6.heap.size := Nat.lt_of_lt_of_le hga hbw.size
          have hlb : gb < w6.heap.size := Nat.lt_of_lt_of_le hgb hbw.size
          have hnj1 : j < na := by omega
          have hnj2 : j < nb := by omega
          have hga' : ga ≠ gp := by omega
          have hgb' : gb ≠ gp := by omega
          have hwp : w.heap.size ≠ gp := by omega
          clear ca cb hi0 hj h1 h2 hbw hna hnb
          have hgb6 : Below gp wr w6 := by have := HG6.out; unfold Grown at this; rwa [HGP.out] at this
          have HGB := Lib.hid hgb6
          clear hgb6
          go_wp2_with fail
          go_meet
          exact ⟨Lib.hid ((KP.out.set 0 (.int .u8 (p1 : Int))).set 1 (.int .u8 (p2 : Int))), Lib.hid ((HGB.out.setCell (p := ⟨gp, 0, none⟩) (Nat.le_refl _) _).setCell (p := ⟨gp, 1, none⟩) (Nat.le_refl _) _)⟩
      case rest =>
      obtain ⟨KP2, HG2⟩ := hcut
      have hgc : Grown wr wc := by have := HG2.out; rw [← HGP.out] at this; exact this
      have HF2 := Lib.hid (HF.out.on hgc)
      have HGC := Lib.hid hgc
      obtain ⟨q1, q2, q3, q4⟩ := stT_ok (inp := inpT d.toNat a b) HOK.out HZ.out.1 HZ.out.2 k (by omega)
      have hsucc : stT (inpT d.toNat a b) T0 (k + 1) = (rdT (inpT d.toNat a b) T0 k).1 := rfl
      have hpsucc := preT_succ (inpT d.toNat a b) T0 k
      have hrd : rdT (inpT d.toNat a b) T0 k = stepS (inpT d.toNat a b k).1 (inpT d.toNat a b k).2 (stT (inpT d.toNat a b) T0 k) := rfl
      rw [HP1.out, HP2.out] at hrd
      have hlen := stsT_length (inpT d.toNat a b) T0 k
      have hget := stsT_get (inpT d.toNat a b) T0 k k (by omega)
      have hss := stsT_succ (inpT d.toNat a b) T0 k
      obtain ⟨T, hT⟩ : ∃ T, stT (inpT d.toNat a b) T0 k = T := ⟨_, rfl⟩
      rw [hT] at q1 q2 q3 q4 hrd hget
      obtain ⟨T', L', hTL⟩ : ∃ T' L', stepS p1 p2 T = (T', L') := ⟨_, _, rfl⟩
      rw [hTL] at hrd
      rw [hrd] at hsucc hpsucc
      rw [hsucc] at hss
      have hl22 : L'.length ≤ 22 := by
        have := (stepS_ok p1 p2 q1 (by omega) (by omega)).2.1
        rw [hTL] at this; exact this
      have HSTP := Lib.hid (fun V (hV : Grown wc V) => rsTold_of (w := wc) HST.out hV q1 H64.out.1 H64.out.2 hTL)
      obtain ⟨gA, rfl, -, -, hgA⟩ := HF2.out.sr.formA (by omega)
      have hrx : wc.rangeAt gA (k * 60) (stCells T) := fun j v hv => by rw [← hget] at hv; exact HF2.out.sr.cell stCells_length (k := k) (j := j) (u := v) (by omega) hv
      have HRX := Lib.hid hrx
      have HPS := Lib.hid hpsucc
      have HSS : Hid (stsT (inpT d.toNat a b) T0 (k + 1) = stsT (inpT d.toNat a b) T0 k ++ [T']) := Lib.hid hss
      have HLEN := Lib.hid hlen
      have HL22 := Lib.hid hl22
      have e0 := KP2.out.cell 0
      have e1 := KP2.out.cell 1
      have el := KP2.out.lt
      have hk1 : k < k + 1 := Nat.lt_succ_self k
      have hkk : (k : Int) < (k : Int) + 1 := by omega
      simp only [List.getElem?_toArray, List.getElem?_cons_zero, List.getElem?_cons_succ] at e0 e1
      clear q1 q2 q3 q4 hsucc hpsucc hrd hT hTL hl22 hlen hget hss hrx hgc HF HG2 KP HG6 HOK HZ t0a t0b t0c t0d t0e t0f t0g t0h t0l HST
      go_upto_region 10 with fail
      have hKp := Keeps.base wc
      refine wp_region_mixedT [.pure, .pure, .pure, .held, .held, .make, .pure, .pure, .pure, .make, .tail, .pure] (fun | 5 => rsTold wc T' L' | _ => newTold wc 41 (stCells zeroT).toArray) (by kernel_rfl) (by kernel_rfl) ?_
      repeat (first | (refine mix_pure rfl rfl rfl (fun K hK => ?_); go_big_quiet_op; refine hK _ ?_; clear hK K))
      refine mix_load rfl rfl (by assumption) 41 (.tmp 55) rfl gA (k * 60) rfl (stCells T) _ hgA HRX.out Tryz.underlying41 rfl (by kernel_rfl) ?_
      simp only [Act.put, List.setIfInBounds_toArray, List.set_cons_zero, List.set_cons_succ]
      repeat (first | (refine mix_pure rfl rfl rfl (fun K hK => ?_); go_big_quiet_op; refine hK _ ?_; clear hK K) | (refine mix_held rfl rfl rfl (by assumption) (fun K hK => ?_); go_big_quiet_op; refine hK _ ?_; clear hK K))
      refine mix_make rfl rfl (by assumption) rsTold_st (fun V hV => ?_) ?_
      · have HS2 := Lib.hid (HSTP.out V hV)
        go_simp
        exact HS2.out
      rintro v ⟨AN, cN, rfl⟩ hKp3
      simp only [Act.put, List.setIfInBounds_toArray, List.set_cons_zero, List.set_cons_succ]
      repeat (first | (refine mix_pure rfl rfl rfl (fun K hK => ?_); go_big_quiet_op; refine hK _ ?_; clear hK K) | (refine mix_held rfl rfl rfl (by assumption) (fun K hK => ?_); go_big_quiet_op; refine hK _ ?_; clear hK K))
      refine mix_make rfl rfl (by assumption) newTold_st (newTold_makes rfl zero_state rfl) ?_
      rintro v ⟨g5, rfl⟩ hKp4
      simp only [Act.put, List.setIfInBounds_toArray, List.set_cons_zero, List.set_cons_succ]
      refine mix_store rfl rfl 41 (.tmp 12) (.tmp 59) rfl g5 0 (stCells T').toArray rfl rfl (fun V hV => ?_) (by kernel_rfl) (all_oneCell_toArray (int_one T')) ?_
      · have := (hV.2 g5 rfl).2
        exact Blk.there this (by rw [List.size_toArray, List.size_toArray, stCells_length, stCells_length]; decide)
      simp only [Act.put, List.setIfInBounds_toArray, List.set_cons_zero, List.set_cons_succ]
      repeat (first | (refine mix_pure rfl rfl rfl (fun K hK => ?_); go_big_quiet_op; refine hK _ ?_; clear hK K) | (refine mix_held rfl rfl rfl (by assumption) (fun K hK => ?_); go_big_quiet_op; refine hK _ ?_; clear hK K))
      refine mix_nil ?_
      rintro V' ⟨V, hD, rfl⟩
      obtain ⟨⟨hg, hR1⟩, hR2⟩ := hD
      obtain ⟨hge, hBg⟩ := hR2 g5 rfl
      have ho := hR1 AN cN rfl
      have hg : Grown wc V := hg
      have hn6 := hBg.whole (stCells T') (by rw [List.size_toArray, stCells_length, stCells_length])
      have ho6 := ho.farC (b := g5) (hBg.apart ho (by decide)) 0 (stCells T')
      have hz6 : Grown wc (V.setCells g5 0 (stCells T')) := bSetCells hg hge 0 (stCells T')
      have hf6 := HF2.out.on hz6
      obtain ⟨w7, hw7⟩ : ∃ w7, V.setCells g5 0 (stCells T') = w7 := ⟨_, rfl⟩
      rw [hw7] at hn6 ho6 hf6
      first | rw [hw7] | (show Exit.then _ _ _ _ (V.setCells g5 0 (stCells T')); rw [hw7])
      have HN7 := Lib.hid hn6
      have HO7 := Lib.hid (ho6.more (show w.heap.size ≤ wc.heap.size by have := HF2.out.bl.size; omega))
      have HF7 := Lib.hid hf6
      have hl7 := hn6.lt
      have hg5 : w.heap.size ≤ g5 := by have := HF2.out.bl.size; omega
      have HONE := Lib.hid (int_one T')
      clear hw7 hn6 ho6 hf6 hg hge hBg hR1 hR2 ho hz6 hKp hKp3 hKp4 HSTP HF2 HRX KP2 HGC e0 e1 el hgA
      obtain ⟨M1, hM1⟩ : ∃ M1, k + 1 = M1 := ⟨_, rfl⟩
      have HM1 := Lib.hid hM1
      rw [hM1] at HF7 ⊢
      have HLM : Hid ((stsT (inpT d.toNat a b) T0 k).length = M1) := Lib.hid (by rw [HLEN.out, hM1])
      clear hM1 HLEN hk1
      go_upto_region 12 with (first
        | (refine wpList_load_mid rfl 41 (.tmp 12) rfl g5 0 rfl (stCells T') _ (Blk.range HN7.out) Tryz.underlying41 rfl (by kernel_rfl) ?_)
        | (refine wpList_goes rfl (goes_bs_st (.tmp 62) rfl T' rfl) ?_
           rintro v8 w8 ⟨rfl, hw8⟩
           have hg8 : Grown w7 w8 := by rw [hw8]; exact bAlloc (Below.refl _ _) _
           have hrd8 : Rd w8 w8.heap.size (some ⟨w7.heap.size, 0, none⟩) ([T'].flatMap stCells) := by
             rw [hw8]
             have := rd_new w7 (stCells T').toArray 41 w7.heap.size rfl (w7.alloc (.cells (stCells T').toArray 41)).heap.size (by simp)
             simpa using this
           have HF8 := Lib.hid (HF7.out.on hg8)
           have HO8 := Lib.hid (HO7.out.below hg8)
           have HRD8 := Lib.hid hrd8
           clear hw8 hg8 hrd8)
        | (refine wpList_goes rfl (goes_app_st (.tmp 61) (.tmp 63) rfl w.heap.size (.slice (some ⟨gA, 0, none⟩) M1 c1) _ [T'] HF8.out.sr ?h1 w8.heap.size (some ⟨w7.heap.size, 0, none⟩) 1 1 rfl ?h2 HRD8.out ?c0 ?c1) ?_
           case h1 => rfl
           case h2 => rfl
           case c0 => have h1 := HLM.out; have h2 := HM1.out; simp; omega
           case c1 => exact HF8.out.bl.size
           rintro v9 w9 ⟨ho9, hg9⟩
           rw [← HSS.out] at ho9
           obtain ⟨A9, c9, rfl⟩ := ho9.shape
           have HF9 := Lib.hid (HF8.out.pushS hg9 ho9)
           have HO9 := Lib.hid (HO8.out.keptBy HF8.out.sr (by decide) hg9)
           clear ho9 hg9))
      have hsz9 : (stsT (inpT d.toNat a b) T0 (k + 1)).length = M1 + 1 := by rw [stsT_length, HM1.out]
      rw [hsz9] at HF9 ⊢
      have hxl : xs.length = k := by
        have := congrArg List.length HP.out
        rwa [List.length_map, preT_length] at this
      have HXL := Lib.hid hxl
      clear HF7 HF8 HO7 HO8 HRD8 HN7 hsz9 hxl hl7
      obtain ⟨nL, hnL⟩ : ∃ nL, L'.length = nL := ⟨_, rfl⟩
      have HNL := Lib.hid hnL
      rw [hnL] at HO9 ⊢
      clear hnL
      go_upto_region 5 with (first
        | (refine wpList_goes rfl (goes_bs_el (.tmp 66) rfl ⟨T', L', AN, cN⟩ ?h0) ?_
           case h0 => rw [HNL.out]; rfl
           rintro v10 w10 ⟨rfl, hw10⟩
           have hg10 : Grown w9 w10 := by rw [hw10]; exact bAlloc (Below.refl _ _) _
           have hrd10 : Rd w10 w10.heap.size (some ⟨w9.heap.size, 0, none⟩) ([(⟨T', L', AN, cN⟩ : TrR)].flatMap evC) := by
             rw [hw10]
             have := rd_new w9 (evC ⟨T', L', AN, cN⟩).toArray 52 w9.heap.size rfl (w9.alloc (.cells (evC ⟨T', L', AN, cN⟩).toArray 52)).heap.size (by simp)
             simpa using this
           have HF10 := Lib.hid (HF9.out.on hg10)
           have HO10 := Lib.hid (HO9.out.below hg10)
           have HRD10 := Lib.hid hrd10
           clear hw10 hg10 hrd10)
        | (at_builtin
           refine wpList_goes rfl (goes_app_el (.tmp 65) (.tmp 67) rfl w.heap.size (.slice A2 k c2) xs [⟨T', L', AN, cN⟩] HF10.out.er ?h1 w10.heap.size (some ⟨w9.heap.size, 0, none⟩) 1 1 rfl ?h2 HRD10.out ?c0 ?c1) ?_
           case h1 => rfl
           case h2 => rfl
           case c0 => have h1 := HXL.out; simp; omega
           case c1 => exact HF10.out.bl.size
           rintro v11 w11 ⟨ho11, hg11⟩
           obtain ⟨A11, c11, rfl⟩ := ho11.shape
           have HF11 := Lib.hid (HF10.out.pushE (r := ⟨T', L', AN, cN⟩) ⟨by rw [HNL.out]; exact HO10.out, HL22.out⟩ hg11 ho11)
           clear ho11 hg11))
      have hxn : (xs ++ [(⟨T', L', AN, cN⟩ : TrR)]).length = k + 1 := by rw [List.length_append, HXL.out]; rfl
      rw [hxn, ← HM1.out] at HF11
      try rw [hxn]
      try rw [HXL.out]
      rw [← HM1.out]
      have HPN : Hid ((xs ++ [(⟨T', L', AN, cN⟩ : TrR)]).map TrR.core = preT (inpT d.toNat a b) T0 (k + 1)) := Lib.hid (by rw [List.map_append, HP.out, HPS.out]; rfl)
      clear hxn HF9 HF10 HO9 HO10 HRD10 HM1 HLM HXL
      go_wp2_with fail
      go_roundw
      · exact ⟨k + 1, A9, A11, c9, c11, xs ++ [⟨T', L', AN, cN⟩], by omega, by push_cast; rfl, rfl, rfl, HPN, HF11⟩
      · have e1 : intOf (Value.int .i64 ((k : Int) + 1)) = (k : Int) + 1 := rfl
        have e2 : intOf (Value.int .i64 (k : Int)) = (k : Int) := rfl
        rw [e1, e2]; omega
    · obtain rfl : N = k := by omega
      go_wp2_with fail
      go_ret2
      exact ⟨A1, A2, c1, c2, xs, rfl, HP.out, HF.out⟩
end Go.Proofs.YtibeihcpehikoaaGreat

namespace Go.Proofs.YtibeihcpehikoaaGreat
open Go.RowKit
set_option maxRecDepth 100000
set_option linter.unusedSimpArgs false
theorem rnum_int (n : Int) (h0 : 0 ≤ n) (h1 : n < 18446744073709551616) (w : World) : Calls Tryz.prog 93 #[.int .u64 n] w fun e w' => e = .returned (.string ⟨(numB n.toNat).toArray⟩) ∧ Below w.heap.size w w' := by
  have h := rnum_any n.toNat (by omega) w
  rw [Int.toNat_of_nonneg h0] at h
  exact h
set_option maxHeartbeats 8000000 in
theorem rbytes_any (A : Option Addr) (c : Nat) (L : List Ev) (hL : L.length ≤ 1000) (w : World) (hr : Rd w w.heap.size A (L.flatMap Ev.cells)) (hok : orderedB L = true) :
    Calls Tryz.prog 86 #[.slice A L.length c] w fun e w' => e = .returned (.string ⟨(bytesB L).toArray⟩) ∧ Below w.heap.size w w' := by
  obtain ⟨h64, hev⟩ := ordered_ok hok
  have HEV := Lib.hid hev
  have HR := Lib.hid hr
  have HLN := Lib.hid (rnum_int L.length (by omega) (by omega))
  have hnl := numB_le (n := L.length) (by omega)
  obtain ⟨n, hn⟩ : ∃ n, L.length = n := ⟨_, rfl⟩
  have HBY := Lib.hid (show bytesB L = numB L.length ++ L.flatMap evB from rfl)
  rw [hn] at HBY HLN hnl hL h64 ⊢
  have HN := Lib.hid hn
  rw [show ((n : Int)).toNat = n from rfl] at HLN
  clear hr hok hev hn
  go_enter Tryz.func86, Tryz.ntmps86
  go_wp2_with (first | (go_at_call 93; refine (HLN.out _).mono ?_; rintro e w2 ⟨rfl, hb2⟩))
  have HB2 := Lib.hid hb2
  clear hb2
  go_loopw [3, 4] (fun s v wr => ∃ k : Nat, k ≤ n ∧ v = .int .i64 k ∧ s = .string ⟨(numB n ++ (L.take k).flatMap evB).toArray⟩ ∧ Hid (Below w.heap.size w wr)) (fun _ v _ => n - (intOf v).toNat)
  case atStart => exact ⟨0, Nat.zero_le _, rfl, by simp, HB2⟩
  case round =>
    clear HB2 HLN
    obtain ⟨k, hk, rfl, rfl, HB⟩ := hrel
    by_cases hlt : k < n
    · have hkL : k < L.length := by rw [HN.out]; exact hlt
      obtain ⟨b, off, rfl, hbl, x0, x1, x2, x3, x4, x5, x6, x7, x8⟩ := (HR.out.below HB.out (Nat.le_refl _)).ev hkL
      have HTK := Lib.hid (bytes_take L k hkL)
      have hpl := bytesB_len (L.take k) (fun e he => HEV.out e (List.mem_of_mem_take he))
      have hx0 := ok_pos (HEV.out _ (List.getElem_mem hkL))
      obtain ⟨x, hx⟩ : ∃ x, L[k] = x := ⟨_, rfl⟩
      rw [hx] at x0 x1 x2 x3 x4 x5 x6 x7 x8 HTK hx0
      obtain ⟨pre, hpre⟩ : ∃ pre, numB n ++ (L.take k).flatMap evB = pre := ⟨_, rfl⟩
      have hpre2 : pre.length ≤ 6000 := by
        rw [← hpre, List.length_append]
        rw [List.length_take] at hpl
        omega
      have HNX : Hid (numB n ++ (L.take (k + 1)).flatMap evB = pre ++ evB x) := Lib.hid (by rw [HTK.out, ← List.append_assoc, hpre])
      rw [hpre]
      clear hpl hpre hx HTK hnl
      go_upto_region 6 with fail
      obtain ⟨W, hW⟩ : ∃ W, W = wr.alloc (.cells #[.int .i64 x.frame, .int .i64 x.emitter, .int .i64 x.kind, .int .i64 x.ord, .int .i64 x.asset, .int .i64 x.gain, .int .i64 x.pan, .int .i64 x.prio, .int .i64 x.len] 62) := ⟨_, rfl⟩
      have hbk : Blk W wr.heap.size 62 #[.int .i64 x.frame, .int .i64 x.emitter, .int .i64 x.kind, .int .i64 x.ord, .int .i64 x.asset, .int .i64 x.gain, .int .i64 x.pan, .int .i64 x.prio, .int .i64 x.len] := by rw [hW]; exact Blk.new _ _ _
      have hbW : Below w.heap.size w W := by rw [hW]; exact bAlloc HB.out _
      rw [← hW]
      have HBK := Lib.hid hbk
      have HBW := Lib.hid hbW
      obtain ⟨e0, e1, e2, e3, e4, e5, e6, e7, e8⟩ := Blk.ev hbk
      have hlW := hbk.lt
      have H0 := Lib.hid (fun U => rnum_int x.frame (by omega) (by omega) U)
      have H1 := Lib.hid (fun U => rnum_int x.emitter (by omega) (by omega) U)
      have H2 := Lib.hid (fun U => rnum_int x.kind (by omega) (by omega) U)
      have H3 := Lib.hid (fun U => rnum_int x.ord (by omega) (by omega) U)
      have H4 := Lib.hid (fun U => rnum_int x.asset (by omega) (by omega) U)
      have H5 := Lib.hid (fun U => rnum_int x.gain (by omega) (by omega) U)
      have H6 := Lib.hid (fun U => rsigned_any x.pan (by omega) (by omega) U)
      have H7 := Lib.hid (fun U => rnum_int x.prio (by omega) (by omega) U)
      have H8 := Lib.hid (fun U => rnum_int x.len (by omega) (by omega) U)
      unfold strN at H6
      have l0 := numB_le (n := x.frame.toNat) (by omega)
      have l1 := numB_le (n := x.emitter.toNat) (by omega)
      have l2 := numB_le (n := x.kind.toNat) (by omega)
      have l3 := numB_le (n := x.ord.toNat) (by omega)
      have l4 := numB_le (n := x.asset.toNat) (by omega)
      have l5 := numB_le (n := x.gain.toNat) (by omega)
      have l6 := numB_le (n := zig x.pan) (by unfold zig; split <;> omega)
      have l7 := numB_le (n := x.prio.toNat) (by omega)
      have l8 := numB_le (n := x.len.toNat) (by omega)
      clear hW hbk hbW x0 x1 x2 x3 x4 x5 x6 x7 x8 HB
      refine wp_region_mild (by kernel_rfl) (by kernel_rfl) ?_
      repeat (go_big_quiet_step ((go_at_call 93; first | (with_reducible exact mild_of (H0.out _)) | (with_reducible exact mild_of (H1.out _)) | (with_reducible exact mild_of (H2.out _)) | (with_reducible exact mild_of (H3.out _)))))
      refine wpQuiet_nil ?_
      intro w1 hw'
      obtain ⟨⟨wq, k1⟩, hw''⟩ := hw'
      subst hw''
      obtain ⟨k1c, k1f⟩ := bcl k1
      have k1z := k1.size
      have hl1 := Nat.lt_of_lt_of_le hlW k1z
      go_wp2_with fail
      refine wp_region_mild (by kernel_rfl) (by kernel_rfl) ?_
      repeat (go_big_quiet_step ((first | (go_at_call 162; exact mild_of (H6.out _)) | (go_at_call 93; first | (with_reducible exact mild_of (H4.out _)) | (with_reducible exact mild_of (H5.out _)) | (with_reducible exact mild_of (H7.out _)) | (with_reducible exact mild_of (H8.out _))))))
      refine wpQuiet_nil ?_
      intro w2 hw'
      obtain ⟨⟨wq, k2⟩, hw''⟩ := hw'
      subst hw''
      go_wp2
      go_roundw
      case rel => exact ⟨k + 1, by omega, by go_num, by rw [HNX.out]; unfold evB; simp only [strN_append, List.append_assoc], Lib.hid (bTrans (bTrans HBW.out k1) k2)⟩
      case measure => simp [intOf]; omega
    · obtain rfl : k = n := by omega
      have HF : Hid (numB k ++ (L.take k).flatMap evB = bytesB L) := Lib.hid (by rw [HBY.out, List.take_of_length_le (by rw [HN.out]; exact Nat.le_refl _)])
      rw [HF.out]
      go_wp2
      go_ret
      exact ⟨rfl, HB.out⟩
end Go.Proofs.YtibeihcpehikoaaGreat

namespace Go.Proofs.YtibeihcpehikoaaGreat
open Go.RowKit
set_option maxRecDepth 100000
set_option linter.unusedSimpArgs false
set_option maxHeartbeats 4000000 in
theorem rhap_any (hst : StepR) (s d x y : Int) (A B : Option Addr) (c c' : Nat) (a b : List Nat) (w : World) (hs : U32 s) (hof : ofB d a b = false) (ha : a.length ≤ 1000) (hb : b.length ≤ 1000) (ra : Rd w w.heap.size A (a.flatMap btC)) (rb : Rd w w.heap.size B (b.flatMap btC)) :
    Calls Tryz.prog 32 #[.agg #[.int .u32 s, .int .i64 d, .int .i64 x, .int .i64 y], .slice A a.length c, .slice B b.length c'] w fun e w' => e = .returned (.int .u32 (hapG s d a b : Nat)) ∧ Below w.heap.size w w' := by
  obtain ⟨hd, -, -⟩ := ofB_of hof
  have HSTS := Lib.hid (fun (V : World) (hV : Below w.heap.size w V) => rstates_any hst s d x y A B c c' a b (d.toNat + min a.length b.length) V hs hof rfl ha hb ((ra.below hV (Nat.le_refl _)).more hV.size) ((rb.below hV (Nat.le_refl _)).more hV.size))
  have HPH := Lib.hid (fun (xs : List TrR) => pages_hap (xs := xs) hs hd ha hb)
  obtain ⟨N, hN⟩ : ∃ N, d.toNat + min a.length b.length = N := ⟨_, rfl⟩
  obtain ⟨H, hH⟩ : ∃ H, hapG s d a b = H := ⟨_, rfl⟩
  rw [hN] at HSTS HPH
  rw [hH] at HPH ⊢
  clear ra rb hN hH hof hst
  go_enter Tryz.func32, Tryz.ntmps32
  go_upto_region 1 with fail
  refine named1 (F := fun W => Code.wp _ _ _ _ W) ?_
  intro w1 k0 hb1 hz1
  have r0a := (k0).cell 0; have r0b := (k0).cell 1; have r0c := (k0).cell 2; have r0d := (k0).cell 3; have r0e := (k0).frozen 0; have r0f := (k0).frozen 1; have r0g := (k0).frozen 2; have r0h := (k0).frozen 3; have r0l := (k0).lt; simp only [List.getElem?_toArray, List.getElem?_cons_zero, List.getElem?_cons_succ] at r0a r0b r0c r0d
  clear hz1 k0
  go_upto_region 2 with (first | (go_at_call 20; refine (HSTS.out _ hb1).mono ?_; rintro e w2 ⟨A1, A2, c1, c2, xs, rfl, hcr, hsf⟩; have HCR := Lib.hid hcr; have HSF := Lib.hid hsf; clear hcr hsf))
  obtain ⟨hxl, hxo, hxs⟩ := HPH.out xs HCR.out
  have hxn := rows_len HCR.out
  have HXO := Lib.hid hxo
  have HXS := Lib.hid hxs
  have HXN := Lib.hid hxn
  have HB2 := Lib.hid (bTrans hb1 HSF.out.bl)
  have hNb : N ≤ 20000 := by omega
  clear hxl hxo hxs hxn hb1 r0a r0b r0c r0d r0e r0f r0g r0h r0l HPH HSTS HCR
  go_wp2_with fail
  go_loopw [9, 10] (fun v i wr => ∃ k : Nat, k ≤ N ∧ i = .int .i64 k ∧ v = .string ⟨(hapB ((evsT xs).take k)).toArray⟩ ∧ Hid (Below w2.heap.size w2 wr)) (fun _ i _ => N - (intOf i).toNat)
  case atStart => exact ⟨0, Nat.zero_le _, rfl, rfl, Lib.hid (Below.refl _ _)⟩
  case round =>
    obtain ⟨k, hk, rfl, rfl, HB⟩ := hrel
    by_cases hlt : k < N
    · have hks : k < xs.length := by rw [HXN.out]; exact hlt
      have hsr := HSF.out.on HB.out
      obtain ⟨gE, rfl, -, -, hgE⟩ := hsr.er.formA (by omega)
      have c0 := hsr.er.one (h := fun r : TrR => Value.slice r.A r.L.length r.c) (fun _ => rfl) (k := k) hks
      have hord := HXO.out xs[k] (List.getElem_mem hks)
      have hrow := (hsr.ev xs[k] (List.getElem_mem hks)).1
      have HSN := Lib.hid (hapB_take (evsT xs) k (by rw [evsT_length]; exact hks))
      rw [evsT_get xs k hks] at HSN
      have hpl := hapB_len ((evsT xs).take k) (fun L hL => by
        obtain ⟨r, hr, rfl⟩ := List.mem_map.1 (List.mem_of_mem_take hL)
        exact HXO.out r hr)
      rw [List.length_take] at hpl
      obtain ⟨r, hx⟩ : ∃ r, xs[k] = r := ⟨_, rfl⟩
      rw [hx] at c0 hord hrow HSN
      have hlen : r.L.length ≤ 64 := (ordered_ok hord).1
      have HBY := Lib.hid (fun (V : World) (hV : Grown wr V) => rbytes_any r.A r.c r.L (by omega) V (hrow.below hV).rd hord)
      have hql := bytes_le r.L hord
      obtain ⟨m, hm⟩ : ∃ m, r.L.length = m := ⟨_, rfl⟩
      rw [hm] at c0 HBY
      obtain ⟨P, hP⟩ : ∃ P, hapB ((evsT xs).take k) = P := ⟨_, rfl⟩
      obtain ⟨Q, hQ⟩ : ∃ Q, bytesB r.L = Q := ⟨_, rfl⟩
      rw [hP] at HSN hpl ⊢
      rw [hQ] at HSN hql HBY
      have hpl2 : P.length ≤ 200000000 := by omega
      clear hord hrow hx hm hP hQ hlen hsr hpl hks
      go_wp2_with (first
        | (go_at_call 86; refine (HBY.out _ (Below.refl _ _)).mono ?_; rintro e w3 ⟨rfl, hb3⟩; have HB3 := Lib.hid (bTrans HB.out hb3); clear hb3))
      go_roundw
      case rel => exact ⟨k + 1, by omega, by go_num, by rw [HSN.out, strN_append], HB3⟩
      case measure => simp [intOf]; omega
    · obtain rfl : N = k := by omega
      rw [List.take_of_length_le (by rw [evsT_length, HXN.out]; exact Nat.le_refl _)]
      have hle := hapB_len (evsT xs) (fun L hL => by
        obtain ⟨r, hr, rfl⟩ := List.mem_map.1 hL
        exact HXO.out r hr)
      rw [evsT_length, HXN.out] at hle
      have HOF := Lib.hid (rof_any ⟨(hapB (evsT xs)).toArray⟩ wr (by show (hapB (evsT xs)).toArray.size ≤ _; simp; omega))
      rw [show (⟨(hapB (evsT xs)).toArray⟩ : ByteArray).data.toList = hapB (evsT xs) from rfl, HXS.out] at HOF
      go_wp2_with (first | (go_at_call 87; refine HOF.out.mono ?_; rintro e w4 ⟨rfl, rfl⟩))
      go_ret
      exact ⟨rfl, bTrans HB2.out HB.out⟩
end Go.Proofs.YtibeihcpehikoaaGreat

namespace Go.Proofs.YtibeihcpehikoaaGreat
open Go.RowKit
set_option maxRecDepth 100000
set_option linter.unusedSimpArgs false
theorem built_tape0 : Tryz.prog.built 76 [] = some #[.int .u32 0, .int .i64 0, .int .i64 0, .int .i64 0, .slice none 0 0, .slice none 0 0, .int .u32 0] := by kernel_rfl
set_option maxHeartbeats 4000000 in
theorem record_bad1 (s d x y : Int) (A B : Option Addr) (c c' : Nat) (a b : List Nat) (w : World) (hof : ofB d a b = true) (ha : a.length ≤ 1000) (hb : b.length ≤ 1000) (ra : Rd w w.heap.size A (a.flatMap btC)) (rb : Rd w w.heap.size B (b.flatMap btC)) :
    Calls Tryz.prog 30 #[.agg #[.int .u32 s, .int .i64 d, .int .i64 x, .int .i64 y], .slice A a.length c, .slice B b.length c'] w fun e w' => e = .returned (.tuple #[.agg #[.int .u32 0, .int .i64 0, .int .i64 0, .int .i64 0, .slice none 0 0, .slice none 0 0, .int .u32 0], .int .i64 1]) ∧ Below w.heap.size w w' := by
  have HPG := Lib.hid (fun (V : World) (hV : Below w.heap.size w V) => pages_bad s d x y A B c c' a b V hof ha hb ((ra.below hV (Nat.le_refl _)).more hV.size) ((rb.below hV (Nat.le_refl _)).more hV.size))
  clear ra rb hof
  go_enter Tryz.func30, Tryz.ntmps30
  go_upto_region 1 with fail
  refine named2 (F := fun W => Code.wp _ _ _ _ W) ?_
  intro w1 k0 k6 hb1 hz1
  have r0a := (k0).cell 0; have r0b := (k0).cell 1; have r0c := (k0).cell 2; have r0d := (k0).cell 3; have r0e := (k0).frozen 0; have r0f := (k0).frozen 1; have r0g := (k0).frozen 2; have r0h := (k0).frozen 3; have r0l := (k0).lt; simp only [List.getElem?_toArray, List.getElem?_cons_zero, List.getElem?_cons_succ] at r0a r0b r0c r0d
  have K6 := Lib.hid k6
  clear hz1 k0 k6
  go_upto_region 2 with (first
    | (go_at_call 16; refine (HPG.out _ hb1).mono ?_; rintro e w3 ⟨rfl, hb3⟩; have HB3 := Lib.hid (bTrans hb1 hb3); have K63 := Lib.hid (K6.out.on hb3); clear hb3))
  clear r0a r0b r0c r0d r0e r0f r0g r0h r0l hb1 K6 HPG
  obtain ⟨C, hC⟩ : ∃ C : Array Value, #[.int .u32 0, .int .i64 0, .int .i64 0, .int .i64 0, .slice none 0 0, .slice none 0 0, .int .u32 0] = C := ⟨_, rfl⟩
  have hbt := built_tape0
  rw [hC] at hbt
  have HBT := Lib.hid hbt
  have HCC := Lib.hid hC
  have hsz : C.size = 7 := by rw [← hC]; rfl
  have H1C : Hid (C.all (·.oneCell') = true) := Lib.hid (by rw [← hC]; simp [Value.oneCell'])
  have HSZ : Hid ((Tryz.prog.info? 76).map (·.size) = some C.size) := Lib.hid (by rw [hsz]; kernel_rfl)
  have hcl : C.toList.length = C.size := by simp
  have HTH : Hid (w3.there (w.heap.size + 1) 0 C.size) := Lib.hid (by rw [hsz]; exact Blk.there K63.out (by show 0 + 7 ≤ 7; decide))
  have hrg := World.rangeAt_setCells_same w3 (w.heap.size + 1) 0 C.toList (by rw [hcl]; exact HTH.out)
  have HRES := Lib.hid (run_loadVar_mid (P := Tryz.prog) _ _ _ 76 C.toList _ hrg Tryz.underlying76 rfl (by rw [hcl]; exact HSZ.out))
  have HBX := Lib.hid (bSetCells HB3.out (show w.heap.size ≤ w.heap.size + 1 by omega) 0 C.toList)
  obtain ⟨wx, hwx⟩ : ∃ wx, w3.setCells (w.heap.size + 1) 0 C.toList = wx := ⟨_, rfl⟩
  rw [hwx] at HRES HBX
  have HWX := Lib.hid hwx
  clear hsz hcl hrg hwx hC hbt
  go_wp2_with (first
    | (refine wpList_built rfl 76 [] rfl C [] rfl HBT.out ?_)
    | (refine wpList_store_mid rfl 76 (.tmp 6) (.tmp 22) rfl (w.heap.size + 1) 0 C rfl rfl HTH.out HSZ.out H1C.out ?_; rw [HWX.out]))
  have hres := HRES.out
  rw [Array.toArray_toList] at hres
  exact bodyPost_ret (results_c1 (a := 6) (t := 76) (x := 7) rfl rfl hres) rfl ⟨by rw [HCC.out]; rfl, HBX.out⟩
set_option maxHeartbeats 4000000 in
theorem record_bad2 (s d x y : Int) (A B : Option Addr) (c c' : Nat) (a b : List Nat) (w : World) (hs : U32 s) (hof : ofB d a b = false) (hx : ¬ (1 ≤ x ∧ x ≤ 16)) (ha : a.length ≤ 1000) (hb : b.length ≤ 1000) (ra : Rd w w.heap.size A (a.flatMap btC)) (rb : Rd w w.heap.size B (b.flatMap btC)) :
    Calls Tryz.prog 30 #[.agg #[.int .u32 s, .int .i64 d, .int .i64 x, .int .i64 y], .slice A a.length c, .slice B b.length c'] w fun e w' => e = .returned (.tuple #[.agg #[.int .u32 0, .int .i64 0, .int .i64 0, .int .i64 0, .slice none 0 0, .slice none 0 0, .int .u32 0], .int .i64 1]) ∧ Below w.heap.size w w' := by
  have hd := (ofB_of hof).1
  have HPG := Lib.hid (fun (V : World) (hV : Below w.heap.size w V) => pages_good s d x y A B c c' a b (d.toNat + min a.length b.length) V hs hof (by omega) ha hb ((ra.below hV (Nat.le_refl _)).more hV.size) ((rb.below hV (Nat.le_refl _)).more hV.size))
  have HWI := Lib.hid (fun (V : World) => window_any s d x y V)
  rw [decide_eq_false hx] at HWI
  clear ra rb hof hx
  go_enter Tryz.func30, Tryz.ntmps30
  go_upto_region 1 with fail
  refine named2 (F := fun W => Code.wp _ _ _ _ W) ?_
  intro w1 k0 k6 hb1 hz1
  have r0a := (k0).cell 0; have r0b := (k0).cell 1; have r0c := (k0).cell 2; have r0d := (k0).cell 3; have r0e := (k0).frozen 0; have r0f := (k0).frozen 1; have r0g := (k0).frozen 2; have r0h := (k0).frozen 3; have r0l := (k0).lt; simp only [List.getElem?_toArray, List.getElem?_cons_zero, List.getElem?_cons_succ] at r0a r0b r0c r0d
  have K0 := Lib.hid k0
  have K6 := Lib.hid k6
  clear hz1 k0 k6
  go_upto_region 4 with (first
    | (go_at_call 16; refine (HPG.out _ hb1).mono ?_; rintro e w3 ⟨A', cp, xs, rfl, -, -, -, hb3⟩; have HB3 := Lib.hid (bTrans hb1 hb3); have K3 := Lib.hid (K0.out.on hb3); have K63 := Lib.hid (K6.out.on hb3); clear hb3))
  clear r0a r0b r0c r0d r0e r0f r0g r0h r0l hb1 K0 K6 HPG
  have s0a := (K3.out).cell 0; have s0b := (K3.out).cell 1; have s0c := (K3.out).cell 2; have s0d := (K3.out).cell 3; have s0e := (K3.out).frozen 0; have s0f := (K3.out).frozen 1; have s0g := (K3.out).frozen 2; have s0h := (K3.out).frozen 3; have s0l := (K3.out).lt; simp only [List.getElem?_toArray, List.getElem?_cons_zero, List.getElem?_cons_succ] at s0a s0b s0c s0d
  go_upto_region 5 with (first
    | (go_at_call 83; refine (HWI.out _).mono ?_; rintro e w4 ⟨rfl, hb4⟩; have HB4 := Lib.hid (bTrans HB3.out hb4); have K64 := Lib.hid (K63.out.on hb4); clear hb4))
  clear s0a s0b s0c s0d s0e s0f s0g s0h s0l HB3 K3 K63
  obtain ⟨C, hC⟩ : ∃ C : Array Value, #[.int .u32 0, .int .i64 0, .int .i64 0, .int .i64 0, .slice none 0 0, .slice none 0 0, .int .u32 0] = C := ⟨_, rfl⟩
  have hbt := built_tape0
  rw [hC] at hbt
  have HBT := Lib.hid hbt
  have HCC := Lib.hid hC
  have hsz : C.size = 7 := by rw [← hC]; rfl
  have H1C : Hid (C.all (·.oneCell') = true) := Lib.hid (by rw [← hC]; simp [Value.oneCell'])
  have HSZ : Hid ((Tryz.prog.info? 76).map (·.size) = some C.size) := Lib.hid (by rw [hsz]; kernel_rfl)
  have hcl : C.toList.length = C.size := by simp
  have HTH : Hid (w4.there (w.heap.size + 1) 0 C.size) := Lib.hid (by rw [hsz]; exact Blk.there K64.out (by show 0 + 7 ≤ 7; decide))
  have hrg := World.rangeAt_setCells_same w4 (w.heap.size + 1) 0 C.toList (by rw [hcl]; exact HTH.out)
  have HRES := Lib.hid (run_loadVar_mid (P := Tryz.prog) _ _ _ 76 C.toList _ hrg Tryz.underlying76 rfl (by rw [hcl]; exact HSZ.out))
  have HBX := Lib.hid (bSetCells HB4.out (show w.heap.size ≤ w.heap.size + 1 by omega) 0 C.toList)
  obtain ⟨wx, hwx⟩ : ∃ wx, w4.setCells (w.heap.size + 1) 0 C.toList = wx := ⟨_, rfl⟩
  rw [hwx] at HRES HBX
  have HWX := Lib.hid hwx
  clear hsz hcl hrg hwx hC hbt
  go_wp2_with (first
    | (refine wpList_built rfl 76 [] rfl C [] rfl HBT.out ?_)
    | (refine wpList_store_mid rfl 76 (.tmp 6) (.tmp 28) rfl (w.heap.size + 1) 0 C rfl rfl HTH.out HSZ.out H1C.out ?_; rw [HWX.out]))
  have hres := HRES.out
  rw [Array.toArray_toList] at hres
  exact bodyPost_ret (results_c1 (a := 6) (t := 76) (x := 7) rfl rfl hres) rfl ⟨by rw [HCC.out]; rfl, HBX.out⟩
theorem ofB_take {d : Int} {a b : List Nat} (h : ofB d a b = false) (n m : Nat) : ofB d (a.take n) (b.take m) = false := by
  unfold ofB badB at *
  simp only [Bool.or_eq_false_iff, decide_eq_false_iff_not, List.any_eq_false, decide_eq_true_eq] at *
  obtain ⟨⟨⟨h1, h2⟩, h3⟩, h4⟩ := h
  exact ⟨⟨⟨h1, h2⟩, fun x hx => h3 x (List.mem_of_mem_take hx)⟩, fun x hx => h4 x (List.mem_of_mem_take hx)⟩
theorem ofB_set {d : Int} {a b : List Nat} (h : ofB d a b = false) (k v : Nat) (hv : v < 64) : ofB d (a.set k v) b = false := by
  unfold ofB badB at *
  simp only [Bool.or_eq_false_iff, decide_eq_false_iff_not, List.any_eq_false, decide_eq_true_eq] at *
  obtain ⟨⟨⟨h1, h2⟩, h3⟩, h4⟩ := h
  refine ⟨⟨⟨h1, h2⟩, fun x hx => ?_⟩, h4⟩
  rcases List.mem_or_eq_of_mem_set hx with hx | rfl
  · exact h3 x hx
  · omega
theorem xor_self_iff (a b : Nat) : (a ^^^ b = a) ↔ b = 0 := by
  constructor
  · intro h
    have h2 := congrArg (a ^^^ ·) h
    simp only [← Nat.xor_assoc, Nat.xor_self, Nat.zero_xor] at h2
    exact h2
  · rintro rfl; simp
end Go.Proofs.YtibeihcpehikoaaGreat

namespace Go.Proofs.YtibeihcpehikoaaGreat
open Go.RowKit
attribute [local irreducible] wpMixU
set_option maxRecDepth 100000
set_option linter.unusedSimpArgs false
theorem cut_in (z : Int) (n : Nat) (hn : 1 ≤ n) (hn2 : n ≤ 250) : ∃ i : Nat, wrap64 ((IntKind.u64.wrap z).tmod (n : Int)) = i ∧ i < n := by
  obtain ⟨u, hu⟩ : ∃ u, IntKind.u64.wrap z = u := ⟨_, rfl⟩
  have h0 : 0 ≤ u := by
    rw [← hu]
    simp [IntKind.wrap, IntKind.signed, IntKind.bits]
    omega
  rw [hu, Int.tmod_eq_emod_of_nonneg h0]
  have h1 := Int.emod_nonneg u (show (n : Int) ≠ 0 by omega)
  have h2 := Int.emod_lt_of_pos u (show (0 : Int) < n by omega)
  exact ⟨(u % n).toNat, by unfold wrap64; omega, by omega⟩
theorem goes_bs_bt0 {W : World} {o : Oper} {a : Act} (ho : o.op = .buildSlice 25 0 #[]) : Oper.goes Tryz.prog o a W (fun v W' => v = .slice (some ⟨W.heap.size, 0, none⟩) 0 0 ∧ W' = W.alloc (.cells #[] 5)) := by
  obtain ⟨i0, hi0, hz0, hz1, hz2⟩ := info_parts Tryz.infoU8
  unfold Oper.goes execOp
  simp [ho, go_sem]
/-- What is recorded, or what isn't. -/
def recOk (d x : Int) (a b : List Nat) : Bool := !ofB d a b && decide (1 ≤ x ∧ x ≤ 16)
theorem record_no (s d x y : Int) (A B : Option Addr) (c c' : Nat) (a b : List Nat) (w : World) (hs : U32 s) (hof : recOk d x a b = false) (ha : a.length ≤ 1000) (hb : b.length ≤ 1000) (ra : Rd w w.heap.size A (a.flatMap btC)) (rb : Rd w w.heap.size B (b.flatMap btC)) :
    Calls Tryz.prog 30 #[.agg #[.int .u32 s, .int .i64 d, .int .i64 x, .int .i64 y], .slice A a.length c, .slice B b.length c'] w fun e w' => e = .returned (.tuple #[.agg #[.int .u32 0, .int .i64 0, .int .i64 0, .int .i64 0, .slice none 0 0, .slice none 0 0, .int .u32 0], .int .i64 1]) ∧ Below w.heap.size w w' := by
  cases ho : ofB d a b
  · refine record_bad2 s d x y A B c c' a b w hs ho (fun hx => ?_) ha hb ra rb
    unfold recOk at hof
    rw [ho, decide_eq_true hx] at hof
    cases hof
  · exact record_bad1 s d x y A B c c' a b w ho ha hb ra rb
set_option maxHeartbeats 16000000 in
theorem turned_any (hst : StepR) (s d x y at_ by_ sum : Int) (A B : Option Addr) (c c' : Nat) (a b : List Nat) (w : World) (hs : U32 s) (hby : 0 ≤ by_ ∧ by_ ≤ 255) (hsum : U32 sum) (hca : a.length ≤ c) (hcb : b.length ≤ c') (hm : a.length ≤ 9223372036854775807 ∧ b.length ≤ 9223372036854775807) (ra : Rd w w.heap.size A (a.flatMap btC)) (rb : Rd w w.heap.size B (b.flatMap btC)) :
    Calls Tryz.prog 5 #[.agg #[.int .u32 s, .int .i64 d, .int .i64 x, .int .i64 y], .slice A a.length c, .slice B b.length c', .int .i64 at_, .int .u8 by_, .int .u32 sum] w fun e w' => e = .returned (.bool true) ∧ Below w.heap.size w w' := by
  have HRA := Lib.hid ra
  have HRB := Lib.hid rb
  obtain ⟨na, hna⟩ : ∃ na, a.length = na := ⟨_, rfl⟩
  obtain ⟨nb, hnb⟩ : ∃ nb, b.length = nb := ⟨_, rfl⟩
  have HNA := Lib.hid hna
  have HNB := Lib.hid hnb
  rw [hna] at hca hm ⊢
  rw [hnb] at hcb hm ⊢
  have HST := Lib.hid hst
  clear ra rb hna hnb hst
  go_enter Tryz.func5, Tryz.ntmps5
  go_upto_region 1 with fail
  refine named1 (F := fun W => Code.wp _ _ _ _ W) ?_
  intro w0 k0 hb0 hz0
  have K0 := Lib.hid k0
  have HB0 := Lib.hid hb0
  clear k0 hb0 hz0
  go_upto_region 3 with (first | (go_at_call 29; refine (awake28_any _).mono ?_; rintro e w1 ⟨rfl, hb1⟩; have HB1 := Lib.hid (bTrans HB0.out hb1); have K1 := Lib.hid (K0.out.on hb1); clear hb1))
  clear K0 HB0
  by_cases h1 : 250 < na
  · have q1 : decide ((250 : Int) < (na : Int)) = true := decide_eq_true (by omega)
    go_wp2_with fail
    go_ret
    exact ⟨rfl, HB1.out⟩
  have q1 : decide ((250 : Int) < (na : Int)) = false := decide_eq_false (by omega)
  by_cases h2 : 250 < nb
  · have q2 : decide ((250 : Int) < (nb : Int)) = true := decide_eq_true (by omega)
    go_wp2_with fail
    go_ret
    exact ⟨rfl, HB1.out⟩
  have q2 : decide ((250 : Int) < (nb : Int)) = false := decide_eq_false (by omega)
  by_cases h3 : na = 0
  · have q3 : ((na : Int) == 0) = true := by simp [h3]
    clear h3
    go_wp2_with fail
    go_ret
    exact ⟨rfl, HB1.out⟩
  have q3 : ((na : Int) == 0) = false := by simp [h3]
  by_cases h4 : nb = 0
  · have q4 : ((nb : Int) == 0) = true := by simp [h4]
    clear h4
    go_wp2_with fail
    go_ret
    exact ⟨rfl, HB1.out⟩
  have q4 : ((nb : Int) == 0) = false := by simp [h4]
  cases hrec : recOk d x a b
  · have HRC := Lib.hid (fun (V : World) (hV : Below w.heap.size w V) => record_no s d x y A B c c' a b V hs hrec (by have := HNA.out; omega) (by have := HNB.out; omega) ((HRA.out.below hV (Nat.le_refl _)).more hV.size) ((HRB.out.below hV (Nat.le_refl _)).more hV.size))
    rw [HNA.out, HNB.out] at HRC
    have r0a := (K1.out).cell 0; have r0b := (K1.out).cell 1; have r0c := (K1.out).cell 2; have r0d := (K1.out).cell 3; have r0e := (K1.out).frozen 0; have r0f := (K1.out).frozen 1; have r0g := (K1.out).frozen 2; have r0h := (K1.out).frozen 3; have r0l := (K1.out).lt; simp only [List.getElem?_toArray, List.getElem?_cons_zero, List.getElem?_cons_succ] at r0a r0b r0c r0d
    clear hrec
    go_wp2_with (first | (go_at_call 30; refine (HRC.out _ HB1.out).mono ?_; rintro e w2 ⟨rfl, hb2⟩; have HB2 := Lib.hid (bTrans HB1.out hb2); clear hb2))
    go_ret
    exact ⟨rfl, bAlloc HB2.out _⟩
  obtain ⟨hof, hx⟩ : ofB d a b = false ∧ (1 ≤ x ∧ x ≤ 16) := by
    unfold recOk at hrec
    simpa using hrec
  obtain ⟨n, hn⟩ : ∃ n, min na nb = n := ⟨_, rfl⟩
  have hnm : n = min a.length b.length := by rw [HNA.out, HNB.out, hn]
  have hn1 : 1 ≤ n ∧ n ≤ 250 := by omega
  have HRC := Lib.hid (fun (V : World) (hV : Below w.heap.size w V) => record_good s d x y A B c c' a b n hnm V hs hof hx (by have := HNA.out; omega) (by have := HNB.out; omega) (by rw [HNA.out]; exact hca) (by rw [HNB.out]; exact hcb) ((HRA.out.below hV (Nat.le_refl _)).more hV.size) ((HRB.out.below hV (Nat.le_refl _)).more hV.size))
  rw [HNA.out, HNB.out] at HRC
  have hcut := hapG_cut s d a b n hnm
  have hofc := ofB_take hof n n
  have hl1 : (a.take n).length = n := by rw [List.length_take]; omega
  have hl2 : (b.take n).length = n := by rw [List.length_take]; omega
  obtain ⟨L1, hL1⟩ : ∃ L, a.take n = L := ⟨_, rfl⟩
  obtain ⟨L2, hL2⟩ : ∃ L, b.take n = L := ⟨_, rfl⟩
  have hHlt := hapG_lt s d a b
  obtain ⟨H, hH⟩ : ∃ H, hapG s d a b = H := ⟨_, rfl⟩
  rw [hL1, hL2, hH] at HRC
  rw [hL1, hL2, hH] at hcut
  rw [hL1, hL2] at hofc
  rw [hL1] at hl1
  rw [hL2] at hl2
  rw [hH] at hHlt
  have HL1 := Lib.hid hl1
  have HL2 := Lib.hid hl2
  have HCUT := Lib.hid hcut
  have HOFC := Lib.hid hofc
  have HX := Lib.hid hx
  have r0a := (K1.out).cell 0; have r0b := (K1.out).cell 1; have r0c := (K1.out).cell 2; have r0d := (K1.out).cell 3; have r0e := (K1.out).frozen 0; have r0f := (K1.out).frozen 1; have r0g := (K1.out).frozen 2; have r0h := (K1.out).frozen 3; have r0l := (K1.out).lt; simp only [List.getElem?_toArray, List.getElem?_cons_zero, List.getElem?_cons_succ] at r0a r0b r0c r0d
  clear hrec hof hx hn hnm hcut hofc hl1 hl2 hL1 hL2 hH h1 h2 h3 h4
  go_upto_region 6 with (first | (go_at_call 30; refine (HRC.out _ HB1.out).mono ?_; rintro e w2 ⟨A2, B2, cA, cB, rfl, ho1, ho2, hb2⟩; have HB2 := Lib.hid (bTrans HB1.out hb2); have HO1 := Lib.hid (ho1.more HB1.out.size); have HO2 := Lib.hid (ho2.more HB1.out.size); clear hb2 ho1 ho2))
  refine named1 (F := fun W => Code.wp _ _ _ _ W) ?_
  intro w3 k3 hb3 hz3
  have K3 := Lib.hid k3
  have HB3 := Lib.hid (bTrans HB2.out hb3)
  have HO13 := Lib.hid (HO1.out.below hb3)
  have HO23 := Lib.hid (HO2.out.below hb3)
  have hw3 : w.heap.size ≤ w2.heap.size := HB2.out.size
  obtain ⟨g13, hg13⟩ : ∃ g, w2.heap.size = g := ⟨_, rfl⟩
  rw [hg13] at K3 hw3 ⊢
  clear k3 hb3 hz3 HO1 HO2 HB2 hg13 r0a r0b r0c r0d r0e r0f r0g r0h r0l q1 q2 q3 q4 HB1 K1 HRC
  have q7 := K3.out; have s0a := q7.cell 0; have s0b := q7.cell 1; have s0c := q7.cell 2; have s0d := q7.cell 3; have s0e := q7.cell 4; have s0f := q7.cell 5; have s0g := q7.cell 6; have s0l := q7.lt; simp only [List.getElem?_toArray, List.getElem?_cons_zero, List.getElem?_cons_succ] at s0a s0b s0c s0d s0e s0f s0g; clear q7
  go_upto_region 9 with fail
  refine named1 (F := fun W => Code.wp _ _ _ _ W) ?_
  intro w4 k4 hb4 hz4
  have K34 := Lib.hid (K3.out.on hb4)
  have K44 := Lib.hid k4
  have HB4 := Lib.hid (bTrans HB3.out hb4)
  have HO14 := Lib.hid (HO13.out.below hb4)
  have HO24 := Lib.hid (HO23.out.below hb4)
  have hg34 : g13 < w3.heap.size := K3.out.lt
  obtain ⟨g15, hg15⟩ : ∃ g, w3.heap.size = g := ⟨_, rfl⟩
  rw [hg15] at K44 hg34 ⊢
  clear k4 hb4 hz4 HO13 HO23 HB3 hg15 K3 s0a s0b s0c s0d s0e s0f s0g s0l
  have q7 := K44.out; have s0a := q7.cell 0; have s0b := q7.cell 1; have s0c := q7.cell 2; have s0d := q7.cell 3; have s0e := q7.cell 4; have s0f := q7.cell 5; have s0g := q7.cell 6; have s0l := q7.lt; simp only [List.getElem?_toArray, List.getElem?_cons_zero, List.getElem?_cons_succ] at s0a s0b s0c s0d s0e s0f s0g; clear q7
  have fz := K44.out.frozen 6
  obtain ⟨sm, hsm⟩ := Int.eq_ofNat_of_zero_le hsum.1
  have hsm2 : sm < 4294967296 := by have := hsum.2; omega
  have hxo : bits .xor .u32 (H : Int) sum = ((H ^^^ sm : Nat) : Int) := by rw [hsm]; exact bits_xor_u32_nat H sm hHlt hsm2
  have HXI := Lib.hid (xor_self_iff H sm)
  have HSM := Lib.hid hsm
  obtain ⟨X, hX⟩ : ∃ X, H ^^^ sm = X := ⟨_, rfl⟩
  rw [hX] at hxo HXI
  clear hX hsm hsm2
  go_upto_region 10 with fail
  obtain ⟨w5, hw5⟩ : ∃ w5, w5 = w4.setCell ⟨g15, 6, none⟩ (.int .u32 (X : Nat)) := ⟨_, rfl⟩
  have k55 : Blk w5 g15 76 #[.int .u32 s, .int .i64 d, .int .i64 x, .int .i64 0, .slice A2 n cA, .slice B2 n cB, .int .u32 (X : Nat)] := by rw [hw5]; exact K44.out.set 6 _
  have k35 : Blk w5 g13 76 #[.int .u32 s, .int .i64 d, .int .i64 x, .int .i64 0, .slice A2 n cA, .slice B2 n cB, .int .u32 (H : Nat)] := by rw [hw5]; exact K34.out.farG (by omega) 6 _
  have hb5 : Below w.heap.size w w5 := by rw [hw5]; exact bSetG HB4.out (by omega) 6 _
  have ho15 : OwnL w5 w.heap.size 5 1 (.slice A2 n cA) btC L1 := by rw [hw5]; exact HO14.out.farG (K44.out.apart HO14.out (by decide)) 6 _
  have ho25 : OwnL w5 w.heap.size 5 1 (.slice B2 n cB) btC L2 := by rw [hw5]; exact HO24.out.farG (K44.out.apart HO24.out (by decide)) 6 _
  rw [← hw5]
  have K55 := Lib.hid k55
  have K35 := Lib.hid k35
  have HB5 := Lib.hid hb5
  have HO15 := Lib.hid ho15
  have HO25 := Lib.hid ho25
  clear hw5 k55 k35 hb5 ho15 ho25 K44 K34 HB4 HO14 HO24 s0a s0b s0c s0d s0e s0f s0g s0l fz
  have hrt : rightTp d x 0 L1 L2 = true := by
    unfold rightTp
    rw [decide_eq_true HX.out, HL1.out, HL2.out, HOFC.out]
    simp
  have HRT := Lib.hid hrt
  have HOP : Hid (Calls Tryz.prog 31 #[.agg #[.int .u32 s, .int .i64 d, .int .i64 x, .int .i64 0, .slice A2 n cA, .slice B2 n cB, .int .u32 (X : Nat)], .int .i64 10] w5 fun e w' => ∃ (du : Option Addr) (f : Int), e = .returned (.tuple #[.pointer du, .int .i64 f]) ∧ ((sum = 0 ∧ f = 0) ∨ (sum ≠ 0 ∧ f = 13 ∧ du = none)) ∧ Below w5.heap.size w5 w') := Lib.hid (by
    by_cases hs0 : sm = 0
    · have h := open_good 10 (by decide) s d x (X : Nat) A2 B2 cA cB L1 L2 w5 hs hrt (by rw [HCUT.out, HXI.out.2 hs0]) (by rw [HL1.out]; omega) HO15.out.rd HO25.out.rd
      rw [HL1.out, HL2.out] at h
      refine h.mono ?_
      rintro e w' ⟨g, rfl, -, -, hb⟩
      exact ⟨_, _, rfl, .inl ⟨by rw [HSM.out, hs0]; rfl, rfl⟩, hb⟩
    · have h := open_err 10 (by decide) s d x 0 (X : Nat) 13 (by decide) A2 B2 n cA n cB w5 (fun V hV => by
        have hv := verify_good s d x (X : Nat) A2 B2 cA cB L1 L2 V hs hrt (by rw [HL1.out]; omega) (by rw [HL2.out]; omega) (HO15.out.below hV).rd (HO25.out.below hV).rd
        rw [HL1.out, HL2.out, HCUT.out, if_neg (by intro e; exact hs0 (HXI.out.1 (by omega)))] at hv
        exact hv)
      refine h.mono ?_
      rintro e w' ⟨rfl, hb⟩
      exact ⟨_, _, rfl, .inr ⟨by rw [HSM.out]; omega, rfl, rfl⟩, hb⟩)
  clear hrt
  have q7 := K55.out; have s0a := q7.cell 0; have s0b := q7.cell 1; have s0c := q7.cell 2; have s0d := q7.cell 3; have s0e := q7.cell 4; have s0f := q7.cell 5; have s0g := q7.cell 6; have s0l := q7.lt; simp only [List.getElem?_toArray, List.getElem?_cons_zero, List.getElem?_cons_succ] at s0a s0b s0c s0d s0e s0f s0g; clear q7
  go_upto_region 11 with (first | (go_at_call 31; refine HOP.out.mono ?_; rintro e w6 ⟨du, f, rfl, hcs, hb6⟩; have HG6 := Lib.hid hb6; have HCS := Lib.hid hcs; clear hb6 hcs))
  go_cut [78] (fun v wx => v = .bool false ∧ w6 = wx)
  case first =>
    rcases HCS.out with ⟨hs0, hf0⟩ | ⟨hs0, hf0, hd0⟩
    · subst hf0
      have p1 : (sum == 0) = true := by rw [hs0]; rfl
      have p2 : (sum != 0) = false := by rw [hs0]; rfl
      clear hs0 hsum HSM
      go_wp2_with fail
      go_meet
      exact ⟨rfl, rfl⟩
    · subst hf0
      subst hd0
      have p1 : (sum == 0) = false := by simpa using hs0
      have p2 : (sum != 0) = true := by simpa using hs0
      clear hs0
      go_wp2_with fail
      go_meet
      exact ⟨rfl, rfl⟩
  case rest =>
  obtain ⟨rfl, rfl⟩ := hcut
  have K36 := Lib.hid (K35.out.on HG6.out)
  have HO16 := Lib.hid (HO15.out.below HG6.out)
  have HO26 := Lib.hid (HO25.out.below HG6.out)
  have HB6 := Lib.hid (bTrans HB5.out HG6.out)
  clear HOP HCS HG6 K35 K55 HO15 HO25 HB5 s0a s0b s0c s0d s0e s0f s0g s0l HXI
  have q7 := K36.out; have s0a := q7.cell 0; have s0b := q7.cell 1; have s0c := q7.cell 2; have s0d := q7.cell 3; have s0e := q7.cell 4; have s0f := q7.cell 5; have s0g := q7.cell 6; have s0l := q7.lt; simp only [List.getElem?_toArray, List.getElem?_cons_zero, List.getElem?_cons_succ] at s0a s0b s0c s0d s0e s0f s0g; clear q7
  go_upto_region 14 with fail
  refine named1 (F := fun W => Code.wp _ _ _ _ W) ?_
  intro w7 k7 hb7 hz7
  have K37 := Lib.hid (K36.out.on hb7)
  have K77 := Lib.hid k7
  have HB7 := Lib.hid (bTrans HB6.out hb7)
  have HO17 := Lib.hid (HO16.out.below hb7)
  have HO27 := Lib.hid (HO26.out.below hb7)
  have hg38 : g13 < w6.heap.size := K36.out.lt
  obtain ⟨g18, hg18⟩ : ∃ g, w6.heap.size = g := ⟨_, rfl⟩
  rw [hg18] at K77 hg38 ⊢
  clear k7 hb7 hz7 HO16 HO26 HB6 hg18 K36 s0a s0b s0c s0d s0e s0f s0g s0l
  have f4 := K77.out.frozen 4
  have q7 := K37.out; have s0a := q7.cell 0; have s0b := q7.cell 1; have s0c := q7.cell 2; have s0d := q7.cell 3; have s0e := q7.cell 4; have s0f := q7.cell 5; have s0g := q7.cell 6; have s0l := q7.lt; simp only [List.getElem?_toArray, List.getElem?_cons_zero, List.getElem?_cons_succ] at s0a s0b s0c s0d s0e s0f s0g; clear q7
  have q7 := K77.out; have t0a := q7.cell 0; have t0b := q7.cell 1; have t0c := q7.cell 2; have t0d := q7.cell 3; have t0e := q7.cell 4; have t0f := q7.cell 5; have t0g := q7.cell 6; have t0l := q7.lt; simp only [List.getElem?_toArray, List.getElem?_cons_zero, List.getElem?_cons_succ] at t0a t0b t0c t0d t0e t0f t0g; clear q7
  have hsz7 : w.heap.size ≤ w7.heap.size := HB7.out.size
  go_upto_region 15 with (first
    | (refine wpList_goes rfl (goes_bs_bt0 rfl) ?_
       rintro v8 w8 ⟨rfl, hw8⟩
       have hg8 : Grown w7 w8 := by rw [hw8]; exact bAlloc (Below.refl _ _) _
       have hn8 : OwnL w8 w7.heap.size 5 1 (.slice (some ⟨w7.heap.size, 0, none⟩) 0 0) btC [] := by
         rw [hw8]
         exact OwnL.lit (f := btC) (m := 1) (n := 0) (c := 0) [] #[] (Nat.le_refl _) (by simp [maxLen]) btC_length rfl rfl rfl
       have HN8 := Lib.hid hn8
       have HG8 := Lib.hid hg8
       have q7 := (K37.out.on hg8); have x0a := q7.cell 0; have x0b := q7.cell 1; have x0c := q7.cell 2; have x0d := q7.cell 3; have x0e := q7.cell 4; have x0f := q7.cell 5; have x0g := q7.cell 6; have x0l := q7.lt; simp only [List.getElem?_toArray, List.getElem?_cons_zero, List.getElem?_cons_succ] at x0a x0b x0c x0d x0e x0f x0g; clear q7
       clear hw8 hg8 hn8 s0a s0b s0c s0d s0e s0f s0g s0l t0a t0b t0c t0d t0e t0f t0g t0l f4)
    | (at_builtin
       refine wpList_goes rfl (goes_app_bt (.tmp 80) (.tmp 82) rfl w7.heap.size (.slice (some ⟨w7.heap.size, 0, none⟩) 0 0) [] L1 HN8.out ?h1 w8.heap.size A2 n cA HL1.out.symm ?h2 (HO17.out.below HG8.out).rd ?c0 ?c1) ?_
       case h1 => rfl
       case h2 => rfl
       case c0 => have h1 := HL1.out; simp; omega
       case c1 => exact Below.size HG8.out
       rintro v9 w9 ⟨ho9, hg9⟩
       rw [List.nil_append] at ho9
       obtain ⟨A9, c9, rfl⟩ := ho9.shape
       have hA : ∀ {E : TypeId} {al : Type} {f : al → List Value} {k base : Nat} {v : Value} {l : List al}, OwnL w7 base E k v f l → OwnL w9 base E k v f l := fun h => OwnL.kept (h.below HG8.out) hg9 (by
         cases hv : Value.ownBlock _ with
         | none => exact .inl rfl
         | some q => exact .inr (fun e => by have h1 := h.block_lt q hv; simp [Value.ownBlock] at e; omega))
       have hBk : ∀ {g : Nat} {E : TypeId} {cs : Array Value}, Blk w7 g E cs → Blk w9 g E cs := fun h => (h.on HG8.out).grown hg9 (by have := h.lt; simp [Value.ownBlock]; omega)
       have K39 := Lib.hid (hBk K37.out)
       have K79 := Lib.hid (hBk K77.out)
       have HO19 := Lib.hid (hA HO17.out)
       have HO29 := Lib.hid (hA HO27.out)
       have HB9 := Lib.hid ((bTrans HB7.out HG8.out).grown hg9 (Nat.le_trans hsz7 (Below.size HG8.out)) (fun k e => by simp [Value.ownBlock] at e; omega))
       have HN9 := Lib.hid ho9
       have HNL9 : Hid (L1.length = n) := HL1
       have f4 := K79.out.frozen 4
       have q7 := K79.out; have z0a := q7.cell 0; have z0b := q7.cell 1; have z0c := q7.cell 2; have z0d := q7.cell 3; have z0e := q7.cell 4; have z0f := q7.cell 5; have z0g := q7.cell 6; have z0l := q7.lt; simp only [List.getElem?_toArray, List.getElem?_cons_zero, List.getElem?_cons_succ] at z0a z0b z0c z0d z0e z0f z0g; clear q7
       clear ho9 hg9 hA hBk x0a x0b x0c x0d x0e x0f x0g x0l))
  try rw [HL1.out] at HN9
  try rw [HL1.out]
  obtain ⟨w10, hw10⟩ : ∃ w10, w10 = w9.setCell ⟨g18, 4, none⟩ (.slice A9 n c9) := ⟨_, rfl⟩
  have hg18b : g18 < w7.heap.size := K77.out.lt
  have k710 : Blk w10 g18 76 #[.int .u32 s, .int .i64 d, .int .i64 x, .int .i64 0, .slice A9 n c9, .slice B2 n cB, .int .u32 (H : Nat)] := by rw [hw10]; exact K79.out.set 4 _
  have k310 : Blk w10 g13 76 #[.int .u32 s, .int .i64 d, .int .i64 x, .int .i64 0, .slice A2 n cA, .slice B2 n cB, .int .u32 (H : Nat)] := by rw [hw10]; exact K39.out.farG (by omega) 4 _
  have hb10 : Below w.heap.size w w10 := by rw [hw10]; exact bSetG HB9.out (by omega) 4 _
  have ho210 : OwnL w10 w.heap.size 5 1 (.slice B2 n cB) btC L2 := by rw [hw10]; exact HO29.out.farG (K79.out.apart HO29.out (by decide)) 4 _
  have hn10 : OwnL w10 w7.heap.size 5 1 (.slice A9 n c9) btC L1 := by rw [hw10]; exact HN9.out.farG (K79.out.apart HN9.out (by decide)) 4 _
  have hapart : (Value.slice B2 n cB).ownBlock = none ∨ (Value.slice B2 n cB).ownBlock ≠ (Value.slice A9 n c9).ownBlock := by
    cases hv : (Value.slice B2 n cB).ownBlock with
    | none => exact .inl rfl
    | some q => exact .inr (fun e => by have h1 := HO27.out.block_lt q hv; have h2 := HN9.out.base_le q e.symm; omega)
  rw [← hw10]
  obtain ⟨hn1a, hn1b⟩ := hn1
  obtain ⟨kI, hkI, hkl⟩ := cut_in at_ n hn1a hn1b
  obtain ⟨g9, rfl, -, hgw9, hg9⟩ := hn10.formA (by rw [HL1.out]; omega)
  have hkL : kI < L1.length := by rw [HL1.out]; exact hkl
  have hc9 := hn10.one (h := fun q : Nat => Value.int .u8 (q : Int)) (fun _ => rfl) (k := kI) hkL
  have hx64 := (ofB_of HOFC.out).2.1 L1[kI] (List.getElem_mem hkL)
  obtain ⟨xv, hxv⟩ : ∃ xv, L1[kI] = xv := ⟨_, rfl⟩
  rw [hxv] at hc9 hx64
  obtain ⟨by1, by2⟩ := hby
  have hn1i : (1 : Int) ≤ n := by omega
  have hn2i : (n : Int) ≤ 250 := by omega
  obtain ⟨nv, hnv, hnv64⟩ : ∃ nv : Nat, ((xv : Int) + by_) % 256 % 64 = nv ∧ nv < 64 := ⟨(((xv : Int) + by_) % 256 % 64).toNat, by omega, by omega⟩
  have htm : (((xv : Int) + by_) % 256).tmod 64 = (nv : Int) := by rw [Int.tmod_eq_emod_of_nonneg (by omega), hnv]
  have hwr : IntKind.u8.wrap ((xv : Int) + by_) = ((xv : Int) + by_) % 256 := IntKind.wrap_u8 _
  have K710 := Lib.hid k710
  have K310 := Lib.hid k310
  have HB10 := Lib.hid hb10
  have HO210 := Lib.hid ho210
  have HN10 := Lib.hid hn10
  have HAP := Lib.hid hapart
  have HNV := Lib.hid hnv64
  have f9 := HN10.out.frozen kI
  clear hw10 k710 k310 hb10 ho210 hn10 hapart hxv hx64 K37 K77 HB7 HO17 HO27 K39 K79 HO19 HO29 HB9 HN9 HN8 HG8 z0a z0b z0c z0d z0e z0f z0g z0l f4 hnv64 hn1a hn1b
  have q7 := K710.out; have z0a := q7.cell 0; have z0b := q7.cell 1; have z0c := q7.cell 2; have z0d := q7.cell 3; have z0e := q7.cell 4; have z0f := q7.cell 5; have z0g := q7.cell 6; have z0l := q7.lt; simp only [List.getElem?_toArray, List.getElem?_cons_zero, List.getElem?_cons_succ] at z0a z0b z0c z0d z0e z0f z0g; clear q7
  go_upto_region 16 with fail
  refine wp_region_mixedU [.pure, .held, .pure, .pure, .held, .pure, .pure, .held, .pure, .pure, .pure, .pure, .tail] (by kernel_rfl) (by kernel_rfl) ?_
  repeat (first | (refine mixU_pure rfl rfl rfl (fun K hK => ?_); go_big_quiet_op; refine hK _ ?_; clear hK K) | (refine mixU_held rfl rfl rfl (by first | exact fun _ h => h | exact fun _ h => h.2) (fun K hK => ?_); go_big_quiet_op; refine hK _ ?_; clear hK K))
  refine mixU_store1 rfl rfl 5 (.tmp 104) (.tmp 103) rfl g9 kI (.int .u8 (nv : Int)) rfl rfl (fun W hW => ?_) (by kernel_rfl) rfl rfl ?_
  · refine fun j hj => ?_
    obtain rfl : j = 0 := by omega
    have hq := (HN10.out.below hW).one (h := fun q : Nat => Value.int .u8 (q : Int)) (fun _ => rfl) (k := kI) hkL
    have hf := (HN10.out.below hW).frozen kI
    rw [Nat.add_zero]
    exact ⟨by rw [hq]; rfl, hf⟩
  rintro V hgV
  have kV := (K710.out.on hgV).farG (show g18 ≠ g9 by omega) kI (.int .u8 (nv : Int))
  have kV3 := (K310.out.on hgV).farG (show g13 ≠ g9 by omega) kI (.int .u8 (nv : Int))
  have hbV := bSetG (bTrans HB10.out hgV) (show w.heap.size ≤ g9 by omega) kI (.int .u8 (nv : Int))
  have hnV := (HN10.out.below hgV).set1 (h := fun q : Nat => Value.int .u8 (q : Int)) (fun _ => rfl) (k := kI) hkL nv
  have ho2V := (HO210.out.below hgV).farG (by
    rcases HAP.out with h | h
    · rw [h]; simp
    · exact h) kI (.int .u8 (nv : Int))
  obtain ⟨w11, hw11⟩ : ∃ w11, V.setCell ⟨g9, kI, none⟩ (.int .u8 (nv : Int)) = w11 := ⟨_, rfl⟩
  rw [hw11] at kV kV3 hbV hnV ho2V ⊢
  obtain ⟨L3, hL3⟩ : ∃ L3, L1.set kI nv = L3 := ⟨_, rfl⟩
  have hl3 : L3.length = n := by rw [← hL3, List.length_set, HL1.out]
  have hof3 : ofB d L3 L2 = false := by rw [← hL3]; exact ofB_set HOFC.out kI nv HNV.out
  rw [hL3] at hnV
  have K711 := Lib.hid kV
  have K311 := Lib.hid kV3
  have HB11 := Lib.hid hbV
  have HN11 := Lib.hid hnV
  have HO211 := Lib.hid ho2V
  have HL3 := Lib.hid hl3
  have HOF3 := Lib.hid hof3
  clear kV kV3 hbV hnV ho2V hw11 hgV hL3 hl3 hof3 K710 K310 HB10 HN10 HO210 HAP z0a z0b z0c z0d z0e z0f z0g z0l
  simp only [Act.put, List.setIfInBounds_toArray, List.set_cons_zero, List.set_cons_succ]
  refine mixU_nil ?_
  rintro w12 hg12
  have K712 := Lib.hid (K711.out.on hg12)
  have K312 := Lib.hid (K311.out.on hg12)
  have HB12 := Lib.hid (bTrans HB11.out hg12)
  have HN12 := Lib.hid (HN11.out.below hg12)
  have HO212 := Lib.hid (HO211.out.below hg12)
  clear hg12 K711 K311 HB11 HN11 HO211
  have hrh := fun (V : World) (hV : Below w12.heap.size w12 V) => rhap_any HST.out s d x 0 (some ⟨g9, 0, none⟩) B2 c9 cB L3 L2 V hs HOF3.out (by rw [HL3.out]; omega) (by rw [HL2.out]; omega) (HN12.out.below hV).rd (HO212.out.below hV).rd
  have hrt3 : rightTp d x 0 L3 L2 = true := by
    unfold rightTp
    rw [decide_eq_true HX.out, HL3.out, HL2.out, HOF3.out]
    simp
  have hve := fun (V : World) (hV : Below w12.heap.size w12 V) => verify_good s d x (H : Nat) (some ⟨g9, 0, none⟩) B2 c9 cB L3 L2 V hs hrt3 (by rw [HL3.out]; omega) (by rw [HL2.out]; omega) (HN12.out.below hV).rd (HO212.out.below hV).rd
  rw [HL3.out, HL2.out] at hrh hve
  obtain ⟨H3, hH3⟩ : ∃ H3, hapG s d L3 L2 = H3 := ⟨_, rfl⟩
  rw [hH3] at hrh hve
  have HRH := Lib.hid hrh
  obtain ⟨ve, hvee⟩ : ∃ ve : Int, (if (H3 : Int) = (H : Nat) then 0 else 13) = ve := ⟨_, rfl⟩
  rw [hvee] at hve
  have HVE := Lib.hid hve
  obtain ⟨sb, hsb⟩ : ∃ sb : Bool, ((H3 : Int) == (H : Int)) = sb := ⟨_, rfl⟩
  have HEN : Hid ((sb = true ∧ ve = 0) ∨ (sb = false ∧ ve = 13)) := Lib.hid (by
    rw [← hvee, ← hsb]
    by_cases h : (H3 : Int) = (H : Int)
    · exact .inl ⟨by simp [h], by rw [if_pos h]⟩
    · exact .inr ⟨by simpa using h, by rw [if_neg h]⟩)
  clear hrh hve hH3 hvee hrt3
  have q7 := K712.out; have z0a := q7.cell 0; have z0b := q7.cell 1; have z0c := q7.cell 2; have z0d := q7.cell 3; have z0e := q7.cell 4; have z0f := q7.cell 5; have z0g := q7.cell 6; have z0l := q7.lt; simp only [List.getElem?_toArray, List.getElem?_cons_zero, List.getElem?_cons_succ] at z0a z0b z0c z0d z0e z0f z0g; clear q7
  have q7 := K312.out; have y0a := q7.cell 0; have y0b := q7.cell 1; have y0c := q7.cell 2; have y0d := q7.cell 3; have y0e := q7.cell 4; have y0f := q7.cell 5; have y0g := q7.cell 6; have y0l := q7.lt; simp only [List.getElem?_toArray, List.getElem?_cons_zero, List.getElem?_cons_succ] at y0a y0b y0c y0d y0e y0f y0g; clear q7
  go_upto_region 17 with fail
  refine wp_region_mild (by kernel_rfl) (by kernel_rfl) ?_
  repeat (go_big_quiet_step (first | (go_at_call 32; exact mild_of (HRH.out _ (Ext.below _))) | fail))
  refine wpQuiet_nil ?_
  intro w13 hw'
  obtain ⟨⟨wq, k13⟩, hw''⟩ := hw'
  subst hw''
  have K13 := Lib.hid (K712.out.on k13)
  have HB13 := Lib.hid (bTrans HB12.out k13)
  have HK13 := Lib.hid k13
  clear z0a z0b z0c z0d z0e z0f z0g z0l y0a y0b y0c y0d y0e y0f y0g y0l k13
  have q7 := K13.out; have z0a := q7.cell 0; have z0b := q7.cell 1; have z0c := q7.cell 2; have z0d := q7.cell 3; have z0e := q7.cell 4; have z0f := q7.cell 5; have z0g := q7.cell 6; have z0l := q7.lt; simp only [List.getElem?_toArray, List.getElem?_cons_zero, List.getElem?_cons_succ] at z0a z0b z0c z0d z0e z0f z0g; clear q7
  go_upto_region 19 with (first
    | (go_at_call 33; refine (HVE.out _ HK13.out).mono ?_; rintro e w14 ⟨rfl, hb14⟩; have HB14 := Lib.hid (bTrans HB13.out hb14); clear hb14))
  rcases HEN.out with ⟨rfl, rfl⟩ | ⟨rfl, rfl⟩
  · go_wp2_with fail
    go_ret
    exact ⟨rfl, HB14.out⟩
  · go_wp2_with fail
    go_ret
    exact ⟨rfl, HB14.out⟩
end Go.Proofs.YtibeihcpehikoaaGreat
