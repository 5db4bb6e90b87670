/-
  What the laws of the meter share: a lateness read, the chapter's example, how much is gone through, outs among the arguments.
-/
import Derived.Test.YtnepjdpifbjiiaaDoorMeterShare
import Derived.Test.YtnepjdpifbjiiaaDoorRows
namespace Go.Proofs.YtnepjdpifbjiiaaDoor
open Go.RowKit Go.WideShapes Go.ChangeShapes
set_option maxRecDepth 100000

def lateF (f : Nat → Int) (n : Int) : Int := if 0 ≤ n ∧ n ≤ 63 then f (10 + n.toNat) else 0
set_option maxHeartbeats 1000000 in
theorem late_any (g : Nat) (f : Nat → Int) (n : Int) (w : World) (hf : IBlk w g 53 74 f) :
    Calls Tryd.prog 17 #[.pointer (some ⟨g, 0, none⟩), .int .i64 n] w fun e w' => e = .returned (.int .i64 (lateF f n)) ∧ w = w' := by
  have hlt := hf.lt
  by_cases h : 0 ≤ n ∧ n ≤ 63
  · obtain ⟨k, rfl⟩ : ∃ k : Nat, n = k := ⟨n.toNat, by omega⟩
    have ck := hf.cell (10 + k) (by omega)
    have hr : lateF f k = f (10 + k) := by unfold lateF; rw [if_pos h]; simp
    rw [hr]
    have h64 : (k : Int) < 64 := by omega
    clear hf hr
    go_enter Tryd.func17, Tryd.ntmps17
    go_wp2
    go_ret
    exact ⟨rfl, rfl⟩
  · have hr : lateF f n = 0 := by unfold lateF; rw [if_neg h]
    rw [hr]
    clear hf hr
    by_cases h2 : n < 0
    · clear h
      go_enter Tryd.func17, Tryd.ntmps17
      go_wp2
      go_ret
      exact ⟨rfl, rfl⟩
    · have h3 : 63 < n := by omega
      clear h
      go_enter Tryd.func17, Tryd.ntmps17
      go_wp2
      go_ret
      exact ⟨rfl, rfl⟩

/-- The chapter's commands: four starts, the last one late. -/
def aw (n : Int) : CmdP := ⟨1, ⟨0, 0, 0, 0, 0, 0, 0, 0, 0⟩, n, false⟩
def awOut (b : Nat) (n : Int) : OutP := ⟨some ⟨b, 0, none⟩, 1, [aw n], none, 0, [], false⟩
def awF : Nat → (Nat → Int)
  | 0 => fun _ => 0
  | k + 1 => noteF (awF k) (awOut 0 (if k = 3 then 5 else 0))
theorem note_aw (f : Nat → Int) (b c : Nat) (n : Int) : noteF f (awOut b n) = noteF f (awOut c n) := rfl
theorem aw_sm : ∀ k : Nat, Sm (awF k) (10 * k)
  | 0 => fun j _ => by simp [awF]
  | k + 1 => by
    have h := (((aw_sm k).mov (awOut 0 (if k = 3 then 5 else 0))).sends (awOut 0 (if k = 3 then 5 else 0)).sends).cmds (awOut 0 (if k = 3 then 5 else 0)).cmds
    refine Sm.more h ?_
    simp [awOut]
    omega
theorem aw_75 : shareF (awF 4) 75 = 0 := by decide +kernel
theorem aw_76 : shareF (awF 4) 76 = 5 := by decide +kernel

set_option maxHeartbeats 1000000 in
theorem awake_any (w : World) : Calls Tryd.prog 6 #[] w fun e w' => e = .returned (.bool true) ∧ Below w.heap.size w w' := by
  go_enter Tryd.func6, Tryd.ntmps6
  go_wp2_with fail
  refine (new_any _).mono ?_
  rintro e w1 ⟨rfl, hf1, hb1⟩
  have HF1 := Lib.hid hf1
  clear hf1
  go_wp2
  go_loopw [2] (fun i wr => ∃ k : Nat, k ≤ 4 ∧ i = .int .i64 k ∧ IBlk wr w.heap.size 53 74 (awF k) ∧ Below w.heap.size w wr) (fun i _ => 4 - (intOf i).toNat)
  case atStart => exact ⟨0, by decide, rfl, HF1.out, hb1⟩
  case round =>
    clear HF1 hb1
    obtain ⟨k, hk, rfl, hf, hb⟩ := hrel
    have hsm := aw_sm k
    have hlt := hf.lt
    have HF := Lib.hid hf
    by_cases h4 : k < 4
    · have hstep : ∀ (n : Int), n = (if k = 3 then 5 else 0) → ∀ W, W = wr.alloc (.cells #[.int .i64 1, .int .i64 0, .int .i64 0, .int .i64 0, .int .i64 0, .int .i64 0, .int .i64 0, .int .i64 0, .int .i64 0, .int .i64 0, .int .i64 n, .bool false] 47) →
          Calls Tryd.prog 9 #[.pointer (some ⟨w.heap.size, 0, none⟩), .agg #[.slice (some ⟨wr.heap.size, 0, none⟩) 1 1, .slice none 0 0, .bool false]] W fun e w' => e = .returned (.tuple #[]) ∧ IBlk w' w.heap.size 53 74 (awF (k + 1)) ∧ Below w.heap.size w w' := by
        rintro n hn W rfl
        have h := note_any w.heap.size (awF k) (awOut wr.heap.size n) (wr.alloc (.cells #[.int .i64 1, .int .i64 0, .int .i64 0, .int .i64 0, .int .i64 0, .int .i64 0, .int .i64 0, .int .i64 0, .int .i64 0, .int .i64 0, .int .i64 n, .bool false] 47)) (HF.out.alloc _) (hsm.more (by omega)) ⟨RdN.new (by omega), RdN.nil _ _ _⟩ (by simp [awOut]) (by simp [awOut])
        refine h.mono ?_
        rintro e w' ⟨rfl, h1, h2⟩
        refine ⟨rfl, ?_, (bAlloc hb _).trans (bOnly h2 (by simp; omega) (fun j e => by cases e; exact Nat.le_refl _))⟩
        rw [awF, ← hn]
        exact h1
      have HST := Lib.hid hstep
      clear hf hsm hstep
      by_cases h3 : k = 3
      · subst h3
        go_wp2_with fail
        refine (HST.out 5 rfl _ rfl).mono ?_
        rintro e w2 ⟨rfl, hf2, hb2⟩
        go_wp2
        go_roundw
        case rel => exact ⟨4, by decide, rfl, hf2, hb2⟩
        case measure => decide
      · have hk3 : ((k : Int) == 3) = false := by simp; omega
        have hz : (0 : Int) = if k = 3 then 5 else 0 := by rw [if_neg h3]
        have HZ := Lib.hid hz
        clear h3 hz
        go_wp2_with fail
        refine (HST.out 0 HZ.out _ rfl).mono ?_
        rintro e w2 ⟨rfl, hf2, hb2⟩
        go_wp2
        go_roundw
        case rel => exact ⟨k + 1, by omega, by go_num, hf2, hb2⟩
        case measure => simp [intOf]; omega
    · obtain rfl : k = 4 := by omega
      have hs4 : Sm (awF 4) 1000000 := hsm.more (by decide)
      have HS4 := Lib.hid hs4
      clear hf hsm hs4
      go_wp2_with fail
      refine (share_any w.heap.size (awF 4) 75 _ HF.out HS4.out).mono ?_
      rw [aw_75]
      rintro e w2 ⟨rfl, hb2⟩
      go_wp2_with fail
      refine (share_any w.heap.size (awF 4) 76 _ (HF.out.on hb2) HS4.out).mono ?_
      rw [aw_76]
      rintro e w3 ⟨rfl, hb3⟩
      go_wp2
      go_ret
      exact ⟨rfl, bTrans (bTrans hb hb2) hb3⟩

def farB (l : List OutP) : Bool := decide (60 < l.length) || l.any fun o => decide (60 < o.cmds.length) || decide (60 < o.sends.length)
set_option maxHeartbeats 1000000 in
theorem far_any (A : Option Addr) (c : Nat) (l : List OutP) (w : World) (hr : Rd w w.heap.size A (l.flatMap OutP.cells)) :
    Calls Tryd.prog 7 #[.slice A l.length c] w fun e w' => e = .returned (.bool (farB l)) ∧ w = w' := by
  have HR := Lib.hid hr
  clear hr
  by_cases h60 : 60 < l.length
  · have hb : farB l = true := by unfold farB; rw [decide_eq_true h60]; rfl
    rw [hb]
    clear hb
    go_enter Tryd.func7, Tryd.ntmps7
    go_wp2
    go_ret
    exact ⟨rfl, rfl⟩
  · have hb : farB l = l.any fun o => decide (60 < o.cmds.length) || decide (60 < o.sends.length) := by unfold farB; rw [decide_eq_false h60]; rfl
    rw [hb]
    clear hb
    go_enter Tryd.func7, Tryd.ntmps7
    go_wp2
    go_loop [3] (fun i => ∃ k : Nat, k ≤ l.length ∧ i = .int .i64 k ∧ Hid ((l.any fun o => decide (60 < o.cmds.length) || decide (60 < o.sends.length)) = (l.drop k).any fun o => decide (60 < o.cmds.length) || decide (60 < o.sends.length))) (fun i => l.length - (intOf i).toNat)
    case atStart => exact ⟨0, Nat.zero_le _, rfl, Lib.hid rfl⟩
    case round =>
      obtain ⟨k, hk, rfl, ha⟩ := hrel
      by_cases hlt : k < l.length
      · obtain ⟨b, off, rfl, hB, hc⟩ := HR.out.at_ OutP.cells_length (by decide) hlt
        have c0 := hc 0 _ rfl
        have c1 := hc 1 _ rfl
        rw [Nat.add_zero] at c0
        have hst : ((l.drop k).any fun o => decide (60 < o.cmds.length) || decide (60 < o.sends.length)) = ((decide (60 < l[k].cmds.length) || decide (60 < l[k].sends.length)) || (l.drop (k + 1)).any fun o => decide (60 < o.cmds.length) || decide (60 < o.sends.length)) := by
          rw [List.drop_eq_getElem_cons hlt, List.any_cons]
        have HST := Lib.hid hst
        clear hc hst
        by_cases hx : 60 < l[k].cmds.length
        · have e : (l.any fun o => decide (60 < o.cmds.length) || decide (60 < o.sends.length)) = true := by rw [ha.out, HST.out, decide_eq_true hx]; rfl
          have HE := Lib.hid e
          clear e
          go_wp2
          go_ret
          exact ⟨ret_bool HE.out.symm, rfl⟩
        · by_cases hy : 60 < l[k].sends.length
          · have e : (l.any fun o => decide (60 < o.cmds.length) || decide (60 < o.sends.length)) = true := by rw [ha.out, HST.out, decide_eq_false hx, decide_eq_true hy]; rfl
            have HE := Lib.hid e
            clear e
            go_wp2
            go_ret
            exact ⟨ret_bool HE.out.symm, rfl⟩
          · have e : (l.any fun o => decide (60 < o.cmds.length) || decide (60 < o.sends.length)) = (l.drop (k + 1)).any fun o => decide (60 < o.cmds.length) || decide (60 < o.sends.length) := by rw [ha.out, HST.out, decide_eq_false hx, decide_eq_false hy]; rfl
            have HE := Lib.hid e
            clear e
            go_wp2
            go_round
            case rel => exact ⟨k + 1, by omega, by go_num, HE⟩
            case measure => simp [intOf]; omega
      · have e : (l.any fun o => decide (60 < o.cmds.length) || decide (60 < o.sends.length)) = false := by rw [ha.out, List.drop_of_length_le (by omega)]; rfl
        have HE := Lib.hid e
        clear e
        go_wp2
        go_ret
        exact ⟨ret_bool HE.out.symm, rfl⟩
theorem far_no (l : List OutP) (h : farB l = false) : l.length ≤ 60 ∧ ∀ o ∈ l, o.cmds.length ≤ 60 ∧ o.sends.length ≤ 60 := by
  unfold farB at h
  rw [Bool.or_eq_false_iff, decide_eq_false_iff_not] at h
  refine ⟨by omega, fun o ho => ?_⟩
  have := (List.any_eq_false.1 h.2) o ho
  simp at this
  omega

theorem flat_one : ∀ l : List ByteArray, (l.map fun s => [Value.string s]).flatten = l.map Value.string
  | [] => rfl
  | s :: l => by simp [flat_one l]
/-- What outs' slices hold lies below block B. -/
def OutP.In (o : OutP) (w : World) (B : Nat) : Prop := Rd w B o.cA (o.cmds.flatMap CmdP.cells) ∧ Rd w B o.sA (o.sends.map Value.string)
section
variable {H : Type} {enc : TypeId × Value → H} {w : World} {held : Bool}
theorem Tryd.cellsOut : Tryd.prog.cellsOf 31 = 3 := by kernel_rfl
theorem Tryd.cellsCmd : Tryd.prog.cellsOf 47 = 12 := by kernel_rfl
theorem Tryd.cellsCmds : Tryd.prog.cellsOf 28 = 1 := by kernel_rfl
theorem Tryd.cellsStrs : Tryd.prog.cellsOf 29 = 1 := by kernel_rfl
theorem Tryd.cellsStr : Tryd.prog.cellsOf 9 = 1 := by kernel_rfl
theorem Tryd.cellsBool : Tryd.prog.cellsOf 4 = 1 := by kernel_rfl
theorem cmd_of_trod {fuel : Nat} {cs : List Value} {y : DataW H × List MemPlace} (h : DataW.trod enc Tryd.prog w 0 (fun _ => true) held fuel 47 cs = some y) : ∃ c : CmdP, cs = c.cells ∧ I64 c.late ∧ I64 c.kind := by
  obtain ⟨xs, n, -, -, hlen, hxl, hg⟩ := DataW.trod_struct Tryd.underlying47 h
  rw [Tryd.cellsCmd] at hlen
  match cs, hlen with
  | [c0, c1, c2, c3, c4, c5, c6, c7, c8, c9, c10, c11], _ =>
    simp only [List.size_toArray, List.length_cons, List.length_nil] at hxl
    match xs, hxl with
    | [y0, y1, y2, y3], _ =>
      have k0 : DataW.trod enc Tryd.prog w 0 (fun _ => true) held n 3 ((List.drop 0 [c0, c1, c2, c3, c4, c5, c6, c7, c8, c9, c10, c11]).take (Tryd.prog.cellsOf 3)) = some y0 := hg 0 _ rfl
      have k1 : DataW.trod enc Tryd.prog w 0 (fun _ => true) held n 45 ((List.drop 1 [c0, c1, c2, c3, c4, c5, c6, c7, c8, c9, c10, c11]).take (Tryd.prog.cellsOf 45)) = some y1 := hg 1 _ rfl
      have k2 : DataW.trod enc Tryd.prog w 0 (fun _ => true) held n 3 ((List.drop 10 [c0, c1, c2, c3, c4, c5, c6, c7, c8, c9, c10, c11]).take (Tryd.prog.cellsOf 3)) = some y2 := hg 2 _ rfl
      have k3 : DataW.trod enc Tryd.prog w 0 (fun _ => true) held n 4 ((List.drop 11 [c0, c1, c2, c3, c4, c5, c6, c7, c8, c9, c10, c11]).take (Tryd.prog.cellsOf 4)) = some y3 := hg 3 _ rfl
      rw [Tryd.cellsInt] at k0 k2
      rw [Tryd.cellsEv] at k1
      rw [Tryd.cellsBool] at k3
      obtain ⟨a0, e0, -, w0⟩ := DataW.trod_int Tryd.underlying3 k0
      obtain ⟨ev, e1, -⟩ := ev_of_trod k1
      obtain ⟨a2, e2, -, w2⟩ := DataW.trod_int Tryd.underlying3 k2
      obtain ⟨a3, e3, -⟩ := DataW.trod_bool Tryd.underlying4 k3
      simp only [List.drop_zero, List.drop_succ_cons, List.take_succ_cons, List.take_zero, List.cons.injEq, and_true, Ev.cells] at e0 e1 e2 e3
      obtain ⟨rfl, rfl, rfl, rfl, rfl, rfl, rfl, rfl, rfl⟩ := e1
      subst e0 e2 e3
      exact ⟨⟨a0, ev, a2, a3⟩, rfl, bd_of_wf w2, bd_of_wf w0⟩
theorem out_of_trod {fuel : Nat} {cs : List Value} {y : DataW H × List MemPlace} (h : DataW.trod enc Tryd.prog w 0 (fun _ => true) held fuel 31 cs = some y) : ∃ o : OutP, cs = o.cells ∧ o.In w w.heap.size := by
  obtain ⟨xs, n, -, -, hlen, hxl, hg⟩ := DataW.trod_struct Tryd.underlying31 h
  rw [Tryd.cellsOut] at hlen
  match cs, hlen with
  | [c0, c1, c2], _ =>
    simp only [List.size_toArray, List.length_cons, List.length_nil] at hxl
    match xs, hxl with
    | [y0, y1, y2], _ =>
      have k0 : DataW.trod enc Tryd.prog w 0 (fun _ => true) held n 28 ((List.drop 0 [c0, c1, c2]).take (Tryd.prog.cellsOf 28)) = some y0 := hg 0 _ rfl
      have k1 : DataW.trod enc Tryd.prog w 0 (fun _ => true) held n 29 ((List.drop 1 [c0, c1, c2]).take (Tryd.prog.cellsOf 29)) = some y1 := hg 1 _ rfl
      have k2 : DataW.trod enc Tryd.prog w 0 (fun _ => true) held n 4 ((List.drop 2 [c0, c1, c2]).take (Tryd.prog.cellsOf 4)) = some y2 := hg 2 _ rfl
      rw [Tryd.cellsCmds] at k0
      rw [Tryd.cellsStrs] at k1
      rw [Tryd.cellsBool] at k2
      obtain ⟨A0, n0, d0, css0, e0, rfl, hn0, hm0, hr0, hall0⟩ := rows_of_trod Tryd.underlying28 Tryd.cellsCmd (by omega) k0
      obtain ⟨A1, n1, d1, css1, e1, rfl, hn1, hm1, hr1, hall1⟩ := rows_of_trod Tryd.underlying29 Tryd.cellsStr (by omega) k1
      obtain ⟨a2, e2, -⟩ := DataW.trod_bool Tryd.underlying4 k2
      simp only [List.drop_zero, List.drop_succ_cons, List.take_succ_cons, List.take_zero, List.cons.injEq, and_true] at e0 e1 e2
      subst e0 e1 e2
      obtain ⟨l0, rfl, -⟩ := list_of_forms (f := CmdP.cells) (p := fun _ => True) (l := css0) (fun cs hcs => by
        obtain ⟨-, fuel, y, hy⟩ := hall0 cs hcs
        obtain ⟨c, hc, -⟩ := cmd_of_trod hy
        exact ⟨c, hc, trivial⟩)
      obtain ⟨l1, rfl, -⟩ := list_of_forms (f := fun s : ByteArray => [Value.string s]) (p := fun _ => True) (l := css1) (fun cs hcs => by
        obtain ⟨-, fuel, y, hy⟩ := hall1 cs hcs
        obtain ⟨s, hs, -⟩ := DataW.trod_string Tryd.underlying9 hy
        exact ⟨s, hs, trivial⟩)
      refine ⟨⟨A0, d0, l0, A1, d1, l1, a2⟩, by simp [OutP.cells], by rw [List.flatMap_def]; exact hr0, ?_⟩
      rw [flat_one] at hr1
      exact hr1
theorem open_outs {r : Reach} {b0 : Nat} {v : Value} {d : DataW H} {p : List MemPlace} (hv : Value.okWide Tryd.prog w r b0 22 v) (h : DataW.Trod enc Tryd.prog w 0 (fun _ => true) held 22 v d p) :
    ∃ (A : Option Addr) (c : Nat) (l : List OutP), v = .slice A l.length c ∧ (l.length ≤ c ∧ c ≤ maxLen) ∧ Rd w w.heap.size A (l.flatMap OutP.cells) ∧ ∀ o ∈ l, o.In w w.heap.size := by
  obtain ⟨A, n, c, css, rfl, rfl, hn, hm, hr, hall⟩ := open_rows Tryd.underlying22 Tryd.cellsOut (by omega) hv h
  obtain ⟨l, rfl, hin⟩ := list_of_forms (f := OutP.cells) (p := fun o => o.In w w.heap.size) (l := css) (fun cs hcs => by
    obtain ⟨-, fuel, y, hy⟩ := hall cs hcs
    exact out_of_trod hy)
  refine ⟨A, c, l, by rw [List.length_map], ⟨by rw [List.length_map] at hn; omega, hm⟩, ?_, hin⟩
  rw [List.flatMap_def]; exact hr
end
end Go.Proofs.YtnepjdpifbjiiaaDoor
