/-
  The walks beneath: TrH, Pl, MildL.
-/
import Derived.Deep.MidRow
import Derived.Test.YtibeihcpehikoaaGreatMq41
import Derived.Test.YtibeihcpehikoaaGreatMq24
import Derived.Test.YtibeihcpehikoaaGreatMq5
import Derived.Test.YtibeihcpehikoaaGreatMq32
import Derived.Test.YtibeihcpehikoaaGreatMq22
namespace Go.Proofs.YtibeihcpehikoaaGreat
open Go.RowKit Go.WideShapes Go.ChangeShapes
set_option maxRecDepth 100000
set_option linter.unusedSimpArgs false
set_option maxHeartbeats 2000000 in
theorem pages_bad (s d x y : Int) (A B : Option Addr) (c c' : Nat) (a b : List Nat) (w : World) (hok : ofB d a b = true) (ha : a.length ≤ 1000) (hb : b.length ≤ 1000) (ra : Rd w w.heap.size A (a.flatMap btC)) (rb : Rd w w.heap.size B (b.flatMap btC)) :
    Calls Tryz.prog 16 #[.agg #[.int .u32 s, .int .i64 d, .int .i64 x, .int .i64 y], .slice A a.length c, .slice B b.length c'] w fun e w' => e = .returned (.tuple #[.slice none 0 0, .int .i64 1]) ∧ Below w.heap.size w w' := by
  have HOF := Lib.hid (fun (V : World) (hV : Below w.heap.size w V) => of_bad s d x y A B c c' a b V ha hb ((ra.below hV (Nat.le_refl _)).more hV.size) ((rb.below hV (Nat.le_refl _)).more hV.size) hok)
  clear ra rb hok
  refine (callsIn_wide (n := 3)).1 ?_
  refine callsIn_of_wp_marks Tryz.func16 rfl trivial ?_ rfl
  simp only [Tryz.ntmps16, List.size_toArray, List.length_cons, List.length_nil, Nat.reduceAdd, Nat.reduceSub, Array.replicate_succ, Array.replicate_zero, List.push_toArray, List.append_toArray, List.nil_append, List.cons_append]
  refine wpIn_wide.2 ?_
  go_upto_region 1 with fail
  refine named1 (F := fun W => Code.wp _ _ _ _ W) ?_
  intro w1 k3 hb1 hz1
  have r0a := (k3).cell 0; have r0b := (k3).cell 1; have r0c := (k3).cell 2; have r0d := (k3).cell 3; have r0e := (k3).frozen 0; have r0f := (k3).frozen 1; have r0g := (k3).frozen 2; have r0h := (k3).frozen 3; have r0l := (k3).lt; simp only [List.getElem?_toArray, List.getElem?_cons_zero, List.getElem?_cons_succ] at r0a r0b r0c r0d
  clear k3
  go_wp2_with (first
    | (go_at_call 68; refine (HOF.out _ hb1).mono ?_; rintro e w2 ⟨rfl, hb2⟩; have HB2 := Lib.hid hb2; clear hb2))
  have hb9 : Below w.heap.size w (w2.alloc (.cells #[.int .u32 0, .int .i64 0, .slice none 0 0, .slice none 0 0] 133)) := bAlloc (bTrans hb1 HB2.out) _
  refine ⟨.tuple #[.slice none 0 0, .int .i64 1], by simp [results, Tryz.results16, go_sem], rfl, hb9⟩
set_option maxHeartbeats 2000000 in
theorem awake26_any (w : World) : Calls Tryz.prog 15 #[] w fun e w' => e = .returned (.bool true) ∧ Below w.heap.size w w' := by
  have hp := fun (V : World) => pages_good 0 2 0 0 none none 0 0 [] [] 2 V (by unfold U32; omega) rfl rfl (by simp) (by simp) (Rd.nil _ _ _) (Rd.nil _ _ _)
  have HP := Lib.hid hp
  clear hp
  go_enter Tryz.func15, Tryz.ntmps15
  go_upto_region 2 with (first
    | (go_at_call 16; refine (HP.out _).mono ?_; rintro e w2 ⟨A', cp, xs, rfl, hc, ho, -, hb2⟩; have HO := Lib.hid ho; have hl2 := rows_len hc; clear ho hc))
  obtain ⟨g, rfl, -, -, hlt⟩ := HO.out.formA (by rw [List.length_zipIdx, hl2]; decide)
  rw [hl2] at HO
  have hcell := HO.out.cell pgC_length (k := 1) (j := 0) (u := .int .i64 1) (by rw [List.length_zipIdx, hl2]; decide) (by simp [pgC])
  simp only [Nat.one_mul, Nat.add_zero] at hcell
  clear HO
  go_wp2
  go_ret
  exact ⟨rfl, hb2⟩
section
variable {H : Type} {enc : TypeId × Value → H} {w : World} {held : Bool} {r : Reach} {b0 : Nat} {v : Value} {d : DataW H} {p : List MemPlace}
theorem byte_kinds : kindsOf Tryz.prog 100 5 = some [.u8] := by kernel_rfl
theorem cellsByte : Tryz.prog.cellsOf 5 = 1 := by kernel_rfl
theorem cfg_kinds : kindsOf Tryz.prog 100 24 = some [.u32, .i64, .i64, .i64] := by kernel_rfl
theorem cellsCfg : Tryz.prog.cellsOf 24 = 4 := by kernel_rfl
theorem open_bytes (hv : Value.okWide Tryz.prog w r b0 25 v) (h : DataW.Trod enc Tryz.prog w 0 (fun _ => true) held 25 v d p) :
    ∃ (A : Option Addr) (c : Nat) (l : List Nat), v = .slice A l.length c ∧ (l.length ≤ c ∧ c ≤ maxLen) ∧ Rd w w.heap.size A (l.flatMap btC) ∧ ∀ q ∈ l, q < 256 := by
  obtain ⟨A, n, c, css, rfl, rfl, hn, hm, hr, hall⟩ := open_rows Tryz.underlying25 cellsByte (by omega) hv h
  obtain ⟨l, rfl, hfit⟩ := list_of_forms (f := btC) (p := fun q => q < 256) (l := css) (fun cs hcs => by
    obtain ⟨-, fuel, y, hy⟩ := hall cs hcs
    obtain ⟨X, e1, e2, e3⟩ := trod_ints 100 5 _ byte_kinds (by rw [cellsByte]; rfl) fuel _ _ hy
    match X, e2 with
    | [a], _ =>
      have ha := bounds_u8 (e3 0 .u8 a rfl rfl)
      refine ⟨a.toNat, ?_, by omega⟩
      rw [e1]
      unfold btC ivals
      simp only [List.zipWith_cons_cons, List.zipWith_nil_left]
      rw [Int.toNat_of_nonneg ha.1])
  refine ⟨A, c, l, by rw [List.length_map], ⟨by rw [List.length_map] at hn; omega, hm⟩, ?_, hfit⟩
  rw [List.flatMap_def]; exact hr
theorem open_cfg (hv : Value.okWide Tryz.prog w r b0 24 v) (h : DataW.Trod enc Tryz.prog w 0 (fun _ => true) held 24 v d p) : ∃ s d' x y : Int, v = .agg #[.int .u32 s, .int .i64 d', .int .i64 x, .int .i64 y] ∧ U32 s ∧ I64 d' := by
  obtain ⟨cs, rfl, -⟩ := okWide_struct Tryz.underlying24 hv
  obtain ⟨fuel, hf⟩ := h
  obtain ⟨X, e1, e2, e3⟩ := trod_ints 100 24 _ cfg_kinds (by rw [cellsCfg]; rfl) fuel _ _ hf
  match X, e2 with
  | [a, b, c, e], _ =>
    refine ⟨a, b, c, e, ?_, bounds_u32 (e3 0 .u32 a rfl rfl), bounds_i64 (e3 1 .i64 b rfl rfl)⟩
    have : cs = #[.int .u32 a, .int .i64 b, .int .i64 c, .int .i64 e] := by
      apply Array.ext'
      rw [show (Value.agg cs).cells.toList = cs.toList from rfl] at e1
      rw [e1]
      rfl
    rw [this]
end
end Go.Proofs.YtibeihcpehikoaaGreat

namespace Go.Proofs.YtibeihcpehikoaaGreat
open Go.RowKit
set_option maxRecDepth 100000
set_option linter.unusedSimpArgs false
theorem st_setRange {w : World} {g : Nat} {S : Nat → Int} (h : Blk w g 41 (stCells S).toArray) (o : Nat) (vs : List Value) (T : Nat → Int) (_hb : o + vs.length ≤ 60) (hin : ∀ j, j < vs.length → vs[j]? = some (.int (kdS (o + j)) (T (o + j)))) (hout : ∀ j, (j < o ∨ o + vs.length ≤ j) → T j = S j) :
    Blk (w.setCells g o vs) g 41 (stCells T).toArray := by
  have := h.setCells vs o
  have e : putAt (stCells S).toArray o vs = (stCells T).toArray := by
    apply Array.ext_getElem?
    intro j
    rw [putAt_get]
    simp only [List.getElem?_toArray, List.size_toArray, stCells_length]
    by_cases hj : o ≤ j ∧ j < o + vs.length ∧ j < 60
    · rw [if_pos hj, hin (j - o) (by omega)]
      simp [stCells, rowOf, show j < 60 by omega, show o + (j - o) = j by omega]
    · rw [if_neg hj]
      by_cases hj6 : j < 60
      · simp only [stCells, rowOf, List.getElem?_map, List.getElem?_range hj6, Option.map_some]
        rw [hout j (by omega)]
      · rw [List.getElem?_eq_none (by rw [stCells_length]; omega), List.getElem?_eq_none (by rw [stCells_length]; omega)]
  rw [← e]; exact this
theorem st_set {w : World} {g : Nat} {S : Nat → Int} (h : Blk w g 41 (stCells S).toArray) (i : Nat) (hi : i < 60) {k : IntKind} (hk : kdS i = k) (v : Int) : Blk (w.setCell ⟨g, i, none⟩ (.int k v)) g 41 (stCells (upd S i v)).toArray := by
  refine st_setRange h i [.int k v] _ (by show i + 1 ≤ 60; omega) (fun j hj => ?_) (fun j hj => ?_)
  · have : j = 0 := by simpa using hj
    subst this
    rw [Nat.add_zero, hk, upd_same]; rfl
  · exact upd_other _ _ _ _ (by have : [Value.int k v].length = 1 := rfl; omega)
theorem pl_range {w : World} {g : Nat} {S : Nat → Int} (h : Blk w g 41 (stCells S).toArray) {i : Nat} (hi : i < 2) : w.rangeAt g (4 + i * 10) (plCells (getP S i)) := fun j v hv => by
  have hj : j < 10 := by have := (List.getElem?_eq_some_iff.1 hv).1; rwa [plCells_length] at this
  have := st_cell h (4 + i * 10 + j) (by omega)
  rw [this, kdS_p i j hi hj, ← hv]
  simp [plCells, rowOf, hj, getP]
theorem pl_put {w : World} {g : Nat} {S : Nat → Int} (h : Blk w g 41 (stCells S).toArray) {i : Nat} (hi : i < 2) (p : Nat → Int) : Blk (w.setCells g (4 + i * 10) (plCells p)) g 41 (stCells (putP S i p)).toArray := by
  refine st_setRange h (4 + i * 10) (plCells p) _ (by rw [plCells_length]; omega) (fun j hj => ?_) (fun j hj => ?_)
  · rw [plCells_length] at hj
    rw [putP_at S i p j hj, kdS_p i j hi hj]
    simp [plCells, rowOf, hj]
  · rw [plCells_length] at hj
    exact putP_other S i p j hj
theorem pl_one (p : Nat → Int) : ∀ v ∈ plCells p, v.oneCell' = true := fun v hv => by
  unfold plCells rowOf at hv
  obtain ⟨j, -, rfl⟩ := List.mem_map.1 hv
  rfl
theorem pl_set (p : Nat → Int) (j : Nat) (hj : j < 10) {k : IntKind} (hk : kdP j = k) (v : Int) : ((plCells p).toArray).setIfInBounds j (.int k v) = (plCells (upd p j v)).toArray := by
  apply Array.ext'
  simp only [Array.toList_setIfInBounds]
  unfold plCells
  rw [rowOf_set]
  refine rowOf_congr fun m _ => ?_
  unfold upd
  by_cases hm : m = j
  · subst hm; rw [if_pos rfl, if_pos rfl, hk]
  · rw [if_neg hm, if_neg hm]
section
variable {P : Program} {fn : Func} {tmps : Array Value} {w : World} {a x : Tmp} {t : TypeId} {p : Addr} {v : Value}
theorem results_c1 (hr : fn.results = #[.cell a t, .tmp x]) (ha : tmps.getD a undef = .pointer (some p)) (hl : (loadVar t p).run P w = .ok v w) :
    (results fn tmps).run P w = .ok (.tuple #[v, tmps.getD x undef]) w := by
  unfold results
  rw [hr]
  simp only [List.mapM_toArray, List.mapM_cons, List.mapM_nil, ha, asAddr]
  simp [hl]
end
end Go.Proofs.YtibeihcpehikoaaGreat

namespace Go.Proofs.YtibeihcpehikoaaGreat
open Go.RowKit
set_option maxRecDepth 100000
section
variable {P : Program} {ops : Array Oper} {w : World} {Q : Act → Prop} {a : Act} {o : Oper} {rest : List Oper}
theorem wpQuiet_load_mild (hw : Region.wanted o (yielded ops a.tmps) = true) (ty : TypeId) (x : Operand) (ho : o.op = .load ty x)
    (b i : Nat) (hx : a.eval x = .pointer (some ⟨b, i, none⟩)) (cs : List Value) (d : TypeDesc) (hb : b < w.heap.size) (hc : w.rangeAt b i cs)
    (hu : P.underlying ty = some d) (hd : d.isRow = true) (hi : (P.info? ty).map (·.size) = some cs.length)
    (h : wpQuiet P ops (fun w' => ∃ x : Ext w, w' = x.world) Q rest (a.put o.dst (.agg cs.toArray))) : wpQuiet P ops (fun w' => ∃ x : Ext w, w' = x.world) Q (o :: rest) a := by
  refine wpQuiet_step fun K hK => ?_
  rw [if_pos hw]
  refine ⟨.agg cs.toArray, ?_, hK _ h⟩
  rintro W ⟨X, rfl⟩
  have hc' : X.world.rangeAt b i cs := fun j v hv => (Below.cell (p := ⟨b, i + j, none⟩) X.below hb).trans (hc j v hv)
  unfold Oper.quietAt execOp
  simp only [ho, hx, Instr.loadAt, Instr.sureAddr, Sem.run_bind, Sem.run_pure, Result.andThen_ok, run_loadVar_mid X.world b i ty cs d hc' hu hd hi]
  exact ⟨rfl, rfl⟩
/-- A value known in whatever world. -/
theorem wpQuiet_runs_mild (v : Value) (hw : Region.wanted o (yielded ops a.tmps) = true) (hr : ∀ W, RunsTo P o a W v)
    (h : wpQuiet P ops (fun w' => ∃ x : Ext w, w' = x.world) Q rest (a.put o.dst v)) : wpQuiet P ops (fun w' => ∃ x : Ext w, w' = x.world) Q (o :: rest) a := by
  refine wpQuiet_step fun K hK => ?_
  rw [if_pos hw]
  refine ⟨v, ?_, hK _ h⟩
  rintro W -
  unfold Oper.quietAt
  have := hr W
  unfold RunsTo at this
  rw [this]
  exact ⟨rfl, rfl⟩
end
end Go.Proofs.YtibeihcpehikoaaGreat
