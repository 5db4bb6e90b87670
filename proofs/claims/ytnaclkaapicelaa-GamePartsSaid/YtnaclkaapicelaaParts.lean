/-
  GameParts: the law's walk.
-/
import Derived.Test.YtnaclkaapicelaaRun
import Derived.Test.YtnaclkaapicelaaAppAny
import Derived.Test.YtnaclkaapicelaaOpenSt
import Derived.Outline
import Derived.Deep.DeepHandedRow
import Derived.Lib.LaidTab
import Derived.SevenTiedAt
namespace Go.Proofs.Ytnaclkaapicelaa
open Go.RowKit
set_option maxRecDepth 100000
set_option linter.unusedSimpArgs false
theorem runR_cons (T : Nat → Int) (L : List Ev) (q : Nat × Nat) (r : List (Nat × Nat)) : runR T L (q :: r) = if stepE T q.1 q.2 = 0 then runR (stepS q.1 q.2 T).1 (L ++ (stepS q.1 q.2 T).2) r else (zeroT, [], stepE T q.1 q.2) := rfl
theorem runR_app (l k : List (Nat × Nat)) : ∀ (T : Nat → Int) (L : List Ev), runR T L (l ++ k) = if (runR T L l).2.2 = 0 then runR (runR T L l).1 (runR T L l).2.1 k else runR T L l := by
  induction l with
  | nil => intro T L; simp [runR]
  | cons q r ih =>
    intro T L
    rw [List.cons_append, runR_cons, runR_cons]
    by_cases h : stepE T q.1 q.2 = 0
    · rw [if_pos h, if_pos h, ih]
    · rw [if_neg h, if_neg h]
      simp only [h, if_false]
theorem runR_pre (l : List (Nat × Nat)) : ∀ (T : Nat → Int) (L M : List Ev), runR T (L ++ M) l = if (runR T M l).2.2 = 0 then ((runR T M l).1, L ++ (runR T M l).2.1, 0) else runR T M l := by
  induction l with
  | nil => intro T L M; simp [runR]
  | cons q r ih =>
    intro T L M
    rw [runR_cons, runR_cons]
    by_cases h : stepE T q.1 q.2 = 0
    · rw [if_pos h, if_pos h, List.append_assoc, ih]
    · rw [if_neg h, if_neg h]
      simp only [h, if_false]
theorem runR_err (l : List (Nat × Nat)) : ∀ (T : Nat → Int) (L : List Ev), (runR T L l).2.2 ≠ 0 → (runR T L l).1 = zeroT := by
  induction l with
  | nil => intro T L h; simp [runR] at h
  | cons q r ih =>
    intro T L h
    rw [runR_cons] at h ⊢
    by_cases hs : stepE T q.1 q.2 = 0
    · rw [if_pos hs] at h ⊢; exact ih _ _ h
    · rw [if_neg hs]
theorem runR_ok (l : List (Nat × Nat)) (b : Nat) : ∀ (T : Nat → Int) (L : List Ev), StOk T → T 0 + (l.length + b : Nat) < 1073741824 → T 2 + (l.length + b : Nat) < 1073741824 → (runR T L l).2.2 = 0 → StOk (runR T L l).1 ∧ (runR T L l).1 0 + b < 1073741824 ∧ (runR T L l).1 2 + b < 1073741824 ∧ (runR T L l).2.1.length ≤ L.length + 22 * l.length := by
  induction l with
  | nil => intro T L h h0 h2 _; simp [runR] at *; exact ⟨h, h0, h2⟩
  | cons q r ih =>
    intro T L h h0 h2 he
    rw [runR_cons] at he ⊢
    simp only [List.length_cons] at h0 h2 ⊢
    by_cases hs : stepE T q.1 q.2 = 0
    · rw [if_pos hs] at he ⊢
      obtain ⟨k1, k2, k3, k4, k5⟩ := stepS_ok q.1 q.2 h (by omega) (by omega)
      obtain ⟨g1, g2, g3, g4⟩ := ih (stepS q.1 q.2 T).1 (L ++ (stepS q.1 q.2 T).2) k1 (by omega) (by omega) he
      exact ⟨g1, g2, g3, by rw [List.length_append] at g4; omega⟩
    · rw [if_neg hs] at he
      exact absurd he hs
theorem zero_bad : rightS zeroT = false := by decide +kernel
theorem runR_goes {T : Nat → Int} (l : List (Nat × Nat)) (b : Nat) (h : StOk T) (h0 : T 0 + (l.length + b : Nat) < 1073741824) (h2 : T 2 + (l.length + b : Nat) < 1073741824) : Goes (runR T [] l).1 b := by
  by_cases he : (runR T [] l).2.2 = 0
  · obtain ⟨g1, g2, g3, -⟩ := runR_ok l b T [] h h0 h2 he
    exact .inl ⟨g1, g2, g3⟩
  · right; rw [runR_err l T [] he]; exact zero_bad
/-- What the law holds against what it holds. -/
theorem parts_plain {T : Nat → Int} (l k : List (Nat × Nat)) (he : (runR T [] (l ++ k)).2.2 = 0) : (runR T [] l).2.2 = 0 ∧ (runR (runR T [] l).1 [] k).2.2 = 0 ∧ (runR (runR T [] l).1 [] k).1 = (runR T [] (l ++ k)).1 ∧ (runR T [] l).2.1 ++ (runR (runR T [] l).1 [] k).2.1 = (runR T [] (l ++ k)).2.1 := by
  rw [runR_app] at he ⊢
  by_cases h1 : (runR T [] l).2.2 = 0
  · rw [if_pos h1] at he ⊢
    have hp := runR_pre k (runR T [] l).1 (runR T [] l).2.1 []
    rw [List.append_nil] at hp
    rw [hp] at he ⊢
    by_cases h2 : (runR (runR T [] l).1 [] k).2.2 = 0
    · rw [if_pos h2]; exact ⟨h1, h2, rfl, rfl⟩
    · rw [if_neg h2] at he; exact absurd he h2
  · rw [if_neg h1] at he; exact absurd he h1
theorem parts_not {T : Nat → Int} (l k : List (Nat × Nat)) (he : (runR T [] (l ++ k)).2.2 ≠ 0) : (runR T [] l).2.2 ≠ 0 ∨ (runR (runR T [] l).1 [] k).2.2 ≠ 0 := by
  by_cases h1 : (runR T [] l).2.2 = 0
  · right
    rw [runR_app, if_pos h1] at he
    have hp := runR_pre k (runR T [] l).1 (runR T [] l).2.1 []
    rw [List.append_nil] at hp
    rw [hp] at he
    intro h2
    rw [if_pos h2] at he
    exact he rfl
  · exact .inl h1
theorem Rd.take {α : Type} {f : α → List Value} {w : World} {B : Nat} {A : Option Addr} {l : List α} (h : Rd w B A (l.flatMap f)) (k : Nat) : Rd w B A ((l.take k).flatMap f) := fun hne => by
  have hs : l.flatMap f = (l.take k).flatMap f ++ (l.drop k).flatMap f := by rw [← List.flatMap_append, List.take_append_drop]
  obtain ⟨b, off, e, hb, hc⟩ := h (fun h0 => hne (by rw [h0] at hs; exact (List.append_eq_nil_iff.1 hs.symm).1))
  refine ⟨b, off, e, hb, fun j u hu => hc j u ?_⟩
  rw [hs, List.getElem?_append_left (List.getElem?_eq_some_iff.1 hu).1]
  exact hu
theorem k_of (at_ : Int) (n : Nat) (hn : n ≤ 200) : ∃ K : Nat, K ≤ n ∧ wrap64 ((IntKind.u64.wrap at_).tmod ((n : Int) + 1)) = (K : Int) := by
  have h0 : 0 ≤ IntKind.u64.wrap at_ := by
    have e : IntKind.u64.wrap at_ = at_ % 18446744073709551616 := rfl
    rw [e]; omega
  have h1 : (IntKind.u64.wrap at_).tmod ((n : Int) + 1) = IntKind.u64.wrap at_ % ((n : Int) + 1) := Int.tmod_eq_emod_of_nonneg h0
  rw [h1]
  have h2 := Int.emod_nonneg (IntKind.u64.wrap at_) (show (n : Int) + 1 ≠ 0 by omega)
  have h3 := Int.emod_lt_of_pos (IntKind.u64.wrap at_) (show 0 < (n : Int) + 1 by omega)
  obtain ⟨r, hr⟩ : ∃ r, IntKind.u64.wrap at_ % ((n : Int) + 1) = r := ⟨_, rfl⟩
  rw [hr] at h2 h3 ⊢
  refine ⟨r.toNat, by omega, ?_⟩
  rw [IntWalk.wrap64_in r (by omega)]
  omega
/-- A state is itself. -/
theorem st_eql (T : Nat → Int) (w : World) : (binOp .eql 33 (.agg (stCells T).toArray) (.agg (stCells T).toArray)).run Try.prog w = .ok (.bool true) w := by
  have hX : (rowOf 60 T).length = (rowOf 60 kdS).length := by rw [rowOf_length, rowOf_length]
  have e : stCells T = ivals (rowOf 60 kdS) (rowOf 60 T) := by
    rw [ivals_row _ _ _ (rowOf_length _ _)]
    unfold stCells rowOf
    refine List.map_congr_left fun i hi => ?_
    have : i < 60 := by simpa using hi
    simp [List.getD_eq_getElem?_getD, this]
  have := eql_ints st_kinds (fun cs => by unfold valOf; rw [Try.underlying33]) (rowOf 60 T) (rowOf 60 T) hX hX e e w
  simpa using this
/-- A value that a callee yields in every world, told ahead. -/
def valTold (v : Value) : Told := ⟨fun u => u = v, fun _ _ => True⟩
theorem valTold_st {v : Value} : ∀ u W U, (valTold v).R u W → Grown W U → (valTold v).R u U := fun _ _ _ _ _ => trivial
theorem valTold_of {f : FuncId} {args : Array Value} {v : Value} {W : World} (h : Calls Try.prog f args W fun e w' => e = .returned v ∧ Below W.heap.size W w') : Calls Try.prog f args W fun e w' => ∃ u, e = .returned u ∧ ((valTold v).S u ∧ (valTold v).R u w') ∧ Grown W w' :=
  h.mono fun _ _ ⟨he, hb⟩ => ⟨v, he, ⟨rfl, trivial⟩, hb⟩
/-- What a run answers, told ahead. -/
def runTold (w : World) (T : Nat → Int) (L : List Ev) (x : Int) : Told :=
  ⟨fun v => ∃ A c, v = .tuple #[.agg (stCells T).toArray, .slice A L.length c, .int .i64 x], fun v W => ∀ A c, v = .tuple #[.agg (stCells T).toArray, .slice A L.length c, .int .i64 x] → OwnL W w.heap.size 45 9 (.slice A L.length c) Ev.cells L⟩
theorem runTold_st {w : World} {T : Nat → Int} {L : List Ev} {x : Int} : ∀ v W U, (runTold w T L x).R v W → Grown W U → (runTold w T L x).R v U := fun _ _ _ h k A c hv => (h A c hv).below k
theorem runTold_of {w W : World} {T : Nat → Int} {L : List Ev} {x : Int} {f : FuncId} {args : Array Value} (hW : Grown w W) (h : Calls Try.prog f args W fun e w' => ∃ A' c', e = .returned (.tuple #[.agg (stCells T).toArray, .slice A' L.length c', .int .i64 x]) ∧ OwnL w' W.heap.size 45 9 (.slice A' L.length c') Ev.cells L ∧ Below W.heap.size W w') :
    Calls Try.prog f args W fun e w' => ∃ u, e = .returned u ∧ ((runTold w T L x).S u ∧ (runTold w T L x).R u w') ∧ Grown W w' := by
  refine h.mono ?_
  rintro e w' ⟨A, c, rfl, ho, hb⟩
  refine ⟨_, rfl, ⟨⟨A, c, rfl⟩, fun A' c' hv => ?_⟩, hb⟩
  simp only [Value.tuple.injEq, Array.mk.injEq, List.cons.injEq, Value.slice.injEq, true_and, and_true] at hv
  obtain ⟨rfl, rfl⟩ := hv
  exact ho.more (Below.size hW)
/-- 'append(s, x...)' under a guard that is decided. -/
theorem wpList_append_rdG {P : Program} {w : World} {ops : Array Oper} {rest : List Oper} {o : Oper} {a : Act} {Q : Exit → Act → World → Prop} (hw : Region.wanted o (yielded ops a.tmps) = true) (s x : Operand) (t : TypeId)
    (ho : o.op = .call { callee := .builtin .append, args := #[s, x], argTypes := #[t, t] })
    (base : Nat) (e : TypeId) (i : TypeInfo) (z : Value) (size bytes : Nat) (ht : P.underlying t = some (.slice e)) (hi : P.info? e = some i) (hz : i.zero = some z)
    (hsize : i.size = size) (hby : i.bytes = bytes) (hzs : z.cells.size = size) (hsz : 0 < size)
    (v : Value) (n : Nat) (xs : List Value) (hs : a.eval s = v) (hown : w.ownsRow base e size v n xs)
    (B : Nat) (A : Option Addr) (m c : Nat) (news : List Value) (hx : a.eval x = .slice A m c) (hl : news.length = m * size) (hr : Rd w B A news) (hA : A = none → m = 0) (h1 : ∀ u ∈ news, u.oneCell' = true)
    (h63 : n + m ≤ maxLen) (hbytes : (n + m) * bytes ≤ 140737488355328) (hbase : base ≤ w.heap.size)
    (h : ∀ v' w', w'.ownsRow base e size v' (n + m) (xs ++ news) → w.grownBy w' v.ownBlock → (v'.ownBlock = v.ownBlock ∨ v'.ownBlock = some w.heap.size) → wpList P ops Q rest (a.put o.dst v') w') : wpList P ops Q (o :: rest) a w :=
  wpList_want hw fun _ hK => by
    obtain ⟨v', w', hrun, h2, h3, h4⟩ := append_rd_run (P := P) w base t o.type e i z size bytes ht hi hz hsize hby hzs hsz v n xs hown B A m c news hl hr hA h1 h63 hbytes hbase
    unfold Oper.wp execOp
    simp only [ho, resolve, invoke, builtin, Sem.run_bind, Sem.run_pure, Result.andThen_ok, List.map_toArray, List.map_cons, List.map_nil, hs, hx, hrun]
    exact hK _ _ (h v' w' h2 h3 h4)
section
variable {A : Option Addr} {c : Nat} {l : List (Nat × Nat)} {seed at_ : Int} {w : World}
set_option maxHeartbeats 4000000 in
theorem parts_1 (hn : 200 < l.length) : Calls Try.prog 4 #[.int .u32 seed, .slice A l.length c, .int .i64 at_] w fun e w' => e = .returned (.bool true) ∧ Below w.heap.size w w' := by
  obtain ⟨n, hl⟩ : ∃ n, l.length = n := ⟨_, rfl⟩
  rw [hl] at hn ⊢
  have g1 : decide ((200 : Int) < (n : Int)) = true := decide_eq_true (by omega)
  clear hl
  go_enter Try.func4, Try.ntmps4
  go_wp2_with (first | (go_at_call 9; refine (awake12_any _).mono ?_; rintro e w2 ⟨rfl, hb2⟩))
  go_ret
  exact ⟨rfl, hb2⟩
set_option maxHeartbeats 8000000 in
theorem parts_2 (hn : ¬ 200 < l.length) (hcap : l.length ≤ c) (hs : U32 seed) (hat : I64 at_) (hrd : Rd w w.heap.size A (l.flatMap pbCells)) (hb : ∀ q ∈ l, q.1 < 256 ∧ q.2 < 256) : Calls Try.prog 4 #[.int .u32 seed, .slice A l.length c, .int .i64 at_] w fun e w' => e = .returned (.bool true) ∧ Below w.heap.size w w' := by
  obtain ⟨n, hl⟩ : ∃ n, l.length = n := ⟨_, rfl⟩
  rw [hl] at hn hcap ⊢
  have g1 : decide ((200 : Int) < (n : Int)) = false := decide_eq_false (by omega)
  have hn200 : n ≤ 200 := by omega
  obtain ⟨a1, a2⟩ := hat
  go_enter Try.func4, Try.ntmps4
  go_upto_region 6 with (first | (go_at_call 9; refine (awake12_any _).mono ?_; rintro e w2 ⟨rfl, hb2⟩))
  obtain ⟨K, hK, hKe⟩ := k_of at_ n hn200
  rw [hKe]
  clear hKe
  obtain ⟨TA, LA, eA, hA⟩ : ∃ T L e, runR (beginS seed) [] l = (T, L, e) := ⟨_, _, _, rfl⟩
  obtain ⟨TB, LB, eB, hB⟩ : ∃ T L e, runR (beginS seed) [] (l.take K) = (T, L, e) := ⟨_, _, _, rfl⟩
  obtain ⟨TC, LC, eC, hC⟩ : ∃ T L e, runR TB [] (l.drop K) = (T, L, e) := ⟨_, _, _, rfl⟩
  have hok := begin_ok hs
  have hlk : (l.take K).length = K := by rw [List.length_take]; omega
  have hld : (l.drop K).length = n - K := by rw [List.length_drop]; omega
  have hz0 : beginS seed 0 = 0 := rfl
  have hz2 : beginS seed 2 = 0 := rfl
  have hgB : Goes TB (n - K) := by
    have := runR_goes (T := beginS seed) (l.take K) (n - K) hok (by rw [hz0, hlk]; omega) (by rw [hz2, hlk]; omega)
    rw [hB] at this; exact this
  have hrun1 := fun (W : World) (hr : Rd W W.heap.size A (l.flatMap pbCells)) => run_any (beginS seed) A c l W (.inl ⟨hok, by rw [hz0]; omega, by rw [hz2]; omega⟩) (by omega) hr hb
  simp only [hA, hl] at hrun1
  have hrun2 := fun (W : World) (hr : Rd W W.heap.size A ((l.take K).flatMap pbCells)) => run_any (beginS seed) A c (l.take K) W (.inl ⟨hok, by rw [hz0, hlk]; omega, by rw [hz2, hlk]; omega⟩) (by omega) hr (fun q hq => hb q (List.mem_of_mem_take hq))
  simp only [hB, hlk] at hrun2
  have hrun3 := fun (A' : Option Addr) (c' : Nat) (W : World) (hr : Rd W W.heap.size A' ((l.drop K).flatMap pbCells)) => run_any TB A' c' (l.drop K) W (by rw [hld]; exact hgB) (by omega) hr (fun q hq => hb q (List.mem_of_mem_drop hq))
  simp only [hC, hld] at hrun3
  have htd : runR (beginS seed) [] (l.take K ++ l.drop K) = (TA, LA, eA) := by rw [List.take_append_drop]; exact hA
  have HYES : Hid (eA = 0 → eB = 0 ∧ eC = 0 ∧ TC = TA ∧ LB ++ LC = LA) := Lib.hid (fun h => by
    have := parts_plain (T := beginS seed) (l.take K) (l.drop K) (by rw [htd]; exact h)
    rw [htd, hB] at this
    simp only [hC] at this
    exact this)
  have HNO : Hid (eA ≠ 0 → eB ≠ 0 ∨ eC ≠ 0) := Lib.hid (fun h => by
    have := parts_not (T := beginS seed) (l.take K) (l.drop K) (by rw [htd]; exact h)
    rw [hB] at this
    simp only [hC] at this
    exact this)
  have HLB : Hid (eB = 0 → LB.length ≤ 4400) := Lib.hid (fun h => by
    have := (runR_ok (l.take K) 0 (beginS seed) [] hok (by rw [hz0, hlk]; omega) (by rw [hz2, hlk]; omega) (by rw [hB]; exact h)).2.2.2
    rw [hB, hlk] at this
    simp at this; omega)
  have HLA : Hid (eA = 0 → LA.length ≤ 4400) := Lib.hid (fun h => by
    have := (runR_ok l 0 (beginS seed) [] hok (by rw [hz0, hl]; omega) (by rw [hz2, hl]; omega) (by rw [hA]; exact h)).2.2.2
    rw [hA, hl] at this
    simp at this; omega)
  have H1 := Lib.hid hrun1
  have H2 := Lib.hid hrun2
  have H3 := Lib.hid hrun3
  have HRD := Lib.hid hrd
  have HB2 := Lib.hid hb2
  have HL := Lib.hid hl
  clear hrun1 hrun2 hrun3 htd hA hB hC hok hlk hld hz0 hz2 hgB hrd hb hs hb2 hl
  obtain ⟨CA, hca⟩ : ∃ CA : Array Value, (stCells TA).toArray = CA := ⟨_, rfl⟩
  rw [hca] at H1
  have hsz : CA.size = 60 := by rw [← hca, List.size_toArray, stCells_length]
  have H1C : Hid (CA.all (·.oneCell') = true) := Lib.hid (by rw [← hca]; exact all_oneCell_toArray (int_one _))
  have HSZ : Hid ((Try.prog.info? 33).map (·.size) = some CA.size) := Lib.hid (by rw [hsz]; kernel_rfl)
  have HSI := Lib.hid hsz
  have HCA := Lib.hid hca
  clear hca hsz
  go_upto_region 7 with (first
    | (go_at_call 13; refine (gBegin_any seed _).mono ?_; rintro e w3 ⟨rfl, hb3⟩)
    | (go_at_call 12; refine (H1.out _ (HRD.out.below (bTrans HB2.out hb3) (Nat.le_refl _) |>.more (Below.size (bTrans HB2.out hb3)))).mono ?_; rintro e w4 ⟨A4, c4, rfl, ho, hb4⟩; have HO4 := Lib.hid ho; have HB4 := Lib.hid (bTrans (bTrans HB2.out hb3) hb4); clear ho hb4)
    | (refine wpList_store_mid rfl 33 (.tmp 8) (.tmp 35) rfl w4.heap.size 0 CA rfl rfl (there_new _ _ _ (by rw [HSI.out]; rfl)) HSZ.out H1C.out ?_))
  refine named_put (F := fun W => Code.wp _ _ _ _ W) (by rw [Array.length_toList, HSI.out]; rfl) ?_
  intro w5 hk5 hb5 hz5
  rw [Array.toArray_toList, ← HCA.out] at hk5
  have HK5 := Lib.hid hk5
  have HO5 := Lib.hid (HO4.out.below hb5)
  have HB5 := Lib.hid (bTrans HB4.out hb5)
  have hl5 := hk5.lt
  clear hk5 hb5 hz5 HO4 HB4 H1
  have hKp := Keeps.base w5
  refine wp_region_mixed [.pure, .make, .pure, .pure, .pure, .make, .pure, .pure, .pure, .pure, .make, .tail, .pure, .pure] (fun | 1 => valTold (.agg (stCells (beginS seed)).toArray) | 5 => runTold w5 TB LB eB | _ => newTold w5 33 (stCells zeroT).toArray) (by kernel_rfl) (by kernel_rfl) ?_
  repeat (first | (refine mix_pure rfl rfl rfl (fun K hK => ?_); go_big_quiet_op; refine hK _ ?_; clear hK K) | (refine mix_held rfl rfl rfl (by assumption) (fun K hK => ?_); go_big_quiet_op; refine hK _ ?_; clear hK K))
  refine mix_make rfl rfl (by assumption) valTold_st (fun W hW => ?_) ?_
  · have HS2 := Lib.hid (valTold_of (gBegin_any seed W))
    go_simp
    exact HS2.out
  rintro v hv hKp2
  have hv : v = .agg (stCells (beginS seed)).toArray := hv
  subst hv
  simp only [Act.put, List.setIfInBounds_toArray, List.set_cons_zero, List.set_cons_succ]
  repeat (first | (refine mix_pure rfl rfl rfl (fun K hK => ?_); go_big_quiet_op; refine hK _ ?_; clear hK K) | (refine mix_held rfl rfl rfl (by assumption) (fun K hK => ?_); go_big_quiet_op; refine hK _ ?_; clear hK K))
  refine mix_make rfl rfl (by assumption) runTold_st (fun W hW => ?_) ?_
  · have HS2 := Lib.hid (runTold_of hW (H2.out W ((HRD.out.take K).below (HB5.out.trans (Below.mono hW (Below.size HB5.out))) (Nat.le_refl _) |>.more (Nat.le_trans (Below.size HB5.out) (Below.size hW)))))
    go_simp
    exact HS2.out
  rintro v ⟨A6, c6, rfl⟩ hKp3
  simp only [Act.put, List.setIfInBounds_toArray, List.set_cons_zero, List.set_cons_succ]
  repeat (first | (refine mix_pure rfl rfl rfl (fun K hK => ?_); go_big_quiet_op; refine hK _ ?_; clear hK K) | (refine mix_held rfl rfl rfl (by assumption) (fun K hK => ?_); go_big_quiet_op; refine hK _ ?_; clear hK K))
  refine mix_make rfl rfl (by assumption) newTold_st (newTold_makes rfl zero_state rfl) ?_
  rintro v ⟨g, rfl⟩ hKp4
  simp only [Act.put, List.setIfInBounds_toArray, List.set_cons_zero, List.set_cons_succ]
  refine mix_store rfl rfl 33 (.tmp 11) (.tmp 45) rfl g 0 (stCells TB).toArray rfl rfl (fun W hW => ?_) (by kernel_rfl) (all_oneCell_toArray (int_one TB)) ?_
  · have := (hW.2 g rfl).2
    exact Blk.there this (by rw [List.size_toArray, List.size_toArray, stCells_length, stCells_length]; decide)
  simp only [Act.put, List.setIfInBounds_toArray, List.set_cons_zero, List.set_cons_succ]
  repeat (first | (refine mix_pure rfl rfl rfl (fun K hK => ?_); go_big_quiet_op; refine hK _ ?_; clear hK K) | (refine mix_held rfl rfl rfl (by assumption) (fun K hK => ?_); go_big_quiet_op; refine hK _ ?_; clear hK K))
  refine mix_nil ?_
  rintro W' ⟨W, ⟨⟨⟨hg, -⟩, hR1⟩, hR2⟩, rfl⟩
  obtain ⟨hge, hBg⟩ := hR2 g rfl
  have ho := hR1 A6 c6 rfl
  have hsz : (stCells TB).toArray.toList.length = (stCells zeroT).toArray.size := by rw [List.size_toArray, stCells_length]; exact stCells_length TB
  have hBg' := hBg.whole (stCells TB).toArray.toList hsz
  have ho' := OwnL.kept (row := some g) ho (oSetCells (World.grownBy.refl W g) 0 (stCells TB).toArray.toList) (.inr (Blk.apart hBg ho (by decide)))
  have hoA' := OwnL.kept (row := some g) (HO5.out.below hg) (oSetCells (World.grownBy.refl W g) 0 (stCells TB).toArray.toList) (.inr (Blk.apart hBg (HO5.out.below hg) (by decide)))
  have hB0 := (HK5.out.on hg).farC (show w4.heap.size ≠ g by omega) 0 (stCells TB).toArray.toList
  have hbw6 := bSetCells (HB5.out.trans (Below.mono hg (Below.size HB5.out))) (Nat.le_trans (Below.size HB5.out) hge) 0 (stCells TB).toArray.toList
  have hx6 := Below.size (bSetCells hg hge 0 (stCells TB).toArray.toList)
  obtain ⟨w6, hW6⟩ : ∃ w6, W.setCells g 0 (stCells TB).toArray.toList = w6 := ⟨_, rfl⟩
  rw [hW6] at hBg' ho' hoA' hB0 hbw6 hx6 ⊢
  rw [Array.toArray_toList] at hBg'
  have HG6 := Lib.hid hBg'
  have HO6 := Lib.hid ho'
  have HA6 := Lib.hid hoA'
  have HS6 := Lib.hid hB0
  have HB6 := Lib.hid hbw6
  have HX6 := Lib.hid hx6
  clear hW6 hBg ho hoA' hsz hBg' ho' hB0 hbw6 hR1 hR2 hg hKp hKp2 hKp3 hKp4 hl5
  have hgl := HG6.out.lt
  have hsl := HS6.out.lt
  go_upto_region 8 with fail
  have hKp := Keeps.base w6
  refine wp_region_mixed [.held, .pure, .pure, .pure, .make, .pure, .pure, .pure, .pure, .make, .tail, .pure, .pure] (fun | 4 => runTold w6 TC LC eC | _ => newTold w6 33 (stCells zeroT).toArray) (by kernel_rfl) (by kernel_rfl) ?_
  refine mix_load rfl rfl (by assumption) 33 (.tmp 11) rfl g 0 rfl (stCells TB) _ hgl (Blk.range HG6.out) Try.underlying33 rfl (by kernel_rfl) ?_
  simp only [Act.put, List.setIfInBounds_toArray, List.set_cons_zero, List.set_cons_succ]
  repeat (first | (refine mix_pure rfl rfl rfl (fun K hK => ?_); go_big_quiet_op; refine hK _ ?_; clear hK K) | (refine mix_held rfl rfl rfl (by assumption) (fun K hK => ?_); go_big_quiet_op; refine hK _ ?_; clear hK K))
  refine mix_make rfl rfl (by assumption) runTold_st (fun W hW => ?_) ?_
  · go_simp
    refine runTold_of hW (H3.out _ _ W ?_)
    have hr : Rd W W.heap.size A (l.flatMap pbCells) := (HRD.out.below (HB6.out.trans (Below.mono hW (Below.size HB6.out))) (Nat.le_refl _)).more (Nat.le_trans (Below.size HB6.out) (Below.size hW))
    by_cases hcK : c = K
    · rw [if_pos hcK, List.drop_of_length_le (by rw [HL.out]; omega)]
      exact Rd.nil _ _ _
    · rw [if_neg hcK]
      exact hr.tail (m := 2) (fun _ => rfl) (k := K) (by rw [HL.out]; exact hK)
  rintro v ⟨A8, c8, rfl⟩ hKp2
  simp only [Act.put, List.setIfInBounds_toArray, List.set_cons_zero, List.set_cons_succ]
  repeat (first | (refine mix_pure rfl rfl rfl (fun K hK => ?_); go_big_quiet_op; refine hK _ ?_; clear hK K) | (refine mix_held rfl rfl rfl (by assumption) (fun K hK => ?_); go_big_quiet_op; refine hK _ ?_; clear hK K))
  refine mix_make rfl rfl (by assumption) newTold_st (newTold_makes rfl zero_state rfl) ?_
  rintro v ⟨g2, rfl⟩ hKp3
  simp only [Act.put, List.setIfInBounds_toArray, List.set_cons_zero, List.set_cons_succ]
  refine mix_store rfl rfl 33 (.tmp 14) (.tmp 54) rfl g2 0 (stCells TC).toArray rfl rfl (fun W hW => ?_) (by kernel_rfl) (all_oneCell_toArray (int_one TC)) ?_
  · have := (hW.2 g2 rfl).2
    exact Blk.there this (by rw [List.size_toArray, List.size_toArray, stCells_length, stCells_length]; decide)
  simp only [Act.put, List.setIfInBounds_toArray, List.set_cons_zero, List.set_cons_succ]
  repeat (first | (refine mix_pure rfl rfl rfl (fun K hK => ?_); go_big_quiet_op; refine hK _ ?_; clear hK K) | (refine mix_held rfl rfl rfl (by assumption) (fun K hK => ?_); go_big_quiet_op; refine hK _ ?_; clear hK K))
  refine mix_nil ?_
  rintro W' ⟨W, ⟨⟨hg, hR1⟩, hR2⟩, rfl⟩
  obtain ⟨hge, hBg⟩ := hR2 g2 rfl
  have ho := hR1 A8 c8 rfl
  have hsz : (stCells TC).toArray.toList.length = (stCells zeroT).toArray.size := by rw [List.size_toArray, stCells_length]; exact stCells_length TC
  have hBg' := hBg.whole (stCells TC).toArray.toList hsz
  have ho' := OwnL.kept (row := some g2) ho (oSetCells (World.grownBy.refl W g2) 0 (stCells TC).toArray.toList) (.inr (Blk.apart hBg ho (by decide)))
  have hoA' := OwnL.kept (row := some g2) (HA6.out.below hg) (oSetCells (World.grownBy.refl W g2) 0 (stCells TC).toArray.toList) (.inr (Blk.apart hBg (HA6.out.below hg) (by decide)))
  have hoB' := OwnL.kept (row := some g2) (HO6.out.below hg) (oSetCells (World.grownBy.refl W g2) 0 (stCells TC).toArray.toList) (.inr (Blk.apart hBg (HO6.out.below hg) (by decide)))
  have hB0 := (HS6.out.on hg).farC (show w4.heap.size ≠ g2 by omega) 0 (stCells TC).toArray.toList
  have hbw7 := bSetCells (HB6.out.trans (Below.mono hg (Below.size HB6.out))) (Nat.le_trans (Below.size HB6.out) hge) 0 (stCells TC).toArray.toList
  have hx7 := Below.size (bSetCells hg hge 0 (stCells TC).toArray.toList)
  obtain ⟨w7, hW7⟩ : ∃ w7, W.setCells g2 0 (stCells TC).toArray.toList = w7 := ⟨_, rfl⟩
  rw [hW7] at hBg' ho' hoA' hoB' hB0 hbw7 hx7 ⊢
  rw [Array.toArray_toList] at hBg'
  have HC7 := Lib.hid hBg'
  have HO7 := Lib.hid ho'
  have HA7 := Lib.hid hoA'
  have HP7 := Lib.hid hoB'
  have HS7 := Lib.hid hB0
  have HB7 := Lib.hid hbw7
  have HX7 := Lib.hid (Nat.le_trans HX6.out hx7)
  clear hW7 hBg ho hoA' hoB' hsz hBg' ho' hB0 hbw7 hx7 hR1 hR2 hg hKp hKp2 hKp3 hgl hsl HG6 HO6 HA6 HS6 HB6
  have hgl := HC7.out.lt
  have hsl := HS7.out.lt
  by_cases hEA : eA = 0
  · obtain ⟨rfl, rfl, rfl, hLL⟩ := HYES.out hEA
    subst hEA
    have q1 : ((0 : Int) != 0) = false := rfl
    go_upto_region 11 with fail
    obtain ⟨i0, hi0, hz0, hz1, hz2⟩ := info_parts Try.infoEv
    have HI := Lib.hid hi0
    have HZ0 := Lib.hid hz0
    have HZ1 := Lib.hid hz1
    have HZ2 := Lib.hid hz2
    clear hi0 hz0 hz1 hz2
    have hlen := congrArg List.length hLL
    rw [List.length_append] at hlen
    have hla := HLA.out rfl
    have HLL := Lib.hid hLL
    obtain ⟨nb, hnb⟩ : ∃ n, LB.length = n := ⟨_, rfl⟩
    obtain ⟨nc, hnc⟩ : ∃ n, LC.length = n := ⟨_, rfl⟩
    rw [hnb, hnc] at hlen
    have hbc : nb + nc ≤ 4400 := by omega
    have HRC := Lib.hid (show Rd w7 w7.heap.size A8 (LC.flatMap Ev.cells) from HO7.out.rd)
    have HNC := Lib.hid (show A8 = none → nc = 0 from fun h => hnc ▸ rd_none Ev.cells_length (by decide) HRC.out h)
    have HPB := HP7.out
    rw [hnb] at HPB
    have HOB := Lib.hid (show World.ownsRow w7 w5.heap.size 45 9 (.slice A6 nb c6) nb (LB.flatMap Ev.cells) from hnb ▸ HP7.out)
    clear HPB
    have HFC := Lib.hid (show (LC.flatMap Ev.cells).length = nc * 9 by rw [length_flatMap_const _ 9 Ev.cells_length, hnc])
    have HBS := HX7
    have HQQ := Lib.hid (fun (v1 : Value) (w8 : World) (hown1 : w8.ownsRow w5.heap.size 45 9 v1 (nb + nc) (LB.flatMap Ev.cells ++ LC.flatMap Ev.cells)) (hg1 : w7.grownBy w8 (Value.slice A6 nb c6).ownBlock) =>
      show ∃ A9 c9, v1 = .slice A9 LA.length c9 ∧ Below w.heap.size w w8 ∧ Calls Try.prog 14 #[.slice A9 LA.length c9, .slice A4 LA.length c4] w8 fun e w' => e = .returned (.bool true) ∧ Below w8.heap.size w8 w' by
        have ho : OwnL w8 w5.heap.size 45 9 v1 Ev.cells (LB ++ LC) := OwnL.app (by rw [hnb, hnc]) hown1
        rw [HLL.out] at ho
        have hA8 : OwnL w8 _ 45 9 (.slice A4 LA.length c4) Ev.cells LA := HA7.out.kept hg1 (by
          cases h1 : (Value.slice A4 LA.length c4).ownBlock with
          | none => exact .inl rfl
          | some k =>
            right
            intro h2
            have k1 := HO5.out.block_lt k h1
            have k2 := HP7.out.base_le k (by rw [hnb]; exact h2.symm)
            omega)
        obtain ⟨A9, c9, rfl⟩ := ho.shape
        refine ⟨A9, c9, rfl, ?_, ?_⟩
        · exact HB7.out.grown hg1 (Below.size HB7.out) (fun k hk => by
            have k2 := HP7.out.base_le k (by rw [hnb]; exact hk)
            have k3 := Below.size HB5.out
            omega)
        · refine (same_any A9 A4 c9 c4 LA LA w8 (by omega) ho.rd hA8.rd).mono ?_
          rintro e w' ⟨rfl, hb⟩
          exact ⟨by simp, hb⟩)
    rw [hnb, hnc]
    clear hlen hla hLL hnb hnc HLB HLA HNO HYES H2 H3 hv
    go_wp2_with (first
      | (refine wpList_load_midG rfl 33 (.tmp 14) rfl g2 0 rfl (stCells TC) _ (Blk.range HC7.out) Try.underlying33 rfl (by kernel_rfl) ?_)
      | (refine wpList_load_midG rfl 33 (.tmp 8) rfl w4.heap.size 0 rfl (stCells TC) _ (Blk.range HS7.out) Try.underlying33 rfl (by kernel_rfl) ?_)
      | (refine wpList_runs (.bool true) rfl (runs_eql rfl rfl rfl (by kernel_rfl) (fun W => st_eql TC W) _) ?_)
      | (refine wpList_append_rdG rfl (.tmp 77) (.tmp 78) 37 rfl w5.heap.size 45 i0 _ 9 72 Try.underlying37 HI.out HZ0.out HZ1.out HZ2.out rfl (by decide) (.slice A6 nb c6) nb (LB.flatMap Ev.cells) rfl HOB.out w7.heap.size A8 nc c8 (LC.flatMap Ev.cells) rfl HFC.out HRC.out HNC.out (ev_oneCells LC) (by simp [maxLen]; omega) (by omega) HBS.out ?_; intro v1 w8 hown1 hg1 hat1; obtain ⟨A9, c9, rfl, hb8, hcall⟩ := HQQ.out v1 w8 hown1 hg1; have HB8 := Lib.hid hb8; have HCL := Lib.hid hcall; clear hown1 hg1 hat1 hb8 hcall)
      | (go_at_call 14; refine HCL.out.mono ?_; rintro e w9 ⟨rfl, hb9⟩; have HB9 := Lib.hid (bTrans HB8.out hb9); clear hb9))
    all_goals (go_ret; exact ⟨rfl, HB9.out⟩)
  · have q1 : (eA != 0) = true := by simpa using hEA
    have HX := HNO.out hEA
    by_cases hEB : eB = 0
    · have q2 : (eB != 0) = false := by simpa using hEB
      have hEC : eC ≠ 0 := HX.resolve_left (fun h => h hEB)
      have q3 : (eC != 0) = true := by simpa using hEC
      go_wp2_with fail
      all_goals (go_ret; exact ⟨rfl, HB7.out⟩)
    · have q2 : (eB != 0) = true := by simpa using hEB
      go_wp2_with fail
      all_goals (go_ret; exact ⟨rfl, HB7.out⟩)
end
end Go.Proofs.Ytnaclkaapicelaa
namespace Go.Proofs.Ytnaclkaapicelaa
open Go.RowKit Go.WideShapes Go.ChangeShapes
set_option maxRecDepth 100000
theorem parts_any (seed : Int) (A : Option Addr) (c : Nat) (l : List (Nat × Nat)) (at_ : Int) (w : World) (hs : U32 seed) (hat : I64 at_) (hcap : l.length ≤ c) (hr : Rd w w.heap.size A (l.flatMap pbCells)) (hb : ∀ q ∈ l, q.1 < 256 ∧ q.2 < 256) :
    Calls Try.prog 4 #[.int .u32 seed, .slice A l.length c, .int .i64 at_] w fun e w' => e = .returned (.bool true) ∧ Below w.heap.size w w' := by
  by_cases hn : 200 < l.length
  · exact parts_1 hn
  · exact parts_2 hn hcap hs hat hr hb
theorem own : ownKnob Try.prog.godebug = none := by kernel_rfl
theorem contract (H : Type) (enc : TypeId × Value → H) (W : World) (base : Nat) (args : Array Value) (ds gs : List (DataW H)) (before : List MemPlace)
    (hval : ∀ (j : Nat) t v, Try.f4.params[j]? = some t → args[j]? = some v → Value.okWide Try.prog W .any base t v)
    (hW : DataW.Whole enc Try.prog Try.f4.params.toList Rows.gamePartsSpec.vars false W args.toList ds gs before) (_hL : laidMetH Try.prog Rows.gamePartsRow.laid W) :
    Calls Try.prog 4 args W fun e W' => ∃ v, e = .returned v ∧ Rows.gamePartsSpec.post enc Try.prog Try.f4 false true false false W args v W' := by
  have hW0 := hW
  obtain ⟨p, q, hA, hV, rfl, -, -⟩ := hW
  rw [Try.params4] at hA hval
  obtain ⟨v0, vs0, d0, ds0, p0, q0, hargs, rfl, rfl, h0, r0⟩ := trodAll_cons hA
  obtain ⟨v1, vs1, d1, ds1, p1, q1, rfl, rfl, rfl, h1, r1⟩ := trodAll_cons r0
  obtain ⟨v2, vs2, d2, ds2, p2, q2, rfl, rfl, rfl, h2, r2⟩ := trodAll_cons r1
  obtain ⟨rfl, rfl, rfl⟩ := trodAll_nil r2
  obtain rfl : args = #[v0, v1, v2] := by cases args; simp_all
  obtain ⟨rfl, rfl⟩ := trodVars_none hV
  obtain ⟨s, rfl, rfl, rfl, sw⟩ := open_int Try.underlying22 (hval 0 _ _ rfl rfl) h0
  obtain ⟨lA, lc, ll, rfl, ln, lr, lf⟩ := open_ins (hval 1 _ _ rfl rfl) h1
  obtain ⟨a, rfl, rfl, rfl, aw⟩ := open_int Try.underlying3 (hval 2 _ _ rfl rfl) h2
  refine (parts_any s lA lc ll a W (bounds_u32 sw) (bounds_i64 aw) ln.1 lr lf).mono fun e W' ⟨he, hb⟩ => ?_
  subst he
  exact ⟨_, rfl, law_post (by kernel_rfl) (by kernel_rfl) rfl Try.underlying4 rfl rfl hW0 hb⟩
theorem laid_met (os : Os) : laidMet Try.prog Rows.gamePartsRow.laid (((World.holding Try.prog os ⟨#[], #[], []⟩)).forCall (fun _ _ => 0) ⟨#[], #[.int .u32 0, .slice none 0 0, .int .i64 0], []⟩).memory :=
  laidMet_of_run' 8 (by kernel_rfl) (by kernel_rfl)
theorem reads (os : Os) {H : Type} (enc : TypeId × Value → H) : ∃ places, DataW.whole enc Try.prog (((World.holding Try.prog os ⟨#[], #[], []⟩)).forCall (fun _ _ => 0) ⟨#[], #[.int .u32 0, .slice none 0 0, .int .i64 0], []⟩).memory Try.f4.params.toList Rows.gamePartsSpec.vars false #[(.int .u32 0 : Value), .slice none 0 0, .int .i64 0].toList 8 = some ([.lit (.int .u32 0), .nil, .lit (.int .i64 0)], [], places) :=
  ⟨[], by kernel_rfl⟩
set_option maxRecDepth 100000 in
theorem lifted (os : Os) (started : os.Started) (H : Type) (enc : TypeId × Value → H) (F : Stop.Interp) :
    ReturnsInHanded {} Try.checked os 4 .any ((OpenSpec.ofChange Rows.gamePartsSpec).preRow enc Try.prog Try.f4 Rows.gamePartsRow.domain false Rows.gamePartsRow.laid) (((OpenSpec.ofChange Rows.gamePartsSpec).at F).post enc Try.prog Try.f4 false true false false) := by
  obtain ⟨places, hx⟩ := reads os enc
  refine returnsInHanded_of_row (C := Try.checked) (s := (OpenSpec.ofChange Rows.gamePartsSpec)) own started (by kernel_rfl) Try.func4
    (witness_row_at (enc := enc) (C := Try.checked) false (World.holding Try.prog os ⟨#[], #[], []⟩) #[.int .u32 0, .slice none 0 0, .int .i64 0] rfl (by kernel_rfl) (by kernel_rfl) (by kernel_rfl)
      (OpenSpec.preRow_of_cond 8 hx (by kernel_rfl) (fun k hk => by cases hk) (by kernel_rfl) (laid_met os))) ?_
  intro W base args ds gs before hval hW _ _ _ hL _ _
  exact contract H enc W base args ds gs before hval hW hL
theorem said : Rows.GamePartsSaid :=
  OpenClaim.holds_of_cond 4 Try.f4 rfl rfl rfl rfl rfl rfl rfl ⟨rfl, rfl, rfl, rfl, rfl⟩ rfl rfl rfl rfl rfl (by kernel_rfl) Try.func4 (by kernel_rfl)
    (of_decide_eq_true (by kernel_rfl)) (by unfold Func.isWrapper; first | (rw [if_pos (by decide +kernel)]; kernel_rfl) | (rw [if_neg (by decide +kernel)]; exact ⟨rfl, rfl⟩))
    (fun os started H enc _ F => by rw [OpenClaim.pre_eq_preRow]; exact lifted os started H enc F)
end Go.Proofs.Ytnaclkaapicelaa
