/-
  script.Print.
-/
import Derived.Test.YtlonefjbcooaaaaDoorScTo
import Derived.Test.YtlonefjbcooaaaaDoorScPr
import Derived.Test.YtlonefjbcooaaaaDoorScK
import Derived.Test.YtlonefjbcooaaaaDoorScSm
import Derived.Test.YtlonefjbcooaaaaDoorBuild
namespace Go.Proofs.YtlonefjbcooaaaaDoor
open Go.RowKit
set_option maxRecDepth 100000
set_option linter.unusedSimpArgs false
theorem isB_below {T e : TypeId} {B b : Nat} {bs : List Value} {w w' : World} (h : Lib.IsBuilder T e B b bs w) (hb : Below w.heap.size w w') : Lib.IsBuilder T e B b bs w' := by
  have key : ∀ p, Lib.BuilderAt T e B b p bs w → Lib.BuilderAt T e B b p bs w' := by
    rintro p ⟨h1, v, h2, h3, h4⟩
    have hlt : b < w.heap.size := by
      rcases Nat.lt_or_ge b w.heap.size with h | h
      · exact h
      · rw [Array.getElem?_eq_none h] at h2; cases h2
    refine ⟨h1, v, (hb.block b hlt).trans h2, ?_, h4⟩
    refine World.ownsRow.kept h3 (row := none) ⟨hb.os, hb.tape, hb.output, hb.size, fun k hk _ => hb.block k hk⟩ ?_
    cases hv : v.ownBlock with
    | none => exact .inl rfl
    | some g => exact .inr (by simp)
  rcases h with h | h
  · exact .inl (key _ h)
  · exact .inr (key _ h)
theorem goL_load {P : Program} {o : Oper} {a : Act} {W : World} (ty : TypeId) (x : Operand) (ho : o.op = .load ty x) (b i : Nat) (hx : a.eval x = .pointer (some ⟨b, i, none⟩)) (cs : List Value) (d : TypeDesc) (hc : W.rangeAt b i cs) (hu : P.underlying ty = some d) (hd : d.isRow = true) (hi : (P.info? ty).map (·.size) = some cs.length) :
    Oper.goes P o a W (fun v W' => v = .agg cs.toArray ∧ W' = W) := by
  have hr : (execOp a.eval o).run P W = .ok (.value (.agg cs.toArray)) W := by
    unfold execOp
    simp only [ho, hx, Instr.loadAt, Instr.sureAddr, Sem.run_bind, Sem.run_pure, Result.andThen_ok, run_loadVar_mid W b i ty cs d hc hu hd hi]
  unfold Oper.goes
  rw [hr]
  exact ⟨rfl, rfl⟩
def Su.ints (s : Su) : List Int := [s.seed, s.delay, s.window, s.me, s.nonce, s.patience, s.entries, s.voices]
theorem setI_iff (ns : List Nat) (s : Su) : setI ns = s.ints ↔ setC ns = s.cells := by
  simp only [setI, setC, Su.ints, Su.cells, List.map_cons, List.map_nil, List.cons.injEq, Value.int.injEq, true_and, and_true]
theorem set_neq2 (ns : List Nat) (s : Su) (w : World) : (binOp .neq 27 (.agg (setC ns).toArray) (.agg s.cells.toArray)).run Tryd.prog w = .ok (.bool (!decide (setI ns = s.ints))) w :=
  neq_ints set_kinds set_valOf (setI ns) s.ints rfl rfl (xs := setC ns) (ys := s.cells) rfl rfl w
def Mo.ints (m : Mo) : List Int := [m.kind, m.who, m.i, m.at_, m.by_, m.in_]
theorem mvI_iff (a : Nat × List Nat) (m : Mo) : mvI a = m.ints ↔ mvF a = m.cells := by
  simp only [mvI, mvF, mvC, Mo.ints, Mo.cells, List.map_cons, List.map_nil, List.cons.injEq, Value.int.injEq, true_and, and_true]
theorem mv_neq2 (a : Nat × List Nat) (m : Mo) (w : World) : (binOp .neq 40 (.agg (mvF a).toArray) (.agg m.cells.toArray)).run Tryd.prog w = .ok (.bool (!decide (mvI a = m.ints))) w :=
  neq_ints mv_kinds mv_valOf (mvI a) m.ints rfl rfl (xs := mvF a) (ys := m.cells) rfl rfl w
theorem Mo.cells_length (m : Mo) : m.cells.length = 6 := rfl
structure Su.Fits (s : Su) : Prop where
  seed0 : 0 ≤ s.seed
  seed1 : s.seed < 4294967296
  d : IL64 s.delay
  x : IL64 s.window
  p : IL64 s.patience
  e : IL64 s.entries
  v : IL64 s.voices
/-- What Print hands back. -/
def PrQ (s : Su) (ms : List Mo) (w : World) (e : Ending) (w' : World) : Prop := e = .returned (.tuple #[.string ⟨(if okAll s ms then textL s ms else []).toArray⟩, .int .i64 (if okAll s ms then 0 else 1)]) ∧ Below w.heap.size w w'
theorem PrQ.bad {s : Su} {ms : List Mo} {w w' : World} {e : Ending} (h : okAll s ms = false) (he : e = .returned (.tuple #[.string ⟨#[]⟩, .int .i64 1])) (hb : Below w.heap.size w w') : PrQ s ms w e w' := by
  refine ⟨?_, hb⟩
  rw [h, he]; rfl
theorem PrQ.good {s : Su} {ms : List Mo} {w w' : World} {e : Ending} (h : okAll s ms = true) (he : e = .returned (.tuple #[.string ⟨(textL s ms).toArray⟩, .int .i64 0])) (hb : Below w.heap.size w w') : PrQ s ms w e w' := by
  refine ⟨?_, hb⟩
  rw [h, he]; rfl
theorem text_take (s : Su) (ms : List Mo) (k : Nat) (h : k < ms.length) : textL s (ms.take (k + 1)) = textL s (ms.take k) ++ (toldL ms[k] ++ [10]) := by
  rw [List.take_succ_eq_append_getElem h]
  unfold textL
  rw [List.map_append, ← List.cons_append, List.flatMap_append]
  simp only [List.map_cons, List.map_nil, List.flatMap_cons, List.flatMap_nil, List.append_nil]
theorem text_len (s : Su) (hs : s.Fits) (ms : List Mo) (hf : ∀ m ∈ ms, m.Fits) : (textL s ms).length ≤ 155 + 111 * ms.length := by
  have h1 : (headL s).length ≤ 154 := by
    have := lineL_len boutW s.nums (by decide) (by
      intro n hn
      have s64 : IL64 s.seed := ⟨by have := hs.seed0; omega, by have := hs.seed1; omega⟩
      simp only [Su.nums, List.mem_cons, List.not_mem_nil, or_false] at hn
      rcases hn with rfl | rfl | rfl | rfl | rfl | rfl
      · exact s64
      · exact hs.d
      · exact hs.x
      · exact hs.p
      · exact hs.e
      · exact hs.v)
    have h6 : s.nums.length = 6 := rfl
    unfold headL
    omega
  unfold textL
  rw [List.flatMap_cons, List.length_append, List.length_append, List.length_singleton]
  have h2 : ∀ ms : List Mo, (∀ m ∈ ms, m.Fits) → ((ms.map toldL).flatMap (· ++ [10])).length ≤ 111 * ms.length := by
    intro ms
    induction ms with
    | nil => intro _; simp
    | cons m r ih =>
      intro hf
      have a := told_len m (hf m (by simp))
      have b := ih fun x hx => hf x (List.mem_cons_of_mem _ hx)
      rw [List.map_cons, List.flatMap_cons, List.length_append, List.length_append, List.length_singleton, List.length_cons]
      omega
  have := h2 ms hf
  omega
theorem okAll_bad {s : Su} {ms : List Mo} {mo : Mo} (hm : mo ∈ ms) (h : ¬ mo.ok = true) : okAll s ms = false := by
  unfold okAll
  rw [Bool.and_eq_false_iff]
  right
  rw [List.all_eq_false]
  exact ⟨mo, hm, h⟩
set_option maxHeartbeats 8000000 in
theorem print_any (s : Su) (hs : s.Fits) (ms : List Mo) (hf : ∀ m ∈ ms, m.Fits) (A : Option Addr) (c : Nat) (w : World) (hn : ms.length ≤ 200) (hr : Rd w w.heap.size A (ms.flatMap Mo.cells)) (h : ScW w w.heap.size) :
    Calls Tryd.prog 10 #[.agg s.cells.toArray, .slice A ms.length c] w (PrQ s ms w) := by
  have HS := Lib.hid h
  have HR := Lib.hid hr
  have HF := Lib.hid hf
  have HTL := Lib.hid (fun k => text_len s hs (ms.take k) (fun m hm => hf m (List.mem_of_mem_take hm)))
  have HTK := Lib.hid (fun k hk => text_take s ms k hk)
  obtain ⟨m, hm⟩ : ∃ m, ms.length = m := ⟨_, rfl⟩
  have HM := Lib.hid hm
  rw [hm] at hn ⊢
  have hT6 : (s.nums.map Lib.itoa).length = 6 := rfl
  have hcut : cutL 32 (headL s) = boutW :: s.nums.map Lib.itoa := cut_line _ _ (by decide)
  have hhl : (headL s).length ≤ 154 := by have := text_len s hs [] (by simp); simp [textL] at this; omega
  have hIL : ∀ l ∈ s.nums.map Lib.itoa, l.length ≤ 1000000 := by
    intro l hl
    have := cutL_len 32 (headL s) l (by rw [hcut]; exact List.mem_cons_of_mem _ hl)
    omega
  have HNS : Hid (∀ n ∈ s.nums, IL64 n) := Lib.hid (by
    intro n hn
    have s64 : IL64 s.seed := ⟨by have := hs.seed0; omega, by have := hs.seed1; omega⟩
    simp only [Su.nums, List.mem_cons, List.not_mem_nil, or_false] at hn
    rcases hn with rfl | rfl | rfl | rfl | rfl | rfl
    · exact s64
    · exact hs.d
    · exact hs.x
    · exact hs.p
    · exact hs.e
    · exact hs.v)
  have HSO := Lib.hid (setO_head s)
  rw [hcut] at HSO
  have HSC := Lib.hid (setC_head s)
  have HL := Lib.hid (fun A c W (hr : Rd W W.heap.size A (s.nums.flatMap zF)) (hW : ScW W W.heap.size) => line_any boutW A c s.nums W (by show 6 ≤ 1000; decide) (by decide) HNS.out hr hW)
  have HSP := Lib.hid (fun W hW => split_any (headL s) W (by omega) hW)
  have HSE := Lib.hid (fun A c W hc hr hW => setup_any A c boutW (s.nums.map Lib.itoa) W (by rw [hT6]; decide) hc hr hIL hW)
  rw [hcut] at HSP
  simp only [List.length_cons, hT6] at HSP HSE
  have HHL : Hid (headL s = lineL boutW s.nums) := Lib.hid rfl
  obtain ⟨hd, hhd⟩ : ∃ hd, headL s = hd := ⟨_, rfl⟩
  rw [hhd] at HSP HHL hhl
  have HHD := Lib.hid hhd
  have HTS : Hid (textL s (ms.take 0) = hd ++ [10]) := Lib.hid (by rw [← hhd]; simp [textL])
  rw [← HHL.out] at HL
  have hs0 := hs.seed0
  have hs1 := hs.seed1
  have HCE : Hid (s.cells = [.int .u32 s.seed, .int .i64 s.delay, .int .i64 s.window, .int .i64 s.me, .int .u32 s.nonce, .int .i64 s.patience, .int .i64 s.entries, .int .i64 s.voices]) := Lib.hid rfl
  have HNE : Hid (s.nums.flatMap zF = [.int .i64 s.seed, .int .i64 s.delay, .int .i64 s.window, .int .i64 s.patience, .int .i64 s.entries, .int .i64 s.voices]) := Lib.hid rfl
  have HC1 : Hid (s.cells.length = 8) := Lib.hid rfl
  clear hr h hf hm hcut hT6 hIL hhd
  have hN6 : s.nums.length = 6 := rfl
  rw [hN6] at HL
  obtain ⟨nz, hnz⟩ : ∃ nz, s.nums.flatMap zF = nz := ⟨_, rfl⟩
  rw [hnz] at HL HNE
  obtain ⟨sc, hsc⟩ : ∃ sc, s.cells = sc := ⟨_, rfl⟩
  have hsc' := hsc
  rw [hsc] at HC1 HCE ⊢
  have HSCE := Lib.hid hsc
  clear hsc hsc' hnz hN6
  have hcr := HCE.out
  subst hcr
  go_enter Tryd.func10, Tryd.ntmps10
  go_upto_region 1 with fail
  refine named1 (F := fun W => Code.wp _ _ _ _ W) ?_
  intro w1 k1 hb1 hz1
  have c0 := k1.cell 0
  have c1 := k1.cell 1
  have c2 := k1.cell 2
  have c5 := k1.cell 5
  have c6 := k1.cell 6
  have c7 := k1.cell 7
  have kl := k1.lt
  simp only [List.getElem?_toArray, List.getElem?_cons_zero, List.getElem?_cons_succ] at c0 c1 c2 c5 c6 c7
  have K1 := Lib.hid k1
  have HB1 := Lib.hid hb1
  clear k1 hb1 hz1
  go_upto_region 2 with fail
  refine named1 (F := fun W => Code.wp _ _ _ _ W) ?_
  intro w2 k2 hb2 hz2
  have HBU : Hid (Lib.IsBuilder 63 5 w.heap.size w1.heap.size (Lib.byteCells []) w2) := Lib.hid (.inl ⟨by omega, .slice none 0 0, k2, World.ownsRow_nil _ _ _ _, by simp [Value.ownBlock]⟩)
  have HB2 := Lib.hid (bTrans HB1.out hb2)
  have K12 := Lib.hid (K1.out.on hb2)
  have d0 := (hb2.cell (p := ⟨w.heap.size, 0, none⟩) kl).trans c0
  have d1 := (hb2.cell (p := ⟨w.heap.size, 1, none⟩) kl).trans c1
  have d2 := (hb2.cell (p := ⟨w.heap.size, 2, none⟩) kl).trans c2
  have d5 := (hb2.cell (p := ⟨w.heap.size, 5, none⟩) kl).trans c5
  have d6 := (hb2.cell (p := ⟨w.heap.size, 6, none⟩) kl).trans c6
  have d7 := (hb2.cell (p := ⟨w.heap.size, 7, none⟩) kl).trans c7
  have hz12 : w1.heap.size < w2.heap.size := by omega
  have kl2 : w.heap.size < w2.heap.size := by omega
  clear k2 hb2 hz2 c0 c1 c2 c5 c6 c7 K1 HB1
  have hne := HNE.out
  subst hne
  have hRL : Rd (w2.alloc (.cells #[.int .i64 s.seed, .int .i64 s.delay, .int .i64 s.window, .int .i64 s.patience, .int .i64 s.entries, .int .i64 s.voices] 3)) (w2.alloc (.cells #[.int .i64 s.seed, .int .i64 s.delay, .int .i64 s.window, .int .i64 s.patience, .int .i64 s.entries, .int .i64 s.voices] 3)).heap.size (some ⟨w2.heap.size, 0, none⟩) [.int .i64 s.seed, .int .i64 s.delay, .int .i64 s.window, .int .i64 s.patience, .int .i64 s.entries, .int .i64 s.voices] := by
    have := rd_new w2 #[.int .i64 s.seed, .int .i64 s.delay, .int .i64 s.window, .int .i64 s.patience, .int .i64 s.entries, .int .i64 s.voices] 3 _ rfl (w2.heap.size + 1) (Nat.lt_succ_self _)
    simpa using this
  have HRL := Lib.hid hRL
  have HSW := Lib.hid (HS.out.on (bAlloc HB2.out (.cells #[.int .i64 s.seed, .int .i64 s.delay, .int .i64 s.window, .int .i64 s.patience, .int .i64 s.entries, .int .i64 s.voices] 3)))
  obtain ⟨so, hso⟩ : ∃ so, setO (boutW :: s.nums.map Lib.itoa) = so := ⟨_, rfl⟩
  rw [hso] at HSO HSE
  obtain ⟨nq, hnq⟩ : ∃ nq, so.getD [] = nq := ⟨_, rfl⟩
  rw [hnq] at HSE
  have HNQ := Lib.hid hnq
  have HB1' := Lib.hid (show Below w2.heap.size w2 (w2.alloc (.cells #[.int .i64 s.seed, .int .i64 s.delay, .int .i64 s.window, .int .i64 s.patience, .int .i64 s.entries, .int .i64 s.voices] 3)) from bAlloc (Below.refl _ _) _)
  clear hRL hso hnq HNE
  go_upto_region 3 with (go_at_call 21; refine (HL.out _ _ _ HRL.out HSW.out).mono ?_; rintro e w3 ⟨rfl, hb3⟩; have HB23 := Lib.hid (bTrans HB1'.out hb3); clear hb3)
  have HB3 := Lib.hid (bTrans HB2.out HB23.out)
  have K13 := Lib.hid (K12.out.on HB23.out)
  have HBU3 := Lib.hid (isB_below HBU.out HB23.out)
  have HS3 := Lib.hid (HS.out.on HB3.out)
  have hz23 := HB23.out.size
  clear HL HRL HSW HB1' HB23 HBU K12 HB2 d0 d1 d2 d5 d6 d7
  go_upto_region 4 with (first
    | (go_at_call 22; refine (HSP.out _ HS3.out).mono ?_; rintro e w4 ⟨g, rfl, ho4, hb4⟩
       have HB34 := Lib.hid hb4
       have HSE4 := Lib.hid (HSE.out _ _ _ (Nat.le_refl _) ho4.rd (HS3.out.on hb4))
       clear ho4 hb4)
    | (go_at_call 16; refine HSE4.out.mono ?_; rintro e w5 ⟨rfl, hb5⟩; have HB35 := Lib.hid (bTrans HB34.out hb5); clear hb5)
    | (refine wpList_store_mid rfl 27 (.tmp 8) (.tmp 37) rfl w5.heap.size 0 (setC nq).toArray rfl rfl (there_new _ _ _ rfl) setInfo (setC_one _) ?_
       refine named_put (F := fun W => wpList _ _ _ _ _ W) rfl ?_
       intro w6 k8 hb6 hz6
       have HB36 := Lib.hid (bTrans HB35.out hb6)
       have K86 := Lib.hid k8
       have hl8 := k8.lt
       clear k8 hb6 hz6))
  have HB6 := Lib.hid (bTrans HB3.out HB36.out)
  have K16 := Lib.hid (K13.out.on HB36.out)
  have HBU6 := Lib.hid (isB_below HBU3.out HB36.out)
  have hz36 := HB36.out.size
  clear HSP HSE HSE4 HB34 HB35 HB36 K13 HBU3 HB3 HS3
  by_cases hsm : s.nums.all smallB = true
  case neg =>
    have hso := HSO.out
    rw [if_neg hsm] at hso
    subst hso
    have HX : Hid (okAll s ms = false) := Lib.hid (by
      have : s.nums.all smallB = false := by simpa using hsm
      simp [okAll, Su.ok, this])
    clear HSO HSC HNQ hsm
    go_wp2
    go_ret2
    exact PrQ.bad HX.out rfl HB6.out
  case pos =>
  have hso := HSO.out
  rw [if_pos hsm] at hso
  subst hso
  have hnq := HNQ.out
  simp only [Option.getD_some] at hnq
  have hiff := HSC.out hsm
  rw [hnq] at hiff
  have hq := set_neq2 nq s
  rw [HSCE.out] at hq
  have HQ := Lib.hid hq
  have hr8 : w6.rangeAt w5.heap.size 0 (setC nq) := fun i v hv => by rw [Nat.zero_add, K86.out.cell]; simpa using hv
  have hr2 : w6.rangeAt w.heap.size 0 [.int .u32 s.seed, .int .i64 s.delay, .int .i64 s.window, .int .i64 s.me, .int .u32 s.nonce, .int .i64 s.patience, .int .i64 s.entries, .int .i64 s.voices] := fun i v hv => by rw [Nat.zero_add, K16.out.cell]; simpa using hv
  have HR8 := Lib.hid hr8
  have HR2 := Lib.hid hr2
  have hl2 := K16.out.lt
  clear hr8 hr2 hq
  by_cases hz : s.me = 0 ∧ s.nonce = 0
  case neg =>
    have HX : Hid (okAll s ms = false) := Lib.hid (by
      rcases Classical.em (s.me = 0) with e | e
      · have : ¬ s.nonce = 0 := fun e2 => hz ⟨e, e2⟩
        simp [okAll, Su.ok, this]
      · simp [okAll, Su.ok, e])
    have hd : (!decide (setI nq = s.ints)) = true := by
      rw [decide_eq_false (fun e => hz (hiff.1 ((setI_iff nq s).1 e)))]; rfl
    rw [hd] at HQ
    clear HSO HSC HNQ hsm hiff hnq hz hd
    go_wp2_with (first
      | (refine wpL_goes rfl (goL_load 27 (.tmp 8) rfl w5.heap.size 0 rfl (setC nq) _ HR8.out Tryd.underlying27 rfl setInfo) ?_; rintro _ _ ⟨rfl, rfl⟩)
      | (refine wpL_goes rfl (goL_load 27 (.tmp 2) rfl w.heap.size 0 rfl _ _ HR2.out Tryd.underlying27 rfl setInfo) ?_; rintro _ _ ⟨rfl, rfl⟩)
      | (refine wpS_runs (.bool true) rfl (runsS_neq rfl rfl rfl (by kernel_rfl) HQ.out _) ?_))
    go_ret2
    exact PrQ.bad HX.out rfl HB6.out
  case pos =>
  have hd : (!decide (setI nq = s.ints)) = false := by
    rw [decide_eq_true ((setI_iff nq s).2 (hiff.2 hz))]; rfl
  rw [hd] at HQ
  have HSK : Hid (s.ok = true) := Lib.hid (by simp [Su.ok, hsm, hz.1, hz.2])
  clear HSO HSC HNQ hsm hiff hnq hz hd
  go_upto_region 7 with (first
    | (refine wpL_goes rfl (goL_load 27 (.tmp 8) rfl w5.heap.size 0 rfl (setC nq) _ HR8.out Tryd.underlying27 rfl setInfo) ?_; rintro _ _ ⟨rfl, rfl⟩)
    | (refine wpL_goes rfl (goL_load 27 (.tmp 2) rfl w.heap.size 0 rfl _ _ HR2.out Tryd.underlying27 rfl setInfo) ?_; rintro _ _ ⟨rfl, rfl⟩)
    | (refine wpS_runs (.bool false) rfl (runsS_neq rfl rfl rfl (by kernel_rfl) HQ.out _) ?_)
    | (go_at_call 23; refine (write_any w.heap.size w1.heap.size _ _ _ HBU6.out (by simp [ByteArray.size, Lib.byteCells]; omega) (by omega)).mono ?_
       rintro e w7 ⟨rfl, hb7, hbl7, -⟩
       have HBU7 : Hid (Lib.IsBuilder 63 5 w.heap.size w1.heap.size (Lib.byteCells (textL s (ms.take 0))) w7) := Lib.hid (.inr (by rw [HTS.out]; simpa [Lib.byteCells, Lib.strCells_eq] using hb7))
       have HB7 := Lib.hid (HB6.out.trans hbl7)
       clear hb7 hbl7))
  clear HBU6 HR8 HR2 HQ K86 K16 HB6 HTS HHL HHD HNS HSCE HC1
  go_wp2_with fail
  go_loopw [51] (fun i wr => ∃ j : Nat, j ≤ m ∧ i = .int .i64 j ∧ Hid (Lib.IsBuilder 63 5 w.heap.size w1.heap.size (Lib.byteCells (textL s (ms.take j))) wr) ∧ Hid ((ms.take j).all Mo.ok = true) ∧ Hid (Below w.heap.size w wr)) (fun i _ => m - (intOf i).toNat)
  case atStart => exact ⟨0, Nat.zero_le _, rfl, HBU7, Lib.hid rfl, HB7⟩
  case round =>
    clear HBU7 HB7
    obtain ⟨j, hj, rfl, HBU, HOK, HB⟩ := hrel
    have htl := HTL.out j
    rw [List.length_take, HM.out] at htl
    by_cases hlt : j < m
    · have hjL : j < ms.length := by rw [HM.out]; exact hlt
      obtain ⟨b, off, rfl, hb, hat⟩ := (HR.out.below HB.out (Nat.le_refl _)).at_ Mo.cells_length (by decide) hjL
      have htk := HTK.out j hjL
      have hfj := HF.out ms[j] (List.getElem_mem hjL)
      have hmem : ms[j] ∈ ms := List.getElem_mem hjL
      have htake : ms.take (j + 1) = ms.take j ++ [ms[j]] := List.take_succ_eq_append_getElem hjL
      obtain ⟨mo, hmo⟩ : ∃ mo, ms[j] = mo := ⟨_, rfl⟩
      rw [hmo] at hat htk hfj hmem htake
      have HRG : Hid (wr.rangeAt b (off + j * 6) mo.cells) := Lib.hid hat
      have HTK1 := Lib.hid htk
      have HTA := Lib.hid htake
      have HME := Lib.hid hmem
      have HRD := Lib.hid (told_read mo hfj)
      have htlen := told_len mo hfj
      have HTO := Lib.hid (fun W hW => told_any mo hfj W hW)
      have h16 : mo.cells.length = 6 := rfl
      have h11 : mo.cells.toArray.all (·.oneCell') = true := by simp [Mo.cells, Value.oneCell']
      have HEQ := Lib.hid (fun a => mv_neq2 a mo)
      have HIF := Lib.hid (fun a => mvI_iff a mo)
      obtain ⟨mc, hmc⟩ : ∃ mc, mo.cells = mc := ⟨_, rfl⟩
      rw [hmc] at HRG HRD HTO h16 h11 HEQ HIF
      have h16a : mc.toArray.size = 6 := by rw [List.size_toArray]; exact h16
      obtain ⟨tl, htle⟩ : ∃ tl, toldL mo = tl := ⟨_, rfl⟩
      rw [htle] at HTK1 HRD htlen HTO
      obtain ⟨h0, tw, hht⟩ : ∃ h0 tw, cutL 32 tl = h0 :: tw := (match cutL 32 tl, cutL_ne 32 tl with | h :: l, _ => ⟨h, l, rfl⟩ | [], h => absurd rfl h)
      have hl0 : ∀ l ∈ tw, l.length ≤ 1000000 := fun l hl => Nat.le_trans (cutL_len 32 tl l (by rw [hht]; exact List.mem_cons_of_mem _ hl)) (by omega)
      have htw : tw.length + 1 ≤ 1000000 := by have := cutL_length_le 32 tl; rw [hht, List.length_cons] at this; omega
      have hsp := fun W hW => split_any tl W (by omega) hW
      rw [hht] at hsp HRD
      simp only [List.length_cons] at hsp
      have HSP := Lib.hid hsp
      have HMV := Lib.hid (fun A c W hc hr hW => move_any A c h0 tw W htw hc hr hl0 hW)
      have HSr := Lib.hid (HS.out.on HB.out)
      have hbl : b < wr.heap.size := Nat.lt_of_lt_of_le hb HB.out.size
      have hwr := HB.out.size
      have e0 : (0 : Int) ≤ (j : Int) := Int.natCast_nonneg _
      have e1 : (j : Int) < (m : Int) := by omega
      clear hat htk hfj hmem htake hmo hmc htle hht hl0 hsp
      go_upto_region 10 with (first
        | (refine wpList_load_mid rfl 40 (.tmp 53) rfl b (off + j * 6) rfl mc _ HRG.out Tryd.underlying40 rfl (by rw [h16]; exact mvInfo) ?_)
        | (refine wpList_store_mid rfl 40 (.tmp 11) (.tmp 54) rfl wr.heap.size 0 mc.toArray rfl rfl (there_new _ _ _ (by rw [h16a]; rfl)) (by rw [h16a]; exact mvInfo) h11 ?_
           refine named_put (F := fun W => wpList _ _ _ _ _ W) (by rw [Array.length_toList, h16a]; rfl) ?_
           intro w8 k8 hb8 hz8
           rw [Array.toArray_toList] at k8
           have HBr8 := Lib.hid hb8
           have K8 := Lib.hid k8
           have hl8 := k8.lt
           clear k8 hb8 hz8))
      have HB8 := Lib.hid (bTrans HB.out HBr8.out)
      have HBU8 := Lib.hid (isB_below HBU.out HBr8.out)
      have HS8 := Lib.hid (HS.out.on HB8.out)
      have hr11 : w8.rangeAt wr.heap.size 0 mc := fun i v hv => by rw [Nat.zero_add, K8.out.cell]; simpa using hv
      have HR11 := Lib.hid hr11
      clear hr11 HBU HRG HBr8
      go_upto_region 12 with (first
        | (refine wpList_load_mid rfl 40 (.tmp 11) rfl wr.heap.size 0 rfl mc _ HR11.out Tryd.underlying40 rfl (by rw [h16]; exact mvInfo) ?_)
        | (go_at_call 24; refine (HTO.out _ HS8.out).mono ?_; rintro e w9 ⟨rfl, hb9⟩; have HB89 := Lib.hid hb9; have HS9 := Lib.hid (HS8.out.on hb9); clear hb9)
        | (go_at_call 22; refine (HSP.out _ HS9.out).mono ?_; rintro e w10 ⟨g, rfl, ho10, hb10⟩
           have HB810 := Lib.hid (bTrans HB89.out hb10)
           have HMV10 := Lib.hid (HMV.out _ _ _ (Nat.le_refl _) ho10.rd (HS9.out.on hb10))
           clear ho10 hb10)
        | (go_at_call 17; refine HMV10.out.mono ?_; intro e w11 hq; unfold MvPost at hq; obtain ⟨⟨C, bm, rfl, hC6, hC1, hbb, hCl⟩, hb11⟩ := hq
           have HB811 := Lib.hid (bTrans HB810.out hb11)
           have HCl := Lib.hid hCl
           have HBB := Lib.hid hbb
           clear hb11 hCl hbb)
        | (refine wpList_store_mid rfl 40 (.tmp 13) (.tmp 61) rfl w11.heap.size 0 C rfl rfl (there_new _ _ _ (by rw [hC6]; rfl)) (by rw [hC6]; exact mvInfo) hC1 ?_
           refine named_put (F := fun W => wpList _ _ _ _ _ W) (by rw [Array.length_toList, hC6]; rfl) ?_
           intro w12 k12 hb12 hz12
           rw [Array.toArray_toList] at k12
           have HB812 := Lib.hid (bTrans HB811.out hb12)
           have K12 := Lib.hid k12
           have hl12 := k12.lt
           clear k12 hb12 hz12))
      have HB12 := Lib.hid (bTrans HB8.out HB812.out)
      have HBU12 := Lib.hid (isB_below HBU8.out HB812.out)
      have K812 := Lib.hid (K8.out.on HB812.out)
      have hr11 : w12.rangeAt wr.heap.size 0 mc := fun i v hv => by rw [Nat.zero_add, K812.out.cell]; simpa using hv
      have HR11 := Lib.hid hr11
      have hz812 := HB812.out.size
      have hbb := HBB.out
      rw [mvO_eq] at hbb
      clear hr11 HBU8 HB8 K8 HTO HSP HMV HMV10 HS8 HS9 HB89 HB810 HB811 HSr HB HBB
      cases hmv : mvP (h0 :: tw) with
      | none =>
        rw [hmv] at hbb
        have hbf : bm = false := hbb
        subst hbf
        have HX := Lib.hid (okAll_bad (s := s) HME.out (fun e => by obtain ⟨a, ha, -⟩ := HRD.out.2 e; rw [hmv] at ha; cases ha))
        clear hmv hbb HRD HCl HEQ HIF
        go_wp2
        go_ret2
        exact PrQ.bad HX.out rfl HB12.out
      | some a =>
        have hcl := HCl.out (mvF a) (by rw [mvO_eq, hmv]; rfl)
        subst hcl
        rw [hmv] at hbb
        have hbf : bm = true := hbb
        subst hbf
        have hr12 : w12.rangeAt w11.heap.size 0 (mvF a) := fun i v hv => by rw [Nat.zero_add, K12.out.cell]; simpa using hv
        have HR12 := Lib.hid hr12
        have hq := HEQ.out a
        have hif := HIF.out a
        by_cases hok : mo.ok = true
        · have hd : (!decide (mvI a = mo.ints)) = false := by
            obtain ⟨a', ha', hc'⟩ := HRD.out.2 hok
            rw [hmv] at ha'
            cases ha'
            rw [decide_eq_true (hif.2 hc')]; rfl
          rw [hd] at hq
          have HQ := Lib.hid hq
          have HOK2 : Hid ((ms.take (j + 1)).all Mo.ok = true) := Lib.hid (by rw [HTA.out, List.all_append, HOK.out]; simp [hok])
          clear hmv hbb HRD HCl HEQ HIF hr12 hq hif hok hd HOK HTA HME
          go_wp2_with (first
            | (refine wpL_goes rfl (goL_load 40 (.tmp 13) rfl w11.heap.size 0 rfl (mvF a) _ HR12.out Tryd.underlying40 rfl mvInfo) ?_; rintro _ _ ⟨rfl, rfl⟩)
            | (refine wpL_goes rfl (goL_load 40 (.tmp 11) rfl wr.heap.size 0 rfl mc _ HR11.out Tryd.underlying40 rfl (by rw [h16]; exact mvInfo)) ?_; rintro _ _ ⟨rfl, rfl⟩)
            | (refine wpS_runs (.bool false) rfl (runsS_neq rfl rfl rfl (by kernel_rfl) HQ.out _) ?_)
                      | (go_at_call 23; refine (write_any w.heap.size w1.heap.size _ _ _ HBU12.out (by rw [Lib.byteCells_length]; simp [ByteArray.size]; omega) (by omega)).mono ?_
                         rintro e w13 ⟨rfl, hb13, hbl13, -⟩
                         have HBU13 : Hid (Lib.IsBuilder 63 5 w.heap.size w1.heap.size (Lib.byteCells (textL s (ms.take (j + 1)))) w13) := Lib.hid (.inr (by rw [HTK1.out, Lib.byteCells_append]; simpa [Lib.byteCells, Lib.strCells_eq] using hb13))
                         have HB13 := Lib.hid (HB12.out.trans hbl13)
                         clear hb13 hbl13))
          go_roundw
          case rel => exact ⟨j + 1, by omega, by go_num, HBU13, HOK2, HB13⟩
          case measure => simp [intOf]; omega
        · have hd : (!decide (mvI a = mo.ints)) = true := by
            rw [decide_eq_false (fun e => hok (HRD.out.1 ⟨a, hmv, hif.1 e⟩))]; rfl
          rw [hd] at hq
          have HQ := Lib.hid hq
          have HX := Lib.hid (okAll_bad (s := s) HME.out hok)
          clear hmv hbb HRD HCl HEQ HIF hr12 hq hif hok hd HOK HTA HME
          go_wp2_with (first
            | (refine wpL_goes rfl (goL_load 40 (.tmp 13) rfl w11.heap.size 0 rfl (mvF a) _ HR12.out Tryd.underlying40 rfl mvInfo) ?_; rintro _ _ ⟨rfl, rfl⟩)
            | (refine wpL_goes rfl (goL_load 40 (.tmp 11) rfl wr.heap.size 0 rfl mc _ HR11.out Tryd.underlying40 rfl (by rw [h16]; exact mvInfo)) ?_; rintro _ _ ⟨rfl, rfl⟩)
            | (refine wpS_runs (.bool true) rfl (runsS_neq rfl rfl rfl (by kernel_rfl) HQ.out _) ?_))
          go_ret2
          exact PrQ.bad HX.out rfl HB12.out
    · obtain rfl : j = m := by omega
      have hfull : ms.take j = ms := List.take_of_length_le (by rw [HM.out]; exact Nat.le_refl _)
      rw [hfull] at HBU HOK htl
      have HX : Hid (okAll s ms = true) := Lib.hid (by unfold okAll; rw [HSK.out, HOK.out]; rfl)
      have hwr := HB.out.size
      have hlen : (Lib.byteCells (textL s ms)).length = (textL s ms).length := Lib.byteCells_length _
      have hLen := Tryd.Builder_Len w.heap.size w1.heap.size _ wr HBU.out
      rw [hlen] at hLen
      have HLN := Lib.hid hLen
      have HST := Lib.hid (Tryd.Builder_String_any w.heap.size w1.heap.size (textL s ms) wr HBU.out hwr)
      obtain ⟨tx, htx⟩ : ∃ tx, textL s ms = tx := ⟨_, rfl⟩
      rw [htx] at HLN HST htl
      have HTX := Lib.hid htx
      clear hfull hlen hLen htx HBU HOK
      go_wp2_with (first
        | (go_at_call 25; refine HLN.out.mono ?_; rintro e w9 ⟨rfl, rfl⟩)
        | (go_at_call 26; refine HST.out.mono ?_; rintro e w9 ⟨rfl, hb9⟩; have HB9 := Lib.hid (HB.out.trans hb9); clear hb9))
      go_ret2
      exact PrQ.good HX.out (by rw [HTX.out]; rfl) HB9.out
end Go.Proofs.YtlonefjbcooaaaaDoor
