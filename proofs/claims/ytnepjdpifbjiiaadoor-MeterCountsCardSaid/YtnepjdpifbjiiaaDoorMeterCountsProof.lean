/-
  PROVED HERE: promptbooklaw29.MeterCounts answers true for every input, and leaves its arguments as they were.
  CONDITIONS: none beyond the row's own.
-/
import Derived.Test.YtnepjdpifbjiiaaDoorMeterAlike
import Derived.Test.YtnepjdpifbjiiaaDoorCards
import Derived.Test.YtnepjdpifbjiiaaDoorTie
import Derived.Deep.DeepHandedRow
import Derived.Lib.LaidTab
import Derived.Stop.LaidErr
import Derived.SevenTiedAt
namespace Go.Proofs.YtnepjdpifbjiiaaDoor
open Go.RowKit Go.WideShapes Go.ChangeShapes Go.ChangeAt
set_option maxRecDepth 100000

theorem gPowT : (Tryd.prog.globals[0]?).map (·.type) = some 93 := by kernel_rfl
theorem cells20 : Tryd.prog.cellsOf 93 = 20 := by kernel_rfl
theorem cellsU64 : Tryd.prog.cellsOf 84 = 1 := by kernel_rfl
theorem powData : (Rows.laid_internal_strconv_uint64pow10 : DataW Unit) = Lib.tabData .u64 Lib.pow10Tab := by kernel_rfl
theorem table {W : World} (h : laidMetH Tryd.prog Rows.meterCountsRow.laid W) : Tab W W.heap.size := by
  have h2 : laidMet Tryd.prog [("math/bits.deBruijn32tab", Rows.laid_math_bits_deBruijn32tab), ("math/bits.deBruijn64tab", Rows.laid_math_bits_deBruijn64tab), ("internal/strconv.uint64pow10", Rows.laid_internal_strconv_uint64pow10)] W := h
  have h3 := h2.tail.tail
  rw [powData] at h3
  have ht : Lib.TabIs Tryd.prog W "internal/strconv.uint64pow10" .u64 Lib.pow10Tab :=
    Lib.tabIs_of_head (rest := []) gPow gPowT Tryd.underlying93 Tryd.underlying84 cellsU64 cells20 h3
  exact ⟨ht, block_lt_of_cell (ht.cell gPow 0 (by rw [Lib.pow10Tab_length]; decide))⟩

set_option maxHeartbeats 1000000 in
theorem walk_far (A : Option Addr) (c : Nat) (l : List OutP) (kind late p : Int) (w : World) (hr : Rd w w.heap.size A (l.flatMap OutP.cells)) (hf : farB l = true) :
    Calls Tryd.prog 3 #[.slice A l.length c, .int .i64 kind, .int .i64 late, .int .i64 p] w fun e w' => e = .returned (.bool true) ∧ Below w.heap.size w w' := by
  have HR := Lib.hid hr
  have HF := Lib.hid hf
  clear hr hf
  go_enter Tryd.func3, Tryd.ntmps3
  go_wp2_with fail
  refine (awake_any _).mono ?_
  rintro e w1 ⟨rfl, hb1⟩
  go_wp2_with fail
  refine (far_any A c l _ ((HR.out.below hb1 (Nat.le_refl _)).more hb1.size)).mono ?_
  rw [HF.out]
  rintro e w2 ⟨rfl, rfl⟩
  go_wp2
  go_ret
  exact ⟨rfl, hb1⟩

set_option maxHeartbeats 2000000 in
theorem walk_near (A : Option Addr) (c : Nat) (l : List OutP) (kind late p : Int) (w : World) (hr : Rd w w.heap.size A (l.flatMap OutP.cells)) (hin : ∀ o ∈ l, o.In w w.heap.size ∧ ∀ s ∈ o.sends, s.size ≤ 140737488355328) (ht : Tab w w.heap.size) (hf : farB l = false) :
    Calls Tryd.prog 3 #[.slice A l.length c, .int .i64 kind, .int .i64 late, .int .i64 p] w fun e w' => e = .returned (.bool true) ∧ Below w.heap.size w w' := by
  have HR := Lib.hid hr
  have HIN := Lib.hid hin
  have HF := Lib.hid hf
  have HT := Lib.hid ht
  obtain ⟨hl, ho⟩ := far_no l hf
  have HO := Lib.hid ho
  have HS := Lib.hid (mF_sm l ho)
  clear hr hin hf ho ht
  go_enter Tryd.func3, Tryd.ntmps3
  go_wp2_with fail
  refine (awake_any _).mono ?_
  rintro e w1 ⟨rfl, hb1⟩
  go_wp2_with fail
  refine (far_any A c l _ ((HR.out.below hb1 (Nat.le_refl _)).more hb1.size)).mono ?_
  rw [HF.out]
  rintro e w2 ⟨rfl, rfl⟩
  go_wp2_with fail
  refine (new_any _).mono ?_
  rintro e w2 ⟨rfl, hf2, hb2⟩
  have hb02 := bTrans hb1 hb2
  have HF2 := Lib.hid hf2
  have hg : w.heap.size ≤ w1.heap.size := hb1.size
  clear hf2 hb2
  go_wp2
  go_loopw [10] (fun i wr => ∃ k : Nat, k ≤ l.length ∧ i = .int .i64 k ∧ IBlk wr w1.heap.size 53 74 (mF (l.take k)) ∧ Below w.heap.size w wr) (fun i _ => l.length - (intOf i).toNat)
  case atStart => exact ⟨0, Nat.zero_le _, rfl, HF2.out, hb02⟩
  case round =>
    clear HF2 hb02
    obtain ⟨k, hk, rfl, hf, hb⟩ := hrel
    have HFK := Lib.hid hf
    have hlt1 := hf.lt
    clear hf
    by_cases hlt : k < l.length
    · obtain ⟨b, off, rfl, hB, hc⟩ := (HR.out.below hb (Nat.le_refl _)).at_ OutP.cells_length (by decide) hlt
      have c0 := hc 0 _ rfl
      have c1 := hc 1 _ rfl
      have c2 := hc 2 _ rfl
      rw [Nat.add_zero] at c0
      have hst := mF_take l k hlt
      have HST := Lib.hid hst
      have hsk := HS.out k hk
      have hok := HO.out l[k] (List.getElem_mem hlt)
      have hik := (HIN.out l[k] (List.getElem_mem hlt)).1
      have hat : (l[k]).At wr w1.heap.size := ⟨RdN.of_rd (hik.1.below hb (Nat.le_refl _)) hg hb.size, RdN.of_rd (hik.2.below hb (Nat.le_refl _)) hg hb.size⟩
      have hN := note_any w1.heap.size (mF (l.take k)) l[k] wr HFK.out (hsk.more (by omega)) hat hok.1 hok.2
      rw [← HST.out] at hN
      have HN := Lib.hid hN
      clear hc hst hsk hok hik hat hN
      go_wp2_with fail
      refine HN.out.mono ?_
      rintro e w3 ⟨rfl, hf3, hg3⟩
      have HF3 := Lib.hid hf3
      clear hf3
      go_wp2
      go_roundw
      case rel => exact ⟨k + 1, by omega, by go_num, HF3.out, hb.trans (bOnly hg3 hb.size (fun j e => by cases e; exact hg))⟩
      case measure => simp [intOf]; omega
    · have hkl : l.take k = l := List.take_of_length_le (by omega)
      rw [hkl] at HFK
      have hsm := HS.out l.length (Nat.le_refl _)
      rw [List.take_length] at hsm
      have hs2 : Sm (mF l) 1000000 := hsm.more (by omega)
      have hag := agree l (by omega) HO.out (bytes_bd l (by omega) (fun o h => (HO.out o h).2) (fun o h => (HIN.out o h).2))
      have hA := alike_any w1.heap.size (mF l) A c l kind late p wr HFK.out hag hs2 ⟨(HT.out.below hb (Nat.le_refl _)).1, Nat.lt_of_lt_of_le HT.out.2 hb.size⟩ (by omega) (rd_below HR.out hb) (in_below (fun o h => (HIN.out o h).1) hb) HO.out
      have HA := Lib.hid hA
      clear hkl hsm hs2 hag hA
      go_wp2_with fail
      refine HA.out.mono ?_
      rintro e w3 ⟨rfl, hb3⟩
      go_wp2
      go_ret
      exact ⟨rfl, bTrans hb hb3⟩
theorem walk_any (A : Option Addr) (c : Nat) (l : List OutP) (kind late p : Int) (w : World) (hr : Rd w w.heap.size A (l.flatMap OutP.cells)) (hin : ∀ o ∈ l, o.In w w.heap.size ∧ ∀ s ∈ o.sends, s.size ≤ 140737488355328) (ht : Tab w w.heap.size) :
    Calls Tryd.prog 3 #[.slice A l.length c, .int .i64 kind, .int .i64 late, .int .i64 p] w fun e w' => e = .returned (.bool true) ∧ Below w.heap.size w w' := by
  cases hf : farB l with
  | true => exact walk_far A c l kind late p w hr hf
  | false => exact walk_near A c l kind late p w hr hin ht hf
/-- A world for the witness: the settled one, the tables holding what their initialisers lay. -/
noncomputable def laidWorld (os : Os) : World :=
  { World.holding Tryd.prog os ⟨#[], #[], []⟩ with heap := (((((World.holding Tryd.prog os ⟨#[], #[], []⟩).heap).modify 2 (fun
      | .cells _ t frozen => .cells #[.int .u8 0, .int .u8 1, .int .u8 28, .int .u8 2, .int .u8 29, .int .u8 14, .int .u8 24, .int .u8 3, .int .u8 30, .int .u8 22, .int .u8 20, .int .u8 15, .int .u8 25, .int .u8 17, .int .u8 4, .int .u8 8, .int .u8 31, .int .u8 27, .int .u8 13, .int .u8 23, .int .u8 21, .int .u8 19, .int .u8 16, .int .u8 7, .int .u8 26, .int .u8 12, .int .u8 18, .int .u8 6, .int .u8 11, .int .u8 5, .int .u8 10, .int .u8 9] t frozen
      | o => o)).modify 3 (fun
      | .cells _ t frozen => .cells #[.int .u8 0, .int .u8 1, .int .u8 56, .int .u8 2, .int .u8 57, .int .u8 49, .int .u8 28, .int .u8 3, .int .u8 61, .int .u8 58, .int .u8 42, .int .u8 50, .int .u8 38, .int .u8 29, .int .u8 17, .int .u8 4, .int .u8 62, .int .u8 47, .int .u8 59, .int .u8 36, .int .u8 45, .int .u8 43, .int .u8 51, .int .u8 22, .int .u8 53, .int .u8 39, .int .u8 33, .int .u8 30, .int .u8 24, .int .u8 18, .int .u8 12, .int .u8 5, .int .u8 63, .int .u8 55, .int .u8 48, .int .u8 27, .int .u8 60, .int .u8 41, .int .u8 37, .int .u8 16, .int .u8 46, .int .u8 35, .int .u8 44, .int .u8 21, .int .u8 52, .int .u8 32, .int .u8 23, .int .u8 11, .int .u8 54, .int .u8 26, .int .u8 40, .int .u8 15, .int .u8 34, .int .u8 20, .int .u8 31, .int .u8 10, .int .u8 25, .int .u8 14, .int .u8 19, .int .u8 9, .int .u8 13, .int .u8 8, .int .u8 7, .int .u8 6] t frozen
      | o => o)).modify 0 (fun
      | .cells _ t frozen => .cells #[.int .u64 1, .int .u64 10, .int .u64 100, .int .u64 1000, .int .u64 10000, .int .u64 100000, .int .u64 1000000, .int .u64 10000000, .int .u64 100000000, .int .u64 1000000000, .int .u64 10000000000, .int .u64 100000000000, .int .u64 1000000000000, .int .u64 10000000000000, .int .u64 100000000000000, .int .u64 1000000000000000, .int .u64 10000000000000000, .int .u64 100000000000000000, .int .u64 1000000000000000000, .int .u64 10000000000000000000] t frozen
      | o => o)) }
theorem own : ownKnob Tryd.prog.godebug = none := by kernel_rfl
theorem contract (H : Type) (enc : TypeId × Value → H) (W : World) (base : Nat) (args : Array Value) (ds gs : List (DataW H)) (before : List MemPlace)
    (hval : ∀ (j : Nat) t v, Tryd.f3.params[j]? = some t → args[j]? = some v → Value.okWide Tryd.prog W .any base t v)
    (hW : DataW.Whole enc Tryd.prog Tryd.f3.params.toList Rows.meterCountsSpec.vars false W args.toList ds gs before) (hL : laidMetH Tryd.prog Rows.meterCountsRow.laid W)
    (hsz : (DataW.weightsEach Tryd.prog (Tryd.f3.params.toList ++ (OpenSpec.bare (OpenSpec.ofChange Rows.meterCountsSpec)).plain.varTypes Tryd.prog) (ds ++ gs)).all (· ≤ reachBytes) = true) :
    Calls Tryd.prog 3 args W fun e W' => ∃ v, e = .returned v ∧ Rows.meterCountsSpec.post enc Tryd.prog Tryd.f3 false true false false W args v W' := by
  have hW0 := hW
  obtain ⟨p, q, hA, hV, rfl, -, -⟩ := hW
  rw [Tryd.params3] at hA hval
  obtain ⟨v0, vs0, d0, ds0, p0, q0, hargs, rfl, rfl, h0, r0⟩ := trodAll_cons hA
  obtain ⟨v1, vs1, d1, ds1, p1, q1, rfl, rfl, rfl, h1, r1⟩ := trodAll_cons r0
  obtain ⟨v2, vs2, d2, ds2, p2, q2, rfl, rfl, rfl, h2, r2⟩ := trodAll_cons r1
  obtain ⟨v3, vs3, d3, ds3, p3, q3, rfl, rfl, rfl, h3, r3⟩ := trodAll_cons r2
  obtain ⟨rfl, rfl, rfl⟩ := trodAll_nil r3
  obtain rfl : args = #[v0, v1, v2, v3] := by cases args; simp_all
  obtain ⟨rfl, rfl⟩ := trodVars_none hV
  obtain ⟨lA, lc, ll, rfl, ln, lr, lf⟩ := (open_outsS (wt hsz (j := 0) (by rw [Tryd.params3]; rfl) rfl)) (hval 0 _ _ rfl rfl) h0
  obtain ⟨kind, rfl, rfl, rfl, kindw⟩ := open_int Tryd.underlying3 (hval 1 _ _ rfl rfl) h1
  obtain ⟨late, rfl, rfl, rfl, latew⟩ := open_int Tryd.underlying3 (hval 2 _ _ rfl rfl) h2
  obtain ⟨p, rfl, rfl, rfl, pw⟩ := open_int Tryd.underlying3 (hval 3 _ _ rfl rfl) h3
  refine (walk_any lA lc ll kind late p W lr lf (table hL)).mono fun e W' ⟨he, hb⟩ => ?_
  subst he
  exact ⟨_, rfl, law_post (by kernel_rfl) (by kernel_rfl) rfl Tryd.underlying4 rfl rfl hW0 hb⟩
theorem laid_met (os : Os) : laidMet Tryd.prog Rows.meterCountsRow.laid (((laidWorld os)).forCall (fun _ _ => 0) ⟨#[], #[.slice none 0 0, .int .i64 0, .int .i64 0, .int .i64 0], []⟩).memory :=
  laidMet_of_run' 8 (by kernel_rfl) (by kernel_rfl)
theorem reads (os : Os) {H : Type} (enc : TypeId × Value → H) : ∃ places, DataW.whole enc Tryd.prog (((laidWorld os)).forCall (fun _ _ => 0) ⟨#[], #[.slice none 0 0, .int .i64 0, .int .i64 0, .int .i64 0], []⟩).memory Tryd.f3.params.toList Rows.meterCountsSpec.vars false #[(.slice none 0 0 : Value), .int .i64 0, .int .i64 0, .int .i64 0].toList 8 = some ([.nil, .lit (.int .i64 0), .lit (.int .i64 0), .lit (.int .i64 0)], [], places) :=
  ⟨[], by kernel_rfl⟩
set_option maxRecDepth 100000 in
theorem lifted (os : Os) (started : os.Started) (H : Type) (enc : TypeId × Value → H) (F : Stop.Interp) :
    ReturnsInHanded {} Tryd.checked os 3 .any ((OpenSpec.ofChange Rows.meterCountsSpec).preRow enc Tryd.prog Tryd.f3 Rows.meterCountsRow.domain false Rows.meterCountsRow.laid) (((OpenSpec.ofChange Rows.meterCountsSpec).at F).post enc Tryd.prog Tryd.f3 false true false false) := by
  obtain ⟨places, hx⟩ := reads os enc
  refine returnsInHanded_of_row (C := Tryd.checked) (s := (OpenSpec.ofChange Rows.meterCountsSpec)) own started (by kernel_rfl) Tryd.func3
    (witness_row_at (enc := enc) (C := Tryd.checked) false (laidWorld os) #[.slice none 0 0, .int .i64 0, .int .i64 0, .int .i64 0] rfl (by kernel_rfl) (by kernel_rfl) (by kernel_rfl)
      (OpenSpec.preRow_of_cond 8 hx (by kernel_rfl) (fun k hk => by cases hk) (by kernel_rfl) (laid_met os))) ?_
  intro W base args ds gs before hval hW _ _ hsz hL _ _
  exact contract H enc W base args ds gs before hval hW hL hsz
theorem said : Rows.MeterCountsSaid :=
  OpenClaim.holds_of_cond 3 Tryd.f3 rfl rfl rfl rfl rfl rfl rfl ⟨rfl, rfl, rfl, rfl, rfl⟩ rfl rfl rfl rfl rfl (by kernel_rfl) Tryd.func3 (by kernel_rfl)
    (of_decide_eq_true (by kernel_rfl)) (by unfold Func.isWrapper; first | (rw [if_pos (by decide +kernel)]; kernel_rfl) | (rw [if_neg (by decide +kernel)]; exact ⟨rfl, rfl⟩))
    (fun os started H enc _ F => by rw [OpenClaim.pre_eq_preRow]; exact lifted os started H enc F)
theorem plain (f : FuncId) (fn : Func) (hf : Tryd.pinned.checked.prog.funcNamed "promptbook/promptbooklaw29.MeterCounts" = some f) (hfn : Tryd.pinned.checked.prog.funcs[f]? = some fn) :
    false = Tryd.pinned.checked.prog.looks [] ∧ ∀ (j : Nat) t, fn.params[j]? = some t → Tryd.pinned.checked.prog.wantsStandIn t = false := by
  obtain rfl : f = 3 := Option.some.inj ((show Tryd.prog.funcNamed "promptbook/promptbooklaw29.MeterCounts" = some 3 by kernel_rfl).symm.trans hf) |>.symm
  obtain rfl : fn = Tryd.f3 := (Option.some.inj (Tryd.func3.symm.trans hfn)).symm
  refine ⟨by kernel_rfl, fun j t ht => ?_⟩
  rw [Tryd.params3] at ht
  have hm := Array.mem_of_getElem? ht
  simp only [List.mem_toArray, List.mem_cons, List.not_mem_nil, or_false] at hm
  have hall : ∀ x ∈ [22, 3], Tryd.prog.wantsStandIn x = false := by
    intro x hx
    simp only [List.mem_cons, List.not_mem_nil, or_false] at hx
    rcases hx with rfl | rfl
    · exact (show Tryd.prog.wantsStandIn 22 = false by kernel_rfl)
    · exact (show Tryd.prog.wantsStandIn 3 = false by kernel_rfl)
  refine hall t ?_
  rcases hm with rfl | rfl | rfl | rfl <;> simp
/-- ████ MeterCounts ████ -/
theorem card : Rows.MeterCountsCardSaid :=
  Claim7.holds_tied_plain_at .later [] _ _ _ _ said (fun _ h => by cases h) (by kernel_rfl) (fun _ h => by cases h) meterCounts_row_tie rfl ⟨rfl, rfl⟩ (by kernel_rfl) rfl plain (by kernel_rfl)
end Go.Proofs.YtnepjdpifbjiiaaDoor
