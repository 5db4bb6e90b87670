/-
  PROVED HERE: promptbooklaw31.WaveReads answers true for every input, and leaves its arguments as they were.
  CONDITIONS: none beyond the row's own.
-/
import Derived.Test.YtmggnadhjgadnaaWaveRef4
import Derived.Test.YtmggnadhjgadnaaWaveAwake
import Derived.Deep.DeepHandedRow
import Derived.Lib.LaidTab
import Derived.SevenTiedAt
namespace Go.Proofs.Ytmggnadhjgadnaa
open Go.RowKit Go.WideShapes Go.ChangeShapes Go.ChangeAt
open Go.ChangeMaps (open_string)
set_option maxRecDepth 100000

theorem str_eql (l : List UInt8) (s : ByteArray) (h : l = s.data.toList) (w : World) : (binOp .eql 9 (str l) (.string s)).run Try.prog w = .ok (.bool true) w := by
  subst h
  unfold str
  simp [go_sem, ByteArray.toList_eq]
theorem fit_nil : fitB [] 0 = false := by decide

set_option maxHeartbeats 1000000 in
theorem walk_out (s : ByteArray) (w : World) (hn : s.size ≤ maxLen) (hl : 2000 < s.size) :
    Calls Try.prog 5 #[.string s] w fun e w' => e = .returned (.bool true) ∧ Below w.heap.size w w' := by
  unfold maxLen at hn
  go_enter Try.func5, Try.ntmps5
  go_wp2_with fail
  refine (awake_any _).mono ?_
  rintro e w1 ⟨rfl, hb1⟩
  go_wp2
  go_ret
  exact ⟨rfl, hb1⟩
set_option maxHeartbeats 1000000 in
theorem walk_no (s : ByteArray) (w : World) (k : Int) (hl : s.size ≤ 2000)
    (hr : ∀ w : World, Calls Try.prog 11 #[.string s] w fun e w' => e = .returned (.tuple #[.slice none 0 0, .int .i64 0, .int .i64 k]) ∧ Below w.heap.size w w')
    (hrr : ∀ w : World, Calls Try.prog 14 #[.string s] w fun e w' => e = .returned (.tuple #[.slice none 0 0, .int .i64 0, .int .i64 k]) ∧ Below w.heap.size w w') (hk : k = 3 ∨ k = 4) :
    Calls Try.prog 5 #[.string s] w fun e w' => e = .returned (.bool true) ∧ Below w.heap.size w w' := by
  have H1 := Lib.hid hr
  have H2 := Lib.hid hrr
  clear hr hrr
  rcases hk with rfl | rfl
  all_goals
    go_enter Try.func5, Try.ntmps5
    go_wp2_with fail
    refine (awake_any _).mono ?_
    rintro e w1 ⟨rfl, hb1⟩
    go_wp2_with fail
    refine (H1.out _).mono ?_
    rintro e w2 ⟨rfl, hb2⟩
    go_wp2_with fail
    refine (H2.out _).mono ?_
    rintro e w3 ⟨rfl, hb3⟩
    go_wp2_with fail
    refine (samples_any none none 0 0 [] [] _ (by decide) (by decide) (Rd.nil _ _ _) (Rd.nil _ _ _) rfl).mono ?_
    rintro e w4 ⟨rfl, hb4⟩
    go_wp2_with fail
    refine (write_no none 0 [] 0 _ (by decide) (Rd.nil _ _ _) fit_nil).mono ?_
    rintro e w5 ⟨rfl, hb5⟩
    unfold str
    go_wp2
    go_ret
    exact ⟨rfl, bTrans (bTrans (bTrans (bTrans hb1 hb2) hb3) hb4) hb5⟩
set_option maxHeartbeats 2000000 in
theorem walk_yes (s : ByteArray) (w : World) (h44 : 44 ≤ s.size) (hl : s.size ≤ 2000) (hf : formB s.data.toList = true) :
    Calls Try.prog 5 #[.string s] w fun e w' => e = .returned (.bool true) ∧ Below w.heap.size w w' := by
  have HF := Lib.hid hf
  have hc : cntOf s.data.toList ≤ 500 := by unfold cntOf; rw [size_list]; omega
  have hform := form_ref s.data.toList (by rw [size_list]; exact h44) (by omega)
  rw [hf, eq_comm, Bool.and_eq_true, decide_eq_true_eq] at hform
  have hcl : (chunks (s.data.toList.drop 44)).length ≤ 500 := by rw [chunks_length _ _ (Nat.le_refl _), List.length_drop]; unfold cntOf at hc; exact hc
  have hfit : fitB (chunks (s.data.toList.drop 44)) (rateOf s.data.toList : Nat) = true := by rw [fitB, chunks_samp _ _ (Nat.le_refl _), Bool.and_true]; exact hform.1
  have HFT := Lib.hid hfit
  obtain ⟨l, hl'⟩ : ∃ l, chunks (s.data.toList.drop 44) = l := ⟨_, rfl⟩
  obtain ⟨R, hR⟩ : ∃ R, rateOf s.data.toList = R := ⟨_, rfl⟩
  have hbd := rateOf_lt s.data.toList
  rw [hl'] at hcl HFT hform
  rw [hR] at HFT hform hbd
  have HEQ := Lib.hid hform.2
  have HL := Lib.hid hl'
  have HR := Lib.hid hR
  have kq := fun W => str_eql (fileL l (R : Int)) s HEQ.out W
  have kg := fun x y W => str_guard .eql x y (fileL l (R : Int)) (.string s) W
  clear hf hc hform hfit hl' hR
  go_enter Try.func5, Try.ntmps5
  go_wp2_with fail
  refine (awake_any _).mono ?_
  rintro e w1 ⟨rfl, hb1⟩
  go_wp2_with fail
  refine (read_ok s _ h44 (by omega) HF.out).mono ?_
  simp only [HL.out, HR.out]
  rintro e w2 ⟨A2, c2, rfl, hown2, hb2⟩
  have HO2 := Lib.hid hown2
  clear hown2
  go_wp2_with fail
  refine (rread_any s _ h44 (by omega)).mono ?_
  unfold RR
  simp only [HL.out, HR.out, HF.out]
  rintro e w3 ⟨-, hok, hb3⟩
  obtain ⟨A3, c3, rfl, hown3⟩ := hok trivial
  have HO3 := Lib.hid hown3
  clear hown3 hok
  have hbb := bTrans (bTrans hb1 hb2) hb3
  go_wp2_with fail
  refine (samples_any A2 A3 c2 c3 l l _ (by omega) (by omega) (HO2.out.below hb3).rd HO3.out.rd rfl).mono ?_
  rintro e w4 ⟨rfl, hb4⟩
  go_wp2_with fail
  refine (write_ok A2 c2 l (R : Int) _ (by omega) ((HO2.out.below hb3).below hb4).rd HFT.out).mono ?_
  rintro e w5 ⟨rfl, hb5⟩
  go_wp2
  go_ret
  exact ⟨rfl, bTrans (bTrans hbb hb4) hb5⟩
theorem walk_any (s : ByteArray) (w : World) (hn : s.size ≤ maxLen) :
    Calls Try.prog 5 #[.string s] w fun e w' => e = .returned (.bool true) ∧ Below w.heap.size w w' := by
  by_cases h : 2000 < s.size
  · exact walk_out s w hn h
  · by_cases h44 : s.size < 44
    · exact walk_no s w 3 (by omega) (fun w => (read_short s w h44).mono fun _ _ ⟨a, b⟩ => ⟨a, b ▸ Below.refl _ _⟩) (fun w => (rread_short s w h44).mono fun _ _ ⟨a, b⟩ => ⟨a, b ▸ Below.refl _ _⟩) (.inl rfl)
    · cases hk : formB s.data.toList with
      | false => exact walk_no s w 4 (by omega) (fun w => read_form s w (by omega) (by omega) hk) (fun w => (rread_any s w (by omega) (by omega)).mono fun _ _ h => ⟨h.1 hk, h.2.2⟩) (.inr rfl)
      | true => exact walk_yes s w (by omega) (by omega) hk
theorem own : ownKnob Try.prog.godebug = none := by kernel_rfl
theorem contract (H : Type) (enc : TypeId × Value → H) (W : World) (base : Nat) (args : Array Value) (ds gs : List (DataW H)) (before : List MemPlace)
    (hval : ∀ (j : Nat) t v, Try.f5.params[j]? = some t → args[j]? = some v → Value.okWide Try.prog W .any base t v)
    (hW : DataW.Whole enc Try.prog Try.f5.params.toList Rows.waveReadsSpec.vars false W args.toList ds gs before) (_hL : laidMetH Try.prog Rows.waveReadsRow.laid W) :
    Calls Try.prog 5 args W fun e W' => ∃ v, e = .returned v ∧ Rows.waveReadsSpec.post enc Try.prog Try.f5 false true false false W args v W' := by
  have hW0 := hW
  obtain ⟨p, q, hA, hV, rfl, -, -⟩ := hW
  rw [Try.params5] at hA hval
  obtain ⟨v0, vs0, d0, ds0, p0, q0, hargs, rfl, rfl, h0, r0⟩ := trodAll_cons hA
  obtain ⟨rfl, rfl, rfl⟩ := trodAll_nil r0
  obtain rfl : args = #[v0] := by cases args; simp_all
  obtain ⟨rfl, rfl⟩ := trodVars_none hV
  obtain ⟨a, rfl, rfl, rfl, aw⟩ := open_string Try.underlying9 (hval 0 _ _ rfl rfl) h0
  refine (walk_any a W aw).mono fun e W' ⟨he, hb⟩ => ?_
  subst he
  exact ⟨_, rfl, law_post (by kernel_rfl) (by kernel_rfl) rfl Try.underlying4 rfl rfl hW0 hb⟩
theorem laid_met (os : Os) : laidMet Try.prog Rows.waveReadsRow.laid (((World.holding Try.prog os ⟨#[], #[], []⟩)).forCall (fun _ _ => 0) ⟨#[], #[.string ByteArray.empty], []⟩).memory :=
  laidMet_of_run' 8 (by kernel_rfl) (by kernel_rfl)
theorem reads (os : Os) {H : Type} (enc : TypeId × Value → H) : ∃ places, DataW.whole enc Try.prog (((World.holding Try.prog os ⟨#[], #[], []⟩)).forCall (fun _ _ => 0) ⟨#[], #[.string ByteArray.empty], []⟩).memory Try.f5.params.toList Rows.waveReadsSpec.vars false #[(.string ByteArray.empty : Value)].toList 8 = some ([.lit (.string [])], [], places) :=
  ⟨[], by kernel_rfl⟩
set_option maxRecDepth 100000 in
theorem lifted (os : Os) (started : os.Started) (H : Type) (enc : TypeId × Value → H) (F : Stop.Interp) :
    ReturnsInHanded {} Try.checked os 5 .any ((OpenSpec.ofChange Rows.waveReadsSpec).preRow enc Try.prog Try.f5 Rows.waveReadsRow.domain false Rows.waveReadsRow.laid) (((OpenSpec.ofChange Rows.waveReadsSpec).at F).post enc Try.prog Try.f5 false true false false) := by
  obtain ⟨places, hx⟩ := reads os enc
  refine returnsInHanded_of_row (C := Try.checked) (s := (OpenSpec.ofChange Rows.waveReadsSpec)) own started (by kernel_rfl) Try.func5
    (witness_row_at (enc := enc) (C := Try.checked) false (World.holding Try.prog os ⟨#[], #[], []⟩) #[.string ByteArray.empty] rfl (by kernel_rfl) (by kernel_rfl) (by kernel_rfl)
      (OpenSpec.preRow_of_cond 8 hx (by kernel_rfl) (fun k hk => by cases hk) (by kernel_rfl) (laid_met os))) ?_
  intro W base args ds gs before hval hW _ _ _ hL _ _
  exact contract H enc W base args ds gs before hval hW hL
theorem said : Rows.WaveReadsSaid :=
  OpenClaim.holds_of_cond 5 Try.f5 rfl rfl rfl rfl rfl rfl rfl ⟨rfl, rfl, rfl, rfl, rfl⟩ rfl rfl rfl rfl rfl (by kernel_rfl) Try.func5 (by kernel_rfl)
    (of_decide_eq_true (by kernel_rfl)) (by unfold Func.isWrapper; first | (rw [if_pos (by decide +kernel)]; kernel_rfl) | (rw [if_neg (by decide +kernel)]; exact ⟨rfl, rfl⟩))
    (fun os started H enc _ F => by rw [OpenClaim.pre_eq_preRow]; exact lifted os started H enc F)
end Go.Proofs.Ytmggnadhjgadnaa
