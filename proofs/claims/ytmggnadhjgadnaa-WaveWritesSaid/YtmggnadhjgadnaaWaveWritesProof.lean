/-
  PROVED HERE: promptbooklaw31.WaveWrites answers true for every input, and leaves its arguments as they were.
  CONDITIONS: none beyond the row's own.
-/
import Derived.Test.YtmggnadhjgadnaaWaveRef4
import Derived.Test.YtmggnadhjgadnaaWaveAwake
import Derived.Deep.DeepHandedRow
import Derived.Lib.LaidTab
import Derived.SevenTiedAt
namespace Go.Proofs.Ytmggnadhjgadnaa
open Go.RowKit Go.WideShapes Go.ChangeShapes Go.ChangeAt
set_option maxRecDepth 100000

theorem str_eql (l : List UInt8) (w : World) : (binOp .eql 9 (str l) (str l)).run Try.prog w = .ok (.bool true) w := by
  unfold str
  simp [go_sem]

set_option maxHeartbeats 1000000 in
theorem walk_out (A : Option Addr) (c n : Nat) (r : Int) (w : World) (hn : n ≤ maxLen) (hl : 500 < n) :
    Calls Try.prog 4 #[.slice A n c, .int .i64 r] w fun e w' => e = .returned (.bool true) ∧ Below w.heap.size w w' := by
  unfold maxLen at hn
  go_enter Try.func4, Try.ntmps4
  go_wp2_with fail
  refine (awake_any _).mono ?_
  rintro e w1 ⟨rfl, hb1⟩
  go_wp2
  go_ret
  exact ⟨rfl, hb1⟩
set_option maxHeartbeats 1000000 in
theorem walk_no (A : Option Addr) (c : Nat) (l : List Pr) (r : Int) (w : World) (hr : Rd w w.heap.size A (l.flatMap Pr.cells)) (hl : l.length ≤ 500) (hno : fitB l r = false) :
    Calls Try.prog 4 #[.slice A l.length c, .int .i64 r] w fun e w' => e = .returned (.bool true) ∧ Below w.heap.size w w' := by
  have HR := Lib.hid hr
  have HN := Lib.hid hno
  clear hr hno
  go_enter Try.func4, Try.ntmps4
  go_wp2_with fail
  refine (awake_any _).mono ?_
  rintro e w1 ⟨rfl, hb1⟩
  go_wp2_with fail
  refine (write_no A c l r _ (by omega) ((HR.out.below hb1 (Nat.le_refl _)).more hb1.size) HN.out).mono ?_
  rintro e w2 ⟨rfl, hb2⟩
  have hb := bTrans hb1 hb2
  go_wp2_with fail
  refine (fits_any A c l r _ (by omega) ((HR.out.below hb (Nat.le_refl _)).more hb.size)).mono ?_
  rintro e w3 ⟨rfl, rfl⟩
  rw [HN.out]
  unfold str
  go_wp2
  go_ret
  exact ⟨rfl, hb⟩
set_option maxHeartbeats 2000000 in
theorem walk_yes (A : Option Addr) (c : Nat) (l : List Pr) (r : Int) (w : World) (hr : Rd w w.heap.size A (l.flatMap Pr.cells)) (hl : l.length ≤ 500) (hyes : fitB l r = true) :
    Calls Try.prog 4 #[.slice A l.length c, .int .i64 r] w fun e w' => e = .returned (.bool true) ∧ Below w.heap.size w w' := by
  have HR := Lib.hid hr
  have HN := Lib.hid hyes
  have hf := form_file l r (by omega) hyes
  have hrs : 1 ≤ r ∧ r ≤ 192000 := by
    rw [fitB, Bool.and_eq_true] at hyes
    simpa [rateB] using hyes.1
  have hsm : l.all sampB = true := by
    rw [fitB, Bool.and_eq_true] at hyes
    exact hyes.2
  obtain ⟨r1, r2⟩ := hrs
  have HSM := Lib.hid hsm
  have HF := Lib.hid hf
  have hlen : (fileL l r).length = 44 + l.length * 4 := by unfold fileL; rw [List.length_append, headL_length, bodyL_length]
  have HLN := Lib.hid hlen
  have kq := fun W => str_eql (fileL l r) W
  have kg := fun x y W => str_guard .eql x y (fileL l r) (str (fileL l r)) W
  clear hr hyes hf hsm hlen
  go_enter Try.func4, Try.ntmps4
  go_wp2_with fail
  refine (awake_any _).mono ?_
  rintro e w1 ⟨rfl, hb1⟩
  go_wp2_with fail
  refine (write_ok A c l r _ (by omega) ((HR.out.below hb1 (Nat.le_refl _)).more hb1.size) HN.out).mono ?_
  rintro e w2 ⟨rfl, hb2⟩
  have hb := bTrans hb1 hb2
  go_wp2_with fail
  refine (fits_any A c l r _ (by omega) ((HR.out.below hb (Nat.le_refl _)).more hb.size)).mono ?_
  rintro e w3 ⟨rfl, rfl⟩
  rw [HN.out]
  go_wp2_with fail
  refine (read_ok ⟨(fileL l r).toArray⟩ _ (by simp [ByteArray.size, HLN.out]) (by simp [ByteArray.size, HLN.out]; omega) HF.out.1).mono ?_
  simp only [HF.out.2.1, HF.out.2.2]
  rintro e w3 ⟨A3, c3, rfl, hown3, hb3⟩
  have hbb := bTrans hb hb3
  have HO3 := Lib.hid hown3
  clear hown3
  go_wp2_with fail
  refine (rwrite_any A c l r _ (by omega) ((HR.out.below hbb (Nat.le_refl _)).more hbb.size) (by omega) (by omega) HSM.out).mono ?_
  rintro e w4 ⟨rfl, hb4⟩
  have hb5 := bTrans hbb hb4
  go_wp2_with fail
  refine (samples_any A3 A c3 c l l _ (by omega) (by omega) (HO3.out.below hb4).rd ((HR.out.below hb5 (Nat.le_refl _)).more hb5.size) rfl).mono ?_
  rintro e w5 ⟨rfl, hb6⟩
  go_wp2
  go_ret
  exact ⟨rfl, bTrans hb5 hb6⟩
theorem walk_any (A : Option Addr) (c : Nat) (l : List Pr) (r : Int) (w : World) (hr : Rd w w.heap.size A (l.flatMap Pr.cells)) (hn : l.length ≤ c ∧ c ≤ maxLen) :
    Calls Try.prog 4 #[.slice A l.length c, .int .i64 r] w fun e w' => e = .returned (.bool true) ∧ Below w.heap.size w w' := by
  by_cases h : 500 < l.length
  · exact walk_out A c l.length r w (Nat.le_trans hn.1 hn.2) h
  · cases hk : fitB l r with
    | false => exact walk_no A c l r w hr (by omega) hk
    | true => exact walk_yes A c l r w hr (by omega) hk
theorem own : ownKnob Try.prog.godebug = none := by kernel_rfl
theorem contract (H : Type) (enc : TypeId × Value → H) (W : World) (base : Nat) (args : Array Value) (ds gs : List (DataW H)) (before : List MemPlace)
    (hval : ∀ (j : Nat) t v, Try.f4.params[j]? = some t → args[j]? = some v → Value.okWide Try.prog W .any base t v)
    (hW : DataW.Whole enc Try.prog Try.f4.params.toList Rows.waveWritesSpec.vars false W args.toList ds gs before) (_hL : laidMetH Try.prog Rows.waveWritesRow.laid W) :
    Calls Try.prog 4 args W fun e W' => ∃ v, e = .returned v ∧ Rows.waveWritesSpec.post enc Try.prog Try.f4 false true false false W args v W' := by
  have hW0 := hW
  obtain ⟨p, q, hA, hV, rfl, -, -⟩ := hW
  rw [Try.params4] at hA hval
  obtain ⟨v0, vs0, d0, ds0, p0, q0, hargs, rfl, rfl, h0, r0⟩ := trodAll_cons hA
  obtain ⟨v1, vs1, d1, ds1, p1, q1, rfl, rfl, rfl, h1, r1⟩ := trodAll_cons r0
  obtain ⟨rfl, rfl, rfl⟩ := trodAll_nil r1
  obtain rfl : args = #[v0, v1] := by cases args; simp_all
  obtain ⟨rfl, rfl⟩ := trodVars_none hV
  obtain ⟨aA, ac, al, rfl, an, ar, af⟩ := open_pairs (hval 0 _ _ rfl rfl) h0
  obtain ⟨b, rfl, rfl, rfl, bw⟩ := open_int Try.underlying3 (hval 1 _ _ rfl rfl) h1
  refine (walk_any aA ac al b W ar an).mono fun e W' ⟨he, hb⟩ => ?_
  subst he
  exact ⟨_, rfl, law_post (by kernel_rfl) (by kernel_rfl) rfl Try.underlying4 rfl rfl hW0 hb⟩
theorem laid_met (os : Os) : laidMet Try.prog Rows.waveWritesRow.laid (((World.holding Try.prog os ⟨#[], #[], []⟩)).forCall (fun _ _ => 0) ⟨#[], #[.slice none 0 0, .int .i64 0], []⟩).memory :=
  laidMet_of_run' 8 (by kernel_rfl) (by kernel_rfl)
theorem reads (os : Os) {H : Type} (enc : TypeId × Value → H) : ∃ places, DataW.whole enc Try.prog (((World.holding Try.prog os ⟨#[], #[], []⟩)).forCall (fun _ _ => 0) ⟨#[], #[.slice none 0 0, .int .i64 0], []⟩).memory Try.f4.params.toList Rows.waveWritesSpec.vars false #[(.slice none 0 0 : Value), .int .i64 0].toList 8 = some ([.nil, .lit (.int .i64 0)], [], places) :=
  ⟨[], by kernel_rfl⟩
set_option maxRecDepth 100000 in
theorem lifted (os : Os) (started : os.Started) (H : Type) (enc : TypeId × Value → H) (F : Stop.Interp) :
    ReturnsInHanded {} Try.checked os 4 .any ((OpenSpec.ofChange Rows.waveWritesSpec).preRow enc Try.prog Try.f4 Rows.waveWritesRow.domain false Rows.waveWritesRow.laid) (((OpenSpec.ofChange Rows.waveWritesSpec).at F).post enc Try.prog Try.f4 false true false false) := by
  obtain ⟨places, hx⟩ := reads os enc
  refine returnsInHanded_of_row (C := Try.checked) (s := (OpenSpec.ofChange Rows.waveWritesSpec)) own started (by kernel_rfl) Try.func4
    (witness_row_at (enc := enc) (C := Try.checked) false (World.holding Try.prog os ⟨#[], #[], []⟩) #[.slice none 0 0, .int .i64 0] rfl (by kernel_rfl) (by kernel_rfl) (by kernel_rfl)
      (OpenSpec.preRow_of_cond 8 hx (by kernel_rfl) (fun k hk => by cases hk) (by kernel_rfl) (laid_met os))) ?_
  intro W base args ds gs before hval hW _ _ _ hL _ _
  exact contract H enc W base args ds gs before hval hW hL
theorem said : Rows.WaveWritesSaid :=
  OpenClaim.holds_of_cond 4 Try.f4 rfl rfl rfl rfl rfl rfl rfl ⟨rfl, rfl, rfl, rfl, rfl⟩ rfl rfl rfl rfl rfl (by kernel_rfl) Try.func4 (by kernel_rfl)
    (of_decide_eq_true (by kernel_rfl)) (by unfold Func.isWrapper; first | (rw [if_pos (by decide +kernel)]; kernel_rfl) | (rw [if_neg (by decide +kernel)]; exact ⟨rfl, rfl⟩))
    (fun os started H enc _ F => by rw [OpenClaim.pre_eq_preRow]; exact lifted os started H enc F)
end Go.Proofs.Ytmggnadhjgadnaa
