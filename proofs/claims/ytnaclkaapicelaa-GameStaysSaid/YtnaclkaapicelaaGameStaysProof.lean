/-
  GameStays: from any state that may be, by any inputs, so many steps: each state may be, and each event is of the frame that it was stepped from.
  No condition.
-/
import Derived.Test.YtnaclkaapicelaaGameG
import Derived.Deep.DeepHandedRow
import Derived.Lib.LaidTab
import Derived.SevenTiedAt
namespace Go.Proofs.Ytnaclkaapicelaa
open Go.RowKit Go.WideShapes Go.ChangeShapes
set_option maxRecDepth 100000
theorem stays_any (S : Nat → Int) (A : Option Addr) (c : Nat) (l : List (Nat × Nat)) (w : World) (hf : FitS S) (hr : Rd w w.heap.size A (l.flatMap pbCells)) (hb : ∀ q ∈ l, q.1 < 256 ∧ q.2 < 256) :
    Calls Try.prog 3 #[.agg (stCells S).toArray, .slice A l.length c] w fun e w' => e = .returned (.bool true) ∧ Below w.heap.size w w' := by
  by_cases hn : 100 < l.length
  · exact stays_1 hn
  · cases hs : rightS S
    · exact stays_2 hn hs
    · by_cases h2 : 1000000 < S 2
      · exact stays_3 hn hs h2
      · by_cases h0 : 1000000 < S 0
        · exact stays_4 hn hs h2 h0
        · exact stays_5 hf hn hs h2 h0 hr hb
theorem own : ownKnob Try.prog.godebug = none := by kernel_rfl
theorem contract (H : Type) (enc : TypeId × Value → H) (W : World) (base : Nat) (args : Array Value) (ds gs : List (DataW H)) (before : List MemPlace)
    (hval : ∀ (j : Nat) t v, Try.f3.params[j]? = some t → args[j]? = some v → Value.okWide Try.prog W .any base t v)
    (hW : DataW.Whole enc Try.prog Try.f3.params.toList Rows.gameStaysSpec.vars false W args.toList ds gs before) (_hL : laidMetH Try.prog Rows.gameStaysRow.laid W) :
    Calls Try.prog 3 args W fun e W' => ∃ v, e = .returned v ∧ Rows.gameStaysSpec.post enc Try.prog Try.f3 false true false false W args v W' := by
  have hW0 := hW
  obtain ⟨p, q, hA, hV, rfl, -, -⟩ := hW
  rw [Try.params3] at hA hval
  obtain ⟨v0, vs0, d0, ds0, p0, q0, hargs, rfl, rfl, h0, r0⟩ := trodAll_cons hA
  obtain ⟨v1, vs1, d1, ds1, p1, q1, rfl, rfl, rfl, h1, r1⟩ := trodAll_cons r0
  obtain ⟨rfl, rfl, rfl⟩ := trodAll_nil r1
  obtain rfl : args = #[v0, v1] := by cases args; simp_all
  obtain ⟨rfl, rfl⟩ := trodVars_none hV
  obtain ⟨s, rfl, sf⟩ := open_state (hval 0 _ _ rfl rfl) h0
  obtain ⟨lA, lc, ll, rfl, ln, lr, lf⟩ := open_ins (hval 1 _ _ rfl rfl) h1
  refine (stays_any s lA lc ll W sf lr lf).mono fun e W' ⟨he, hb⟩ => ?_
  subst he
  exact ⟨_, rfl, law_post (by kernel_rfl) (by kernel_rfl) rfl Try.underlying4 rfl rfl hW0 hb⟩
theorem laid_met (os : Os) : laidMet Try.prog Rows.gameStaysRow.laid (((World.holding Try.prog os ⟨#[], #[], []⟩)).forCall (fun _ _ => 0) ⟨#[], #[witSt, .slice none 0 0], []⟩).memory :=
  laidMet_of_run' 8 (by kernel_rfl) (by kernel_rfl)
theorem reads (os : Os) {H : Type} (enc : TypeId × Value → H) : ∃ places, DataW.whole enc Try.prog (((World.holding Try.prog os ⟨#[], #[], []⟩)).forCall (fun _ _ => 0) ⟨#[], #[witSt, .slice none 0 0], []⟩).memory Try.f3.params.toList Rows.gameStaysSpec.vars false #[(witSt : Value), .slice none 0 0].toList 8 = some ([.agg [.lit (.int .i64 0), .lit (.int .u32 0), .lit (.int .i64 0), .lit (.int .i64 0), .agg [.agg [.agg [.lit (.int .i32 0), .lit (.int .i32 0)], .agg [.lit (.int .i32 0), .lit (.int .i32 0)], .lit (.int .i64 0), .lit (.int .i64 0), .lit (.int .i64 0), .lit (.int .i64 0), .lit (.int .i64 0), .lit (.int .i64 0)], .agg [.agg [.lit (.int .i32 0), .lit (.int .i32 0)], .agg [.lit (.int .i32 0), .lit (.int .i32 0)], .lit (.int .i64 0), .lit (.int .i64 0), .lit (.int .i64 0), .lit (.int .i64 0), .lit (.int .i64 0), .lit (.int .i64 0)]], .agg [.agg [.agg [.lit (.int .i32 0), .lit (.int .i32 0)], .agg [.lit (.int .i32 0), .lit (.int .i32 0)], .lit (.int .i64 0), .lit (.int .i64 0)], .agg [.agg [.lit (.int .i32 0), .lit (.int .i32 0)], .agg [.lit (.int .i32 0), .lit (.int .i32 0)], .lit (.int .i64 0), .lit (.int .i64 0)], .agg [.agg [.lit (.int .i32 0), .lit (.int .i32 0)], .agg [.lit (.int .i32 0), .lit (.int .i32 0)], .lit (.int .i64 0), .lit (.int .i64 0)], .agg [.agg [.lit (.int .i32 0), .lit (.int .i32 0)], .agg [.lit (.int .i32 0), .lit (.int .i32 0)], .lit (.int .i64 0), .lit (.int .i64 0)], .agg [.agg [.lit (.int .i32 0), .lit (.int .i32 0)], .agg [.lit (.int .i32 0), .lit (.int .i32 0)], .lit (.int .i64 0), .lit (.int .i64 0)], .agg [.agg [.lit (.int .i32 0), .lit (.int .i32 0)], .agg [.lit (.int .i32 0), .lit (.int .i32 0)], .lit (.int .i64 0), .lit (.int .i64 0)]]], .nil], [], places) :=
  ⟨[], by kernel_rfl⟩
set_option maxRecDepth 100000 in
theorem lifted (os : Os) (started : os.Started) (H : Type) (enc : TypeId × Value → H) (F : Stop.Interp) :
    ReturnsInHanded {} Try.checked os 3 .any ((OpenSpec.ofChange Rows.gameStaysSpec).preRow enc Try.prog Try.f3 Rows.gameStaysRow.domain false Rows.gameStaysRow.laid) (((OpenSpec.ofChange Rows.gameStaysSpec).at F).post enc Try.prog Try.f3 false true false false) := by
  obtain ⟨places, hx⟩ := reads os enc
  refine returnsInHanded_of_row (C := Try.checked) (s := (OpenSpec.ofChange Rows.gameStaysSpec)) own started (by kernel_rfl) Try.func3
    (witness_row_at (enc := enc) (C := Try.checked) false (World.holding Try.prog os ⟨#[], #[], []⟩) #[witSt, .slice none 0 0] rfl (by kernel_rfl) (by kernel_rfl) (by kernel_rfl)
      (OpenSpec.preRow_of_cond 8 hx (by kernel_rfl) (fun k hk => by cases hk) (by kernel_rfl) (laid_met os))) ?_
  intro W base args ds gs before hval hW _ _ _ hL _ _
  exact contract H enc W base args ds gs before hval hW hL
theorem said : Rows.GameStaysSaid :=
  OpenClaim.holds_of_cond 3 Try.f3 rfl rfl rfl rfl rfl rfl rfl ⟨rfl, rfl, rfl, rfl, rfl⟩ rfl rfl rfl rfl rfl (by kernel_rfl) Try.func3 (by kernel_rfl)
    (of_decide_eq_true (by kernel_rfl)) (by unfold Func.isWrapper; first | (rw [if_pos (by decide +kernel)]; kernel_rfl) | (rw [if_neg (by decide +kernel)]; exact ⟨rfl, rfl⟩))
    (fun os started H enc _ F => by rw [OpenClaim.pre_eq_preRow]; exact lifted os started H enc F)
end Go.Proofs.Ytnaclkaapicelaa
