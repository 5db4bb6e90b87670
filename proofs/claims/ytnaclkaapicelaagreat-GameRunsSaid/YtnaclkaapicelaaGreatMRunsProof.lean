/-
  GameRuns: from the beginning of any seed, by any inputs, a run of the game is the document's steps, one behind the other.
  No condition.
-/
import Derived.Deep.DeepHandedRow
import Derived.Lib.LaidTab
import Derived.SevenTiedAt
import Derived.Test.YtnaclkaapicelaaGreatMRuns
namespace Go.Proofs.YtnaclkaapicelaaGreat
open Go.RowKit Go.WideShapes Go.ChangeShapes
set_option maxRecDepth 100000
theorem runs_any (seed : Int) (A : Option Addr) (c : Nat) (l : List (Nat × Nat)) (w : World) (hs : U32 seed) (hr : Rd w w.heap.size A (l.flatMap pbCells)) (hb : ∀ q ∈ l, q.1 < 256 ∧ q.2 < 256) :
    Calls Tryz.prog 4 #[.int .u32 seed, .slice A l.length c] w fun e w' => e = .returned (.bool true) ∧ Below w.heap.size w w' := by
  by_cases hn : 400 < l.length
  · exact runs_1 hn
  · exact runs_2 hs hn hr hb
theorem own : ownKnob Tryz.prog.godebug = none := by kernel_rfl
theorem contract (H : Type) (enc : TypeId × Value → H) (W : World) (base : Nat) (args : Array Value) (ds gs : List (DataW H)) (before : List MemPlace)
    (hval : ∀ (j : Nat) t v, Tryz.f4.params[j]? = some t → args[j]? = some v → Value.okWide Tryz.prog W .any base t v)
    (hW : DataW.Whole enc Tryz.prog Tryz.f4.params.toList Rows.gameRunsSpec.vars false W args.toList ds gs before) (_hL : laidMetH Tryz.prog Rows.gameRunsRow.laid W) :
    Calls Tryz.prog 4 args W fun e W' => ∃ v, e = .returned v ∧ Rows.gameRunsSpec.post enc Tryz.prog Tryz.f4 false true false false W args v W' := by
  have hW0 := hW
  obtain ⟨p, q, hA, hV, rfl, -, -⟩ := hW
  rw [Tryz.params4] at hA hval
  obtain ⟨v0, vs0, d0, ds0, p0, q0, hargs, rfl, rfl, h0, r0⟩ := trodAll_cons hA
  obtain ⟨v1, vs1, d1, ds1, p1, q1, rfl, rfl, rfl, h1, r1⟩ := trodAll_cons r0
  obtain ⟨rfl, rfl, rfl⟩ := trodAll_nil r1
  obtain rfl : args = #[v0, v1] := by cases args; simp_all
  obtain ⟨rfl, rfl⟩ := trodVars_none hV
  obtain ⟨s, rfl, rfl, rfl, sw⟩ := open_int Tryz.underlying22 (hval 0 _ _ rfl rfl) h0
  obtain ⟨lA, lc, ll, rfl, ln, lr, lf⟩ := open_ins (hval 1 _ _ rfl rfl) h1
  refine (runs_any s lA lc ll W (bounds_u32 sw) lr lf).mono fun e W' ⟨he, hb⟩ => ?_
  subst he
  exact ⟨_, rfl, law_post (by kernel_rfl) (by kernel_rfl) rfl Tryz.underlying4 rfl rfl hW0 hb⟩
theorem laid_met (os : Os) : laidMet Tryz.prog Rows.gameRunsRow.laid (((World.holding Tryz.prog os ⟨#[], #[], []⟩)).forCall (fun _ _ => 0) ⟨#[], #[.int .u32 0, .slice none 0 0], []⟩).memory :=
  laidMet_of_run' 8 (by kernel_rfl) (by kernel_rfl)
theorem reads (os : Os) {H : Type} (enc : TypeId × Value → H) : ∃ places, DataW.whole enc Tryz.prog (((World.holding Tryz.prog os ⟨#[], #[], []⟩)).forCall (fun _ _ => 0) ⟨#[], #[.int .u32 0, .slice none 0 0], []⟩).memory Tryz.f4.params.toList Rows.gameRunsSpec.vars false #[(.int .u32 0 : Value), .slice none 0 0].toList 8 = some ([.lit (.int .u32 0), .nil], [], places) :=
  ⟨[], by kernel_rfl⟩
set_option maxRecDepth 100000 in
theorem lifted (os : Os) (started : os.Started) (H : Type) (enc : TypeId × Value → H) (F : Stop.Interp) :
    ReturnsInHanded {} Tryz.checked os 4 .any ((OpenSpec.ofChange Rows.gameRunsSpec).preRow enc Tryz.prog Tryz.f4 Rows.gameRunsRow.domain false Rows.gameRunsRow.laid) (((OpenSpec.ofChange Rows.gameRunsSpec).at F).post enc Tryz.prog Tryz.f4 false true false false) := by
  obtain ⟨places, hx⟩ := reads os enc
  refine returnsInHanded_of_row (C := Tryz.checked) (s := (OpenSpec.ofChange Rows.gameRunsSpec)) own started (by kernel_rfl) Tryz.func4
    (witness_row_at (enc := enc) (C := Tryz.checked) false (World.holding Tryz.prog os ⟨#[], #[], []⟩) #[.int .u32 0, .slice none 0 0] rfl (by kernel_rfl) (by kernel_rfl) (by kernel_rfl)
      (OpenSpec.preRow_of_cond 8 hx (by kernel_rfl) (fun k hk => by cases hk) (by kernel_rfl) (laid_met os))) ?_
  intro W base args ds gs before hval hW _ _ _ hL _ _
  exact contract H enc W base args ds gs before hval hW hL
theorem said : Rows.GameRunsSaid :=
  OpenClaim.holds_of_cond 4 Tryz.f4 rfl rfl rfl rfl rfl rfl rfl ⟨rfl, rfl, rfl, rfl, rfl⟩ rfl rfl rfl rfl rfl (by kernel_rfl) Tryz.func4 (by kernel_rfl)
    (of_decide_eq_true (by kernel_rfl)) (by unfold Func.isWrapper; first | (rw [if_pos (by decide +kernel)]; kernel_rfl) | (rw [if_neg (by decide +kernel)]; exact ⟨rfl, rfl⟩))
    (fun os started H enc _ F => by rw [OpenClaim.pre_eq_preRow]; exact lifted os started H enc F)
end Go.Proofs.YtnaclkaapicelaaGreat
