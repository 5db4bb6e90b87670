/-
  BotLadders: any ladder is what the chapter says: each against each, once.
  No condition.
-/
import Derived.Deep.DeepHandedRow
import Derived.Lib.LaidTab
import Derived.SevenTiedAt
import Derived.Test.YtnaclkaapicelaaGreatMb4L
import Derived.Test.YtnaclkaapicelaaGreatMBot8
import Derived.Test.YtnaclkaapicelaaGreatMa7
import Derived.Test.YtnaclkaapicelaaGreatMAw30
namespace Go.Proofs.YtnaclkaapicelaaGreat
open Go.RowKit Go.WideShapes Go.ChangeShapes
set_option maxRecDepth 100000
section
variable {H : Type} {enc : TypeId × Value → H} {w : World} {held : Bool} {r : Reach} {b0 : Nat} {v : Value} {d : DataW H} {p : List MemPlace}
theorem int_kinds : kindsOf Tryz.prog 100 3 = some [.i64] := by kernel_rfl
theorem open_ints (hv : Value.okWide Tryz.prog w r b0 55 v) (h : DataW.Trod enc Tryz.prog w 0 (fun _ => true) held 55 v d p) :
    ∃ (A : Option Addr) (c : Nat) (l : List Int), v = .slice A l.length c ∧ (l.length ≤ c ∧ c ≤ maxLen) ∧ Rd w w.heap.size A (l.flatMap inC) ∧ ∀ q ∈ l, I64 q := by
  obtain ⟨A, n, c, css, rfl, rfl, hn, hm, hr, hall⟩ := open_rows Tryz.underlying55 Tryz.cellsInt (by omega) hv h
  obtain ⟨l, rfl, hfit⟩ := list_of_forms (f := inC) (p := fun q => I64 q) (l := css) (fun cs hcs => by
    obtain ⟨-, fuel, y, hy⟩ := hall cs hcs
    obtain ⟨X, e1, e2, e3⟩ := trod_ints 100 3 _ int_kinds (by rw [Tryz.cellsInt]; rfl) fuel _ _ hy
    match X, e2 with
    | [a], _ => exact ⟨a, e1, bounds_i64 (e3 0 .i64 a rfl rfl)⟩)
  refine ⟨A, c, l, by rw [List.length_map], ⟨by rw [List.length_map] at hn; omega, hm⟩, ?_, hfit⟩
  rw [List.flatMap_def]; exact hr
end
theorem ladders_any (seed f : Int) (A : Option Addr) (c : Nat) (sk : List Int) (w : World) (hs : U32 seed) (hr : Rd w w.heap.size A (sk.flatMap inC)) : Calls Tryz.prog 6 #[.int .u32 seed, .slice A sk.length c, .int .i64 f] w fun e w' => e = .returned (.bool true) ∧ Below w.heap.size w w' := by
  have hpr : PressR := fun S who skill w hok h1 h2 => rpress_ok S who skill w hok.m.fit hok.right h1 h2
  have hst : StepR := fun S n0 n1 w T M hok h0 h1 hTM => r12Step_any hok h0 h1 T M hTM
  have ha30 : Awake30 := fun w => awake30_any w
  by_cases h : 8 < sk.length ∨ (sk.length ≤ 8 ∧ f < 0) ∨ ((sk.length ≤ 8 ∧ 0 ≤ f) ∧ 2000 < f)
  · exact ladders_1 ha30 h hr
  · obtain ⟨N, rfl⟩ := Int.eq_ofNat_of_zero_le (show 0 ≤ f by omega)
    cases hb : badS sk with
    | true => exact ladders_2a ha30 (by omega) (by omega) hb hr
    | false =>
      by_cases h4 : 4 < sk.length ∨ (sk.length ≤ 4 ∧ 100 < N)
      · exact ladders_2b ha30 (by omega) (by omega) hb h4 hr
      · exact ladders_3 ha30 hpr hst hs (by omega) (by omega) hb hr
theorem own : ownKnob Tryz.prog.godebug = none := by kernel_rfl
theorem contract (H : Type) (enc : TypeId × Value → H) (W : World) (base : Nat) (args : Array Value) (ds gs : List (DataW H)) (before : List MemPlace)
    (hval : ∀ (j : Nat) t v, Tryz.f6.params[j]? = some t → args[j]? = some v → Value.okWide Tryz.prog W .any base t v)
    (hW : DataW.Whole enc Tryz.prog Tryz.f6.params.toList Rows.botLaddersSpec.vars false W args.toList ds gs before) (_hL : laidMetH Tryz.prog Rows.botLaddersRow.laid W) :
    Calls Tryz.prog 6 args W fun e W' => ∃ v, e = .returned v ∧ Rows.botLaddersSpec.post enc Tryz.prog Tryz.f6 false true false false W args v W' := by
  have hW0 := hW
  obtain ⟨p, q, hA, hV, rfl, -, -⟩ := hW
  rw [Tryz.params6] at hA hval
  obtain ⟨v0, vs0, d0, ds0, p0, q0, hargs, rfl, rfl, h0, r0⟩ := trodAll_cons hA
  obtain ⟨v1, vs1, d1, ds1, p1, q1, rfl, rfl, rfl, h1, r1⟩ := trodAll_cons r0
  obtain ⟨v2, vs2, d2, ds2, p2, q2, rfl, rfl, rfl, h2, r2⟩ := trodAll_cons r1
  obtain ⟨rfl, rfl, rfl⟩ := trodAll_nil r2
  obtain rfl : args = #[v0, v1, v2] := by cases args; simp_all
  obtain ⟨rfl, rfl⟩ := trodVars_none hV
  obtain ⟨s, rfl, rfl, rfl, sw⟩ := open_int Tryz.underlying22 (hval 0 _ _ rfl rfl) h0
  obtain ⟨kA, kc, kl, rfl, kn, kr, kf⟩ := open_ints (hval 1 _ _ rfl rfl) h1
  obtain ⟨f, rfl, rfl, rfl, fw⟩ := open_int Tryz.underlying3 (hval 2 _ _ rfl rfl) h2
  refine (ladders_any s f kA kc kl W (bounds_u32 sw) kr).mono fun e W' ⟨he, hb⟩ => ?_
  subst he
  exact ⟨_, rfl, law_post (by kernel_rfl) (by kernel_rfl) rfl Tryz.underlying4 rfl rfl hW0 hb⟩
theorem laid_met (os : Os) : laidMet Tryz.prog Rows.botLaddersRow.laid (((World.holding Tryz.prog os ⟨#[], #[], []⟩)).forCall (fun _ _ => 0) ⟨#[], #[.int .u32 0, .slice none 0 0, .int .i64 0], []⟩).memory :=
  laidMet_of_run' 8 (by kernel_rfl) (by kernel_rfl)
theorem reads (os : Os) {H : Type} (enc : TypeId × Value → H) : ∃ places, DataW.whole enc Tryz.prog (((World.holding Tryz.prog os ⟨#[], #[], []⟩)).forCall (fun _ _ => 0) ⟨#[], #[.int .u32 0, .slice none 0 0, .int .i64 0], []⟩).memory Tryz.f6.params.toList Rows.botLaddersSpec.vars false #[(.int .u32 0 : Value), .slice none 0 0, .int .i64 0].toList 8 = some ([.lit (.int .u32 0), .nil, .lit (.int .i64 0)], [], places) :=
  ⟨[], by kernel_rfl⟩
set_option maxRecDepth 100000 in
theorem lifted (os : Os) (started : os.Started) (H : Type) (enc : TypeId × Value → H) (F : Stop.Interp) :
    ReturnsInHanded {} Tryz.checked os 6 .any ((OpenSpec.ofChange Rows.botLaddersSpec).preRow enc Tryz.prog Tryz.f6 Rows.botLaddersRow.domain false Rows.botLaddersRow.laid) (((OpenSpec.ofChange Rows.botLaddersSpec).at F).post enc Tryz.prog Tryz.f6 false true false false) := by
  obtain ⟨places, hx⟩ := reads os enc
  refine returnsInHanded_of_row (C := Tryz.checked) (s := (OpenSpec.ofChange Rows.botLaddersSpec)) own started (by kernel_rfl) Tryz.func6
    (witness_row_at (enc := enc) (C := Tryz.checked) false (World.holding Tryz.prog os ⟨#[], #[], []⟩) #[.int .u32 0, .slice none 0 0, .int .i64 0] rfl (by kernel_rfl) (by kernel_rfl) (by kernel_rfl)
      (OpenSpec.preRow_of_cond 8 hx (by kernel_rfl) (fun k hk => by cases hk) (by kernel_rfl) (laid_met os))) ?_
  intro W base args ds gs before hval hW _ _ _ hL _ _
  exact contract H enc W base args ds gs before hval hW hL
theorem said : Rows.BotLaddersSaid :=
  OpenClaim.holds_of_cond 6 Tryz.f6 rfl rfl rfl rfl rfl rfl rfl ⟨rfl, rfl, rfl, rfl, rfl⟩ rfl rfl rfl rfl rfl (by kernel_rfl) Tryz.func6 (by kernel_rfl)
    (of_decide_eq_true (by kernel_rfl)) (by unfold Func.isWrapper; first | (rw [if_pos (by decide +kernel)]; kernel_rfl) | (rw [if_neg (by decide +kernel)]; exact ⟨rfl, rfl⟩))
    (fun os started H enc _ F => by rw [OpenClaim.pre_eq_preRow]; exact lifted os started H enc F)
end Go.Proofs.YtnaclkaapicelaaGreat
