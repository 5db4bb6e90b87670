/-
  EventApplies: any change is made to any list, or it is told why not.
  No condition.
-/
import Derived.Test.YtdjfpdndaobohaaEvAp
import Derived.Test.YtdjfpdndaobohaaKeyO
import Derived.Deep.DeepHandedRow
import Derived.Lib.LaidTab
import Derived.SevenTiedAt
namespace Go.Proofs.Ytdjfpdndaobohaa
open Go.RowKit Go.WideShapes Go.ChangeShapes
set_option maxRecDepth 100000
theorem evapplies_all (A1 A2 A3 A4 : Option Addr) (c1 c2 c3 c4 : Nat) (was : List Ev) (gone : List Key4) (fresh turned : List Ev) (w : World) (h1 : was.length ≤ maxLen) (h2 : gone.length ≤ maxLen) (h3 : fresh.length ≤ maxLen) (h4 : turned.length ≤ maxLen)
    (r1 : Rd w w.heap.size A1 (was.flatMap Ev.cells)) (r2 : Rd w w.heap.size A2 (gone.flatMap Key4.cells)) (r3 : Rd w w.heap.size A3 (fresh.flatMap Ev.cells)) (r4 : Rd w w.heap.size A4 (turned.flatMap Ev.cells)) :
    Calls Try.prog 7 #[.slice A1 was.length c1, .slice A2 gone.length c2, .slice A3 fresh.length c3, .slice A4 turned.length c4] w fun e w' => e = .returned (.bool true) ∧ Below w.heap.size w w' := by
  by_cases h : was.length ≤ 100 ∧ gone.length ≤ 100 ∧ fresh.length ≤ 100 ∧ turned.length ≤ 100
  · exact evapplies_any A1 A2 A3 A4 c1 c2 c3 c4 was gone fresh turned w h.1 h.2.1 h.2.2.1 h.2.2.2 r1 r2 r3 r4
  · exact evapplies_long A1 A2 A3 A4 c1 c2 c3 c4 was.length gone.length fresh.length turned.length w h1 h2 h3 h4 (by omega)
theorem own : ownKnob Try.prog.godebug = none := by kernel_rfl
theorem contract (H : Type) (enc : TypeId × Value → H) (W : World) (base : Nat) (args : Array Value) (ds gs : List (DataW H)) (before : List MemPlace)
    (hval : ∀ (j : Nat) t v, Try.f7.params[j]? = some t → args[j]? = some v → Value.okWide Try.prog W .any base t v)
    (hW : DataW.Whole enc Try.prog Try.f7.params.toList Rows.eventAppliesSpec.vars false W args.toList ds gs before) (_hL : laidMetH Try.prog Rows.eventAppliesRow.laid W) :
    Calls Try.prog 7 args W fun e W' => ∃ v, e = .returned v ∧ Rows.eventAppliesSpec.post enc Try.prog Try.f7 false true false false W args v W' := by
  have hW0 := hW
  obtain ⟨p, q, hA, hV, rfl, -, -⟩ := hW
  rw [Try.params7] at hA hval
  obtain ⟨v0, vs0, d0, ds0, p0, q0, hargs, rfl, rfl, h0, r0⟩ := trodAll_cons hA
  obtain ⟨v1, vs1, d1, ds1, p1, q1, rfl, rfl, rfl, h1, r1⟩ := trodAll_cons r0
  obtain ⟨v2, vs2, d2, ds2, p2, q2, rfl, rfl, rfl, h2, r2⟩ := trodAll_cons r1
  obtain ⟨v3, vs3, d3, ds3, p3, q3, rfl, rfl, rfl, h3, r3⟩ := trodAll_cons r2
  obtain ⟨rfl, rfl, rfl⟩ := trodAll_nil r3
  obtain rfl : args = #[v0, v1, v2, v3] := by cases args; simp_all
  obtain ⟨rfl, rfl⟩ := trodVars_none hV
  obtain ⟨aA, ac, al, rfl, an, ar, af⟩ := open_events (hval 0 _ _ rfl rfl) h0
  obtain ⟨bA, bc, bl, rfl, bn, br, bf⟩ := open_keys (hval 1 _ _ rfl rfl) h1
  obtain ⟨cA, cc, cl, rfl, cn, cr, cf⟩ := open_events (hval 2 _ _ rfl rfl) h2
  obtain ⟨dA, dc, dl, rfl, dn, dr, df⟩ := open_events (hval 3 _ _ rfl rfl) h3
  refine (evapplies_all aA bA cA dA ac bc cc dc al bl cl dl W (Nat.le_trans an.1 an.2) (Nat.le_trans bn.1 bn.2) (Nat.le_trans cn.1 cn.2) (Nat.le_trans dn.1 dn.2) ar br cr dr).mono fun e W' ⟨he, hb⟩ => ?_
  subst he
  exact ⟨_, rfl, law_post (by kernel_rfl) (by kernel_rfl) rfl Try.underlying4 rfl rfl hW0 hb⟩
theorem laid_met (os : Os) : laidMet Try.prog Rows.eventAppliesRow.laid (((World.holding Try.prog os ⟨#[], #[], []⟩)).forCall (fun _ _ => 0) ⟨#[], #[.slice none 0 0, .slice none 0 0, .slice none 0 0, .slice none 0 0], []⟩).memory :=
  laidMet_of_run' 8 (by kernel_rfl) (by kernel_rfl)
theorem reads (os : Os) {H : Type} (enc : TypeId × Value → H) : ∃ places, DataW.whole enc Try.prog (((World.holding Try.prog os ⟨#[], #[], []⟩)).forCall (fun _ _ => 0) ⟨#[], #[.slice none 0 0, .slice none 0 0, .slice none 0 0, .slice none 0 0], []⟩).memory Try.f7.params.toList Rows.eventAppliesSpec.vars false #[(.slice none 0 0 : Value), .slice none 0 0, .slice none 0 0, .slice none 0 0].toList 8 = some ([.nil, .nil, .nil, .nil], [], places) :=
  ⟨[], by kernel_rfl⟩
set_option maxRecDepth 100000 in
theorem lifted (os : Os) (started : os.Started) (H : Type) (enc : TypeId × Value → H) (F : Stop.Interp) :
    ReturnsInHanded {} Try.checked os 7 .any ((OpenSpec.ofChange Rows.eventAppliesSpec).preRow enc Try.prog Try.f7 Rows.eventAppliesRow.domain false Rows.eventAppliesRow.laid) (((OpenSpec.ofChange Rows.eventAppliesSpec).at F).post enc Try.prog Try.f7 false true false false) := by
  obtain ⟨places, hx⟩ := reads os enc
  refine returnsInHanded_of_row (C := Try.checked) (s := (OpenSpec.ofChange Rows.eventAppliesSpec)) own started (by kernel_rfl) Try.func7
    (witness_row_at (enc := enc) (C := Try.checked) false (World.holding Try.prog os ⟨#[], #[], []⟩) #[.slice none 0 0, .slice none 0 0, .slice none 0 0, .slice none 0 0] rfl (by kernel_rfl) (by kernel_rfl) (by kernel_rfl)
      (OpenSpec.preRow_of_cond 8 hx (by kernel_rfl) (fun k hk => by cases hk) (by kernel_rfl) (laid_met os))) ?_
  intro W base args ds gs before hval hW _ _ _ hL _ _
  exact contract H enc W base args ds gs before hval hW hL
theorem said : Rows.EventAppliesSaid :=
  OpenClaim.holds_of_cond 7 Try.f7 rfl rfl rfl rfl rfl rfl rfl ⟨rfl, rfl, rfl, rfl, rfl⟩ rfl rfl rfl rfl rfl (by kernel_rfl) Try.func7 (by kernel_rfl)
    (of_decide_eq_true (by kernel_rfl)) (by unfold Func.isWrapper; first | (rw [if_pos (by decide +kernel)]; kernel_rfl) | (rw [if_neg (by decide +kernel)]; exact ⟨rfl, rfl⟩))
    (fun os started H enc _ F => by rw [OpenClaim.pre_eq_preRow]; exact lifted os started H enc F)
end Go.Proofs.Ytdjfpdndaobohaa
