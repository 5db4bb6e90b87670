/-
  PROVED HERE: promptbooklaw17.LedgerSorts answers true for every input, and leaves its arguments as they were.
  CONDITIONS: none beyond the row's own.
-/
import Derived.Test.YteccmklacgpodaaLRSan
import Derived.Test.YteccmklacgpodaaAw17
import Derived.Test.YteccmklacgpodaaCmO
import Derived.Test.YteccmklacgpodaaChecked
import Derived.ChangeAt
import Derived.Deep.DeepHandedRow
namespace Go.Proofs.Yteccmklacgpodaa
open Go.RowKit Go.WideShapes Go.ChangeShapes Go.ChangeAt
set_option maxRecDepth 100000
theorem fit_wf {e : Ev} (h : e.Fit) : e.key.Wf := fun x hx => by
  simp only [Ev.key, List.mem_cons, List.not_mem_nil, or_false] at hx
  rcases hx with rfl | rfl | rfl | rfl
  · exact wf_of h.frame.1 h.frame.2
  · exact wf_of h.emitter.1 h.emitter.2
  · exact wf_of h.kind.1 h.kind.2
  · exact wf_of h.ord.1 h.ord.2
set_option maxHeartbeats 2000000 in
theorem sorts_any (A : Option Addr) (c : Nat) (l : List Cm) (w : World) (hr : Rd w w.heap.size A (l.flatMap Cm.cells)) (hw : ∀ x ∈ l, I64 x.late ∧ I64 x.kind ∧ x.e.Fit) : Calls Try.prog 4 #[.slice A l.length c] w fun e w' => e = .returned (.bool true) ∧ Below w.heap.size w w' := by
  by_cases h100 : l.length ≤ 100
  · have HS : Hid (∀ W, Below w.heap.size w W → Calls Try.prog 16 #[.slice A l.length c] W fun e w' => e = .returned (.bool (saneF l)) ∧ Below W.heap.size W w') := Lib.hid (fun W hW => sane_any A c l W (by omega) ((hr.below hW (Nat.le_refl _)).more hW.size) (fun x hx => fit_wf (hw x hx).2.2))
    have HD : Hid (∀ W, Below w.heap.size w W → Calls Try.prog 17 #[.slice A l.length c] W fun e w' => e = .returned (.bool (saneF l)) ∧ Below W.heap.size W w') := Lib.hid (fun W hW => by
      rw [sane_same]
      exact rsane_any A c l W (by omega) ((hr.below hW (Nat.le_refl _)).more hW.size))
    obtain ⟨n, hn⟩ : ∃ n, l.length = n := ⟨_, rfl⟩
    obtain ⟨q, hq⟩ : ∃ q, saneF l = q := ⟨_, rfl⟩
    rw [hn, hq] at HS HD
    rw [hn] at h100 ⊢
    clear hn hq hr hw
    cases q
    all_goals
      go_enter Try.func4, Try.ntmps4
      go_wp2_with (first
        | (go_at_call 8; refine (awake_any _).mono ?_; rintro e w1 ⟨rfl, hb1⟩; have HB1 := Lib.hid hb1; clear hb1)
        | (go_at_call 16; refine (HS.out _ HB1.out).mono ?_; rintro e w2 ⟨rfl, hb2⟩; have HB2 := Lib.hid (bTrans HB1.out hb2); clear hb2)
        | (go_at_call 17; refine (HD.out _ HB2.out).mono ?_; rintro e w3 ⟨rfl, hb3⟩; have HB3 := Lib.hid (bTrans HB2.out hb3); clear hb3))
      go_ret
      exact ⟨rfl, HB3.out⟩
  · obtain ⟨n, hn⟩ : ∃ n, l.length = n := ⟨_, rfl⟩
    rw [hn] at h100 ⊢
    clear hn hr hw
    go_enter Try.func4, Try.ntmps4
    go_wp2_with (first | (go_at_call 8; refine (awake_any _).mono ?_; rintro e w1 ⟨rfl, hb1⟩; have HB1 := Lib.hid hb1; clear hb1))
    go_ret
    exact ⟨rfl, HB1.out⟩
theorem own : ownKnob Try.prog.godebug = none := by kernel_rfl
theorem contract (H : Type) (enc : TypeId × Value → H) (W : World) (base : Nat) (args : Array Value) (ds gs : List (DataW H)) (before : List MemPlace)
    (hval : ∀ (j : Nat) t v, Try.f4.params[j]? = some t → args[j]? = some v → Value.okWide Try.prog W .any base t v)
    (hW : DataW.Whole enc Try.prog Try.f4.params.toList Rows.ledgerSortsSpec.vars false W args.toList ds gs before) (_hL : laidMetH Try.prog Rows.ledgerSortsRow.laid W) :
    Calls Try.prog 4 args W fun e W' => ∃ v, e = .returned v ∧ Rows.ledgerSortsSpec.post enc Try.prog Try.f4 false true false false W args v W' := by
  have hW0 := hW
  obtain ⟨p, q, hA, hV, rfl, -, -⟩ := hW
  rw [Try.params4] at hA hval
  obtain ⟨v0, vs0, d0, ds0, p0, q0, hargs, rfl, rfl, h0, r0⟩ := trodAll_cons hA
  obtain ⟨rfl, rfl, rfl⟩ := trodAll_nil r0
  obtain rfl : args = #[v0] := by cases args; simp_all
  obtain ⟨rfl, rfl⟩ := trodVars_none hV
  obtain ⟨lA, lc, ll, rfl, ln, lr, lf⟩ := open_cmds (hval 0 _ _ rfl rfl) h0
  refine (sorts_any lA lc ll W lr lf).mono fun e W' ⟨he, hb⟩ => ?_
  subst he
  exact ⟨_, rfl, law_post (by kernel_rfl) (by kernel_rfl) rfl Try.underlying4 rfl rfl hW0 hb⟩
theorem laid_met (os : Os) : laidMet Try.prog Rows.ledgerSortsRow.laid (((World.holding Try.prog os ⟨#[], #[], []⟩)).forCall (fun _ _ => 0) ⟨#[], #[.slice none 0 0], []⟩).memory :=
  laidMet_of_run' 8 (by kernel_rfl) (by kernel_rfl)
theorem reads (os : Os) {H : Type} (enc : TypeId × Value → H) : ∃ places, DataW.whole enc Try.prog (((World.holding Try.prog os ⟨#[], #[], []⟩)).forCall (fun _ _ => 0) ⟨#[], #[.slice none 0 0], []⟩).memory Try.f4.params.toList Rows.ledgerSortsSpec.vars false #[(.slice none 0 0 : Value)].toList 8 = some ([.nil], [], places) :=
  ⟨[], by kernel_rfl⟩
set_option maxRecDepth 100000 in
theorem lifted (os : Os) (started : os.Started) (H : Type) (enc : TypeId × Value → H) (F : Stop.Interp) :
    ReturnsInHanded {} Try.checked os 4 .any ((OpenSpec.ofChange Rows.ledgerSortsSpec).preRow enc Try.prog Try.f4 Rows.ledgerSortsRow.domain false Rows.ledgerSortsRow.laid) (((OpenSpec.ofChange Rows.ledgerSortsSpec).at F).post enc Try.prog Try.f4 false true false false) := by
  obtain ⟨places, hx⟩ := reads os enc
  refine returnsInHanded_of_row (C := Try.checked) (s := (OpenSpec.ofChange Rows.ledgerSortsSpec)) own started (by kernel_rfl) Try.func4
    (witness_row_at (enc := enc) (C := Try.checked) false (World.holding Try.prog os ⟨#[], #[], []⟩) #[.slice none 0 0] rfl (by kernel_rfl) (by kernel_rfl) (by kernel_rfl)
      (OpenSpec.preRow_of_cond 8 hx (by kernel_rfl) (fun k hk => by cases hk) (by kernel_rfl) (laid_met os))) ?_
  intro W base args ds gs before hval hW _ _ _ hL _ _
  exact contract H enc W base args ds gs before hval hW hL
theorem said : Rows.LedgerSortsSaid :=
  OpenClaim.holds_of_cond 4 Try.f4 rfl rfl rfl rfl rfl rfl rfl ⟨rfl, rfl, rfl, rfl, rfl⟩ rfl rfl rfl rfl rfl (by kernel_rfl) Try.func4 (by kernel_rfl)
    (of_decide_eq_true (by kernel_rfl)) (by unfold Func.isWrapper; first | (rw [if_pos (by decide +kernel)]; kernel_rfl) | (rw [if_neg (by decide +kernel)]; exact ⟨rfl, rfl⟩))
    (fun os started H enc _ F => by rw [OpenClaim.pre_eq_preRow]; exact lifted os started H enc F)
end Go.Proofs.Yteccmklacgpodaa
