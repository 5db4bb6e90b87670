/-
  The chapter's eleventh: awake, and the law of the page that is not there.
-/
import Derived.Test.YtdjfpdndaobohaaEventAdd
import Derived.Deep.DeepHandedRow
import Derived.Lib.LaidTab
import Derived.SevenTiedAt
namespace Go.Proofs.Ytdjfpdndaobohaa
open Go.RowKit Go.WideShapes Go.ChangeShapes
set_option maxRecDepth 100000

def x11 : Ev := ⟨0, 1, 1, 0, 0, 0, 0, 0, 0⟩
theorem x11_sorted : SortedE [x11.at_ 7 (0 : Nat)] := by simp [SortedE]

theorem x11_full : ∀ s : Nat, s < 1 → foundK [x11.at_ 7 (0 : Nat)] (x11.at_ 7 s).key = true := by
  intro s hs
  obtain rfl : s = 0 := by omega
  decide +kernel
theorem x11_key0 : (x11.at_ 7 (0 : Nat)).key.val = .agg #[.int .i64 7, .int .i64 1, .int .i64 1, .int .i64 0] := rfl
theorem x11_key1 : (x11.at_ 7 (1 : Nat)).key.val = .agg #[.int .i64 7, .int .i64 1, .int .i64 1, .int .i64 1] := rfl
theorem OwnL.caps {α : Type} {w : World} {base : Nat} {E : TypeId} {m : Nat} {f : α → List Value} {l : List α} {g n c : Nat} (h : OwnL w base E m (.slice (some ⟨g, 0, none⟩) n c) f l) : n ≤ c ∧ c ≤ 9223372036854775807 := by
  have hl := h.len
  obtain ⟨_, h | ⟨g', cap, cur, he, _, _, h1, h2, _⟩⟩ := h
  · exact absurd h.1 (by simp)
  · cases he
    simp [maxLen] at h2
    omega

set_option maxRecDepth 100000 in
set_option maxHeartbeats 1000000 in
theorem awake_any (w : World) : Calls Try.prog 9 #[] w fun e w' => e = .returned (.bool true) ∧ Below w.heap.size w w' := by
  go_enter Try.func9, Try.ntmps9
  go_wp2_with fail
  refine (open_yes 7 _ (by decide) (by decide)).mono ?_
  rintro e w1 ⟨rfl, hp1, hb1⟩
  have hl1 := hp1.lt
  have HP1 := Lib.hid hp1
  have HB1 := Lib.hid hb1
  clear hp1 hb1
  go_wp2_with fail
  refine (add_end w.heap.size 7 none 0 0 [] x11 0 w.heap.size _ (by simp; omega) (Nat.le_refl _) (HP1.out.alloc _) OwnL.nil (by decide) (by decide) (by decide) (by simp [SortedE]) (by decide +kernel) (by decide) (fun s hs => absurd hs (Nat.not_lt_zero s)) (by decide +kernel) (by decide +kernel)).mono ?_
  rw [x11_key0]
  rintro e w2 ⟨g, c', rfl, hp2, ho2, hb2, hfar2, hat2⟩
  have hcap := ho2.caps
  have hs2 := hb2.size
  simp at hs2
  have hx2 : Blk w2 w1.heap.size 25 #[.int .i64 0, .int .i64 1, .int .i64 1, .int .i64 0, .int .i64 0, .int .i64 0, .int .i64 0, .int .i64 0, .int .i64 0] := (hfar2 _ (by simp) (by omega) (by simp [Value.ownBlock])).trans (Blk.new w1 _ _)
  obtain ⟨d0, d1, d2, d3, d4, d5, d6, d7, d8⟩ := hx2.ev
  have hl2 := hx2.lt
  have HX2 := Lib.hid hx2
  have HP2 := Lib.hid hp2
  have HO2 := Lib.hid ho2
  have HB2 := Lib.hid hb2
  clear hx2 hp2 ho2 hb2 hfar2 hat2
  go_wp2_with fail
  refine (add_end w.heap.size 7 (some ⟨g, 0, none⟩) 1 c' [x11.at_ 7 (0 : Nat)] x11 1 w.heap.size _ (by simp; omega) (Nat.le_refl _) (HP2.out.alloc _) (HO2.out.alloc _) (by decide) ?_ ?_ x11_sorted (by decide +kernel) (by decide) x11_full (by decide +kernel) (by decide +kernel)).mono ?_
  · omega
  · omega
  rw [x11_key1]
  rintro e w3 ⟨g3, c3, rfl, hp3, ho3, hb3, hfar3, hat3⟩
  have hs3 := hb3.size
  simp at hs3
  have hgl := HO2.out.block_lt g rfl
  have hz3 : Blk w3 w2.heap.size 23 #[.int .i64 7, .int .i64 1, .int .i64 1, .int .i64 0] := (hfar3 _ (by simp) (by omega) (by simp [Value.ownBlock]; omega)).trans (Blk.new w2 _ _)
  obtain ⟨f0, f1, f2, f3⟩ := hz3.key
  have hl3 := hz3.lt
  have hfin : Below w.heap.size w w3 := (((HB1.out.alloc (by omega) _).trans HB2.out).alloc (by omega) _).trans hb3
  have HF := Lib.hid hfin
  clear hz3 hp3 ho3 hb3 hfar3 hat3 hfin
  go_wp2
  go_ret
  exact ⟨rfl, HF.out.alloc (by omega) _⟩

set_option maxRecDepth 100000 in
set_option maxHeartbeats 1000000 in
theorem list_nil (w : World) : Calls Try.prog 11 #[.pointer none] w fun e w' => e = .returned (.slice none 0 0) ∧ w = w' := by
  go_enter Try.func11, Try.ntmps11
  go_wp2
  go_ret
  exact ⟨rfl, rfl⟩

set_option maxRecDepth 100000 in
set_option maxHeartbeats 1000000 in
theorem walk_any (x : Ev) (w : World) : Calls Try.prog 3 #[x.val] w fun e w' => e = .returned (.bool true) ∧ Below w.heap.size w w' := by
  unfold Ev.val
  go_enter Try.func3, Try.ntmps3
  go_wp2_with fail
  refine (awake_any _).mono ?_
  rintro e w1 ⟨rfl, hb1⟩
  have hx1 := (Blk.new w 25 #[.int .i64 x.frame, .int .i64 x.emitter, .int .i64 x.kind, .int .i64 x.ord, .int .i64 x.asset, .int .i64 x.gain, .int .i64 x.pan, .int .i64 x.prio, .int .i64 x.len]).on hb1
  obtain ⟨d0, d1, d2, d3, d4, d5, d6, d7, d8⟩ := hx1.ev
  have hl1 := hx1.lt
  have hbw : Below w.heap.size w w1 := ((Below.refl _ _).alloc (by omega) _).trans (hb1.mono (by simp))
  clear hx1 hb1
  go_wp2_with fail
  refine (add_nil x _).mono ?_
  rintro e w2 ⟨rfl, hb2⟩
  go_wp2_with fail
  refine (list_nil _).mono ?_
  rintro e w3 ⟨rfl, rfl⟩
  go_wp2
  go_ret
  exact ⟨rfl, (hbw.trans (hb2.mono (by omega))).alloc (by have := hb2.size; omega) _⟩

section
variable {H : Type} {enc : TypeId × Value → H} {w : World} {held : Bool}
theorem open_ev {r : Reach} {b0 : Nat} {v : Value} {d : DataW H} {p : List MemPlace} (hv : Value.okWide Try.prog w r b0 25 v) (h : DataW.Trod enc Try.prog w 0 (fun _ => true) held 25 v d p) :
    ∃ e : Ev, v = e.val ∧ e.Fit := by
  obtain ⟨cs, rfl, -⟩ := okWide_struct Try.underlying25 hv
  obtain ⟨fuel, hf⟩ := h
  obtain ⟨e, he, hfit⟩ := ev_of_trod hf
  refine ⟨e, ?_, hfit⟩
  have : cs.toList = e.cells := he
  rw [Ev.val, ← Array.toArray_toList (xs := cs), this]
  rfl
end

theorem own : ownKnob Try.prog.godebug = none := by kernel_rfl
theorem contract (H : Type) (enc : TypeId × Value → H) (W : World) (base : Nat) (args : Array Value) (ds gs : List (DataW H)) (before : List MemPlace)
    (hval : ∀ (j : Nat) t v, Try.f3.params[j]? = some t → args[j]? = some v → Value.okWide Try.prog W .any base t v)
    (hW : DataW.Whole enc Try.prog Try.f3.params.toList Rows.eventNilSpec.vars false W args.toList ds gs before) (_hL : laidMetH Try.prog Rows.eventNilRow.laid W) :
    Calls Try.prog 3 args W fun e W' => ∃ v, e = .returned v ∧ Rows.eventNilSpec.post enc Try.prog Try.f3 false true false false W args v W' := by
  have hW0 := hW
  obtain ⟨p, q, hA, hV, rfl, -, -⟩ := hW
  rw [Try.params3] at hA hval
  obtain ⟨v0, vs0, d0, ds0, p0, q0, hargs, rfl, rfl, h0, r0⟩ := trodAll_cons hA
  obtain ⟨rfl, rfl, rfl⟩ := trodAll_nil r0
  obtain rfl : args = #[v0] := by cases args; simp_all
  obtain ⟨rfl, rfl⟩ := trodVars_none hV
  obtain ⟨x, rfl, xf⟩ := open_ev (hval 0 _ _ rfl rfl) h0
  refine (walk_any x _).mono fun e W' ⟨he, hb⟩ => ?_
  subst he
  exact ⟨_, rfl, law_post (by kernel_rfl) (by kernel_rfl) rfl Try.underlying4 rfl rfl hW0 hb⟩
theorem laid_met (os : Os) : laidMet Try.prog Rows.eventNilRow.laid (((World.holding Try.prog os ⟨#[], #[], []⟩)).forCall (fun _ _ => 0) ⟨#[], #[.agg #[.int .i64 0, .int .i64 0, .int .i64 0, .int .i64 0, .int .i64 0, .int .i64 0, .int .i64 0, .int .i64 0, .int .i64 0]], []⟩).memory :=
  laidMet_of_run' 8 (by kernel_rfl) (by kernel_rfl)
theorem reads (os : Os) {H : Type} (enc : TypeId × Value → H) : ∃ places, DataW.whole enc Try.prog (((World.holding Try.prog os ⟨#[], #[], []⟩)).forCall (fun _ _ => 0) ⟨#[], #[.agg #[.int .i64 0, .int .i64 0, .int .i64 0, .int .i64 0, .int .i64 0, .int .i64 0, .int .i64 0, .int .i64 0, .int .i64 0]], []⟩).memory Try.f3.params.toList Rows.eventNilSpec.vars false #[(.agg #[.int .i64 0, .int .i64 0, .int .i64 0, .int .i64 0, .int .i64 0, .int .i64 0, .int .i64 0, .int .i64 0, .int .i64 0] : Value)].toList 8 = some ([.agg [.agg [.lit (.int .i64 0), .lit (.int .i64 0), .lit (.int .i64 0), .lit (.int .i64 0)], .lit (.int .i64 0), .lit (.int .i64 0), .lit (.int .i64 0), .lit (.int .i64 0), .lit (.int .i64 0)]], [], places) :=
  ⟨[], by kernel_rfl⟩
set_option maxRecDepth 100000 in
theorem lifted (os : Os) (started : os.Started) (H : Type) (enc : TypeId × Value → H) (F : Stop.Interp) :
    ReturnsInHanded {} Try.checked os 3 .any ((OpenSpec.ofChange Rows.eventNilSpec).preRow enc Try.prog Try.f3 Rows.eventNilRow.domain false Rows.eventNilRow.laid) (((OpenSpec.ofChange Rows.eventNilSpec).at F).post enc Try.prog Try.f3 false true false false) := by
  obtain ⟨places, hx⟩ := reads os enc
  refine returnsInHanded_of_row (C := Try.checked) (s := (OpenSpec.ofChange Rows.eventNilSpec)) own started (by kernel_rfl) Try.func3
    (witness_row_at (enc := enc) (C := Try.checked) false (World.holding Try.prog os ⟨#[], #[], []⟩) #[.agg #[.int .i64 0, .int .i64 0, .int .i64 0, .int .i64 0, .int .i64 0, .int .i64 0, .int .i64 0, .int .i64 0, .int .i64 0]] rfl (by kernel_rfl) (by kernel_rfl) (by kernel_rfl)
      (OpenSpec.preRow_of_cond 8 hx (by kernel_rfl) (fun k hk => by cases hk) (by kernel_rfl) (laid_met os))) ?_
  intro W base args ds gs before hval hW _ _ _ hL _ _
  exact contract H enc W base args ds gs before hval hW hL
theorem said : Rows.EventNilSaid :=
  OpenClaim.holds_of_cond 3 Try.f3 rfl rfl rfl rfl rfl rfl rfl ⟨rfl, rfl, rfl, rfl, rfl⟩ rfl rfl rfl rfl rfl (by kernel_rfl) Try.func3 (by kernel_rfl)
    (of_decide_eq_true (by kernel_rfl)) (by unfold Func.isWrapper; first | (rw [if_pos (by decide +kernel)]; kernel_rfl) | (rw [if_neg (by decide +kernel)]; exact ⟨rfl, rfl⟩))
    (fun os started H enc _ F => by rw [OpenClaim.pre_eq_preRow]; exact lifted os started H enc F)
end Go.Proofs.Ytdjfpdndaobohaa
