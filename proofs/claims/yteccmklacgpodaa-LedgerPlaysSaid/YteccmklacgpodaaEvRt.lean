/-
  May a key be, may an event be: the program's words.
-/
import Derived.Test.YteccmklacgpodaaEvLf
namespace Go.Proofs.Yteccmklacgpodaa
open Go.RowKit
set_option maxRecDepth 100000 in
set_option maxHeartbeats 1000000 in
theorem key_any (k : Key4) (w : World) : Calls Try.prog 78 #[k.val] w fun e w' => e = .returned (.bool (keyOk k)) ∧ Below w.heap.size w w' := by
  unfold Key4.val
  go_enter Try.func78, Try.ntmps78
  go_wp2_with (go_at_call 86; refine (within_any _ _ _ _).mono ?_; rintro e w' ⟨rfl, rfl⟩)
  all_goals
    go_ret
    refine ⟨ret_bool ?_, (by repeat (first | exact Below.refl _ _ | (with_reducible assumption) | apply bAlloc | apply below_drewN | apply Below.drew))⟩
    simp [keyOk, *]

set_option maxRecDepth 100000 in
set_option maxHeartbeats 1000000 in
theorem right_any (x : Ev) (w : World) : Calls Try.prog 77 #[x.val] w fun e w' => e = .returned (.bool (evOk x)) ∧ Below w.heap.size w w' := by
  unfold Ev.val
  go_enter Try.func77, Try.ntmps77
  go_wp2_with fail
  refine (key_any x.key _).mono ?_
  rintro e w1 ⟨rfl, hb1⟩
  have hbk := (Blk.new w 43 #[.int .i64 x.frame, .int .i64 x.emitter, .int .i64 x.kind, .int .i64 x.ord, .int .i64 x.asset, .int .i64 x.gain, .int .i64 x.pan, .int .i64 x.prio, .int .i64 x.len]).on hb1
  have c4 := hbk.cell 4
  have c5 := hbk.cell 5
  have c6 := hbk.cell 6
  have c7 := hbk.cell 7
  have c8 := hbk.cell 8
  simp only [List.getElem?_toArray, List.getElem?_cons_zero, List.getElem?_cons_succ] at c4 c5 c6 c7 c8
  have hbw := bTrans (bAlloc (Below.refl w.heap.size w) (.cells #[.int .i64 x.frame, .int .i64 x.emitter, .int .i64 x.kind, .int .i64 x.ord, .int .i64 x.asset, .int .i64 x.gain, .int .i64 x.pan, .int .i64 x.prio, .int .i64 x.len] 43)) hb1
  clear hbk hb1
  cases hk : keyOk x.key
  all_goals
    have HK := Lib.hid hk
    clear hk
    go_wp2_with (go_at_call 86; refine (within_any _ _ _ _).mono ?_; rintro e w' ⟨rfl, rfl⟩)
    all_goals
      go_ret
      refine ⟨ret_bool ?_, hbw⟩
      simp [evOk, HK.out, *]
end Go.Proofs.Yteccmklacgpodaa
