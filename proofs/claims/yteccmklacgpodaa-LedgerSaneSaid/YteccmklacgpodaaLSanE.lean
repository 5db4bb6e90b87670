/-
  The program's Sane.
-/
import Derived.Test.YteccmklacgpodaaLSanW
import Derived.Test.YteccmklacgpodaaAw17
namespace Go.Proofs.Yteccmklacgpodaa
open Go.RowKit Go.Shelf
set_option maxRecDepth 100000
set_option linter.unusedSimpArgs false
set_option maxHeartbeats 1000000 in
theorem cfC_any (A : Option Addr) (c : Nat) (l : List Cm) (bl bd : Nat) (w : World) (hl : l.length ≤ 900000) (hr : Rd w w.heap.size A (l.flatMap Cm.cells)) (hW : SanW w bl bd ([], [])) (hw : ∀ x ∈ l, x.e.key.Wf) :
    Calls Try.prog 32 #[.slice A l.length c, .func (.func 33) #[.agg #[.map (some bl), .map (some bd)]] #[]] w fun e w' => e = .returned (.bool (!saneF l)) ∧ KeptX w w' [bl, bd] := by
  have HI := Lib.hid (ifC_any A c l bl bd w hl hr hW hw)
  obtain ⟨n, hn⟩ : ∃ n, l.length = n := ⟨_, rfl⟩
  obtain ⟨q, hq⟩ : ∃ q, (!saneF l) = q := ⟨_, rfl⟩
  rw [hn, hq] at HI
  rw [hn, hq]
  clear hn hq hl hr hW hw
  go_enter Try.func32, Try.ntmps32
  go_wp2_with (first | (go_at_call 49; refine HI.out.mono ?_; rintro e w1 ⟨⟨r, rfl, hr, hr1, hr2⟩, hk1⟩; have HRD := Lib.hid hr; have HK := Lib.hid hk1; clear hk1 hr))
  go_ret
  exact ⟨ret_bool HRD.out, HK.out⟩
set_option maxHeartbeats 1000000 in
theorem sane_any (A : Option Addr) (c : Nat) (l : List Cm) (w : World) (hl : l.length ≤ 900000) (hr : Rd w w.heap.size A (l.flatMap Cm.cells)) (hw : ∀ x ∈ l, x.e.key.Wf) :
    Calls Try.prog 16 #[.slice A l.length c] w fun e w' => e = .returned (.bool (saneF l)) ∧ Below w.heap.size w w' := by
  have hmm := @run_makeMap Try.prog
  obtain ⟨w1, hw1⟩ : ∃ w1, w1 = ((w.alloc (.map #[] 0)).alloc (.map #[] 0)).alloc (.cells #[.map (some w.heap.size), .map (some (w.heap.size + 1))] 77) := ⟨_, rfl⟩
  have HB1 : Hid (Below w.heap.size w w1) := Lib.hid (by rw [hw1]; exact bAlloc (bAlloc (bAlloc (Below.refl _ _) _) _) _)
  have HW1 : Hid (SanW w1 w.heap.size (w.heap.size + 1) ([], [])) := Lib.hid (by
    have hs1 : (w.alloc (.map #[] 0)).heap.size = w.heap.size + 1 := by simp
    rw [hw1]
    refine ⟨?_, ?_, by omega⟩
    · have h1 : MapIs Key4.val Ev.val Try.prog 41 (w.alloc (.map #[] 0)) w.heap.size [] := MapIs.made w
      exact h1.same ((Below.heap_alloc _ _ _ (by simp; omega)).trans (Below.heap_alloc _ _ _ (by simp)))
    · have h1 : MapIs Key4.val Value.bool Try.prog 41 ((w.alloc (.map #[] 0)).alloc (.map #[] 0)) (w.alloc (.map #[] 0)).heap.size [] := MapIs.made _
      rw [hs1] at h1
      exact h1.same (Below.heap_alloc _ _ _ (by simp)))
  have HC := Lib.hid (cfC_any A c l w.heap.size (w.heap.size + 1) w1 hl ((hr.below HB1.out (Nat.le_refl _)).more HB1.out.size) HW1.out hw)
  have HS1 : Hid (Blk w1 (w.heap.size + 1 + 1) 77 #[.map (some w.heap.size), .map (some (w.heap.size + 1))]) := Lib.hid (by
    rw [hw1]
    have := Blk.new ((w.alloc (.map #[] 0)).alloc (.map #[] 0)) 77 #[.map (some w.heap.size), .map (some (w.heap.size + 1))]
    rwa [World.size_alloc, World.size_alloc] at this)
  obtain ⟨n, hn⟩ : ∃ n, l.length = n := ⟨_, rfl⟩
  obtain ⟨q, hq⟩ : ∃ q, saneF l = q := ⟨_, rfl⟩
  rw [hn, hq] at HC
  rw [hn, hq]
  clear hn hq hl hr hw
  go_enter Try.func16, Try.ntmps16
  go_upto_region 2 with fail
  rw [← hw1]
  clear hw1
  have s0 := HS1.out.cell 0
  have s1 := HS1.out.cell 1
  have ls := HS1.out.lt
  simp only [List.getElem?_toArray, List.getElem?_cons_zero, List.getElem?_cons_succ] at s0 s1
  go_wp2_with (first | (go_at_call 32; refine HC.out.mono ?_; rintro e w2 ⟨rfl, hk2⟩; have HK2 := Lib.hid hk2; clear hk2))
  go_ret
  refine ⟨by simp, HB1.out.trans (HK2.out.toBelow (fun x hx => ?_) HB1.out.size)⟩
  simp at hx
  omega
end Go.Proofs.Yteccmklacgpodaa
