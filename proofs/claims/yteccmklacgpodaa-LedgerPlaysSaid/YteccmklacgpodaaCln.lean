/-
  slices.Clone of events.
-/
import Derived.Test.YteccmklacgpodaaR11b
namespace Go.Proofs.Yteccmklacgpodaa
open Go.RowKit
set_option maxRecDepth 100000
set_option maxHeartbeats 1000000 in
theorem clone_any (A : Option Addr) (c : Nat) (L : List Ev) (w : World) (hl : L.length ≤ 100000) (hr : Rd w w.heap.size A (L.flatMap Ev.cells)) :
    Calls Try.prog 31 #[.slice A L.length c] w fun e w' => ∃ A' c', e = .returned (.slice A' L.length c') ∧ OwnL w' w.heap.size 43 9 (.slice A' L.length c') Ev.cells L ∧ Below w.heap.size w w' := by
  obtain ⟨i0, hi0, hz0, hz1, hz2⟩ := info_parts Try.infoEv
  rcases A with _ | ad
  · have h0 := rd_none Ev.cells_length (by decide) hr rfl
    have : L = [] := List.eq_nil_of_length_eq_zero h0
    subst this
    have hn := fun (w : World) => Lib.run_eql_slice_nil (P := Try.prog) w 28 43 none 0 c 0 0 Try.underlying28
    clear hr hl h0
    go_enter Try.func31, Try.ntmps31
    go_wp2
    go_ret
    exact ⟨none, 0, rfl, OwnL.nil, Below.refl _ _⟩
  · have hn := fun (w : World) => Lib.run_eql_slice_nil (P := Try.prog) w 28 43 (some ad) L.length c 0 0 Try.underlying28
    have HR := Lib.hid (hr.below (bAlloc (Below.refl w.heap.size w) (.cells #[] 43)) (Nat.le_refl _))
    have HOWN : Hid (World.ownsRow (w.alloc (.cells #[] 43)) w.heap.size 43 9 (.slice (some ⟨w.heap.size, 0, none⟩) 0 0) 0 []) := Lib.hid (OwnL.lit (f := Ev.cells) (m := 9) (n := 0) (c := 0) [] #[] (Nat.le_refl _) (by simp [maxLen]) Ev.cells_length rfl rfl rfl)
    obtain ⟨n, hnl⟩ : ∃ n, L.length = n := ⟨_, rfl⟩
    rw [hnl] at hl hn ⊢
    have HN := Lib.hid hnl
    have HI := Lib.hid hi0
    have HZ0 := Lib.hid hz0
    have HZ1 := Lib.hid hz1
    have HZ2 := Lib.hid hz2
    clear hr hnl hi0 hz0 hz1 hz2
    go_enter Try.func31, Try.ntmps31
    go_wp2_with (first
      | (at_builtin; refine wpList_append_rd rfl (.tmp 5) (.tmp 6) 28 rfl w.heap.size 43 i0 _ 9 72 Try.underlying28 HI.out HZ0.out HZ1.out HZ2.out rfl (by decide) (.slice (some ⟨w.heap.size, 0, none⟩) 0 0) 0 [] rfl HOWN.out w.heap.size (some ad) n c (L.flatMap Ev.cells) rfl (by rw [length_flatMap_const _ 9 Ev.cells_length, HN.out]) HR.out (fun e => by cases e) (evs_oneCell L) (by simp [maxLen]; omega) (by omega) (by simp) ?_; intro v1 w1 hown1 hg1 hat1))
    have hb1 : Below w.heap.size w w1 := (bAlloc (Below.refl _ _) _).grown hg1 (by simp) (by intro k hk; simp [Value.ownBlock] at hk; omega)
    have ho : OwnL w1 w.heap.size 43 9 v1 Ev.cells L := by
      have := OwnL.app (l := []) (k := L) (n := 0 + n) (by rw [HN.out]; simp) (by simpa using hown1)
      simpa using this
    obtain ⟨A', c', rfl⟩ := ho.shape
    rw [HN.out] at ho ⊢
    have HO := Lib.hid ho
    have HB := Lib.hid hb1
    clear ho hb1 hown1 hg1 hat1 hn
    go_wp2
    go_ret
    exact ⟨A', c', rfl, HO.out, HB.out⟩
end Go.Proofs.Yteccmklacgpodaa
