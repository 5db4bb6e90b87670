/-
  The chapter's eleventh: its example.
-/
import Derived.Test.YtdjfpdndaobohaaEventAdd
namespace Go.Proofs.Ytdjfpdndaobohaa
open Go.RowKit
set_option maxRecDepth 100000

def x11 : Ev := ⟨0, 1, 1, 0, 0, 0, 0, 0, 0⟩
theorem x11_sorted : SortedE [x11.at_ 7 (0 : Nat)] := by simp [SortedE]

theorem x11_full : ∀ s : Nat, s < 1 → foundK [x11.at_ 7 (0 : Nat)] (x11.at_ 7 s).key = true := by
  intro s hs
  obtain rfl : s = 0 := by omega
  decide +kernel
theorem x11_key0 : (x11.at_ 7 (0 : Nat)).key.val = .agg #[.int .i64 7, .int .i64 1, .int .i64 1, .int .i64 0] := rfl
theorem x11_key1 : (x11.at_ 7 (1 : Nat)).key.val = .agg #[.int .i64 7, .int .i64 1, .int .i64 1, .int .i64 1] := rfl
theorem OwnL.caps {α : Type} {w : World} {base : Nat} {E : TypeId} {m : Nat} {f : α → List Value} {l : List α} {g n c : Nat} (h : OwnL w base E m (.slice (some ⟨g, 0, none⟩) n c) f l) : n ≤ c ∧ c ≤ 9223372036854775807 := by
  have hl := h.len
  obtain ⟨_, h | ⟨g', cap, cur, he, _, _, h1, h2, _⟩⟩ := h
  · exact absurd h.1 (by simp)
  · cases he
    simp [maxLen] at h2
    omega

set_option maxRecDepth 100000 in
set_option maxHeartbeats 1000000 in
theorem awake_any (w : World) : Calls Try.prog 9 #[] w fun e w' => e = .returned (.bool true) ∧ Below w.heap.size w w' := by
  go_enter Try.func9, Try.ntmps9
  go_wp2_with fail
  refine (open_yes 7 _ (by decide) (by decide)).mono ?_
  rintro e w1 ⟨rfl, hp1, hb1⟩
  have hl1 := hp1.lt
  have HP1 := Lib.hid hp1
  have HB1 := Lib.hid hb1
  clear hp1 hb1
  go_wp2_with fail
  refine (add_end w.heap.size 7 none 0 0 [] x11 0 w.heap.size _ (by simp; omega) (Nat.le_refl _) (HP1.out.alloc _) OwnL.nil (by decide) (by decide) (by decide) (by simp [SortedE]) (by decide +kernel) (by decide) (fun s hs => absurd hs (Nat.not_lt_zero s)) (by decide +kernel) (by decide +kernel)).mono ?_
  rw [x11_key0]
  rintro e w2 ⟨g, c', rfl, hp2, ho2, hb2, hfar2, hat2⟩
  have hcap := ho2.caps
  have hs2 := hb2.size
  simp at hs2
  have hx2 : Blk w2 w1.heap.size 25 #[.int .i64 0, .int .i64 1, .int .i64 1, .int .i64 0, .int .i64 0, .int .i64 0, .int .i64 0, .int .i64 0, .int .i64 0] := (hfar2 _ (by simp) (by omega) (by simp [Value.ownBlock])).trans (Blk.new w1 _ _)
  obtain ⟨d0, d1, d2, d3, d4, d5, d6, d7, d8⟩ := hx2.ev
  have hl2 := hx2.lt
  have HX2 := Lib.hid hx2
  have HP2 := Lib.hid hp2
  have HO2 := Lib.hid ho2
  have HB2 := Lib.hid hb2
  clear hx2 hp2 ho2 hb2 hfar2 hat2
  go_wp2_with fail
  refine (add_end w.heap.size 7 (some ⟨g, 0, none⟩) 1 c' [x11.at_ 7 (0 : Nat)] x11 1 w.heap.size _ (by simp; omega) (Nat.le_refl _) (HP2.out.alloc _) (HO2.out.alloc _) (by decide) ?_ ?_ x11_sorted (by decide +kernel) (by decide) x11_full (by decide +kernel) (by decide +kernel)).mono ?_
  · omega
  · omega
  rw [x11_key1]
  rintro e w3 ⟨g3, c3, rfl, hp3, ho3, hb3, hfar3, hat3⟩
  have hs3 := hb3.size
  simp at hs3
  have hgl := HO2.out.block_lt g rfl
  have hz3 : Blk w3 w2.heap.size 23 #[.int .i64 7, .int .i64 1, .int .i64 1, .int .i64 0] := (hfar3 _ (by simp) (by omega) (by simp [Value.ownBlock]; omega)).trans (Blk.new w2 _ _)
  obtain ⟨f0, f1, f2, f3⟩ := hz3.key
  have hl3 := hz3.lt
  have hfin : Below w.heap.size w w3 := (((HB1.out.alloc (by omega) _).trans HB2.out).alloc (by omega) _).trans hb3
  have HF := Lib.hid hfin
  clear hz3 hp3 ho3 hb3 hfar3 hat3 hfin
  go_wp2
  go_ret
  exact ⟨rfl, HF.out.alloc (by omega) _⟩
end Go.Proofs.Ytdjfpdndaobohaa
