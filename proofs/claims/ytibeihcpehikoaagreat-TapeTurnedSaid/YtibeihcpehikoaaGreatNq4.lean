/-
  The walks of slices.Insert at the end, of a page's Open and Add where the new event stands behind all.
-/
import Derived.Deep.RegionLaw
import Derived.Test.YtibeihcpehikoaaGreatNq3
namespace Go.Proofs.YtibeihcpehikoaaGreat
open Go.RowKit

theorem has_at (A : Option Addr) (n c : Nat) (L : List Ev) (k : Key4) (w : World) (hl : n = L.length) (hn : n ≤ 1000) (hr : Rd w w.heap.size A (L.flatMap Ev.cells)) (hs : SortedE L) :
    Calls Tryz.prog 292 #[.slice A n c, k.val] w fun e w' => e = .returned (.bool (foundK L k)) ∧ Below w.heap.size w w' := by
  subst hl; exact has_any A c L k w hn hr hs
theorem bsE_at (A : Option Addr) (n c : Nat) (L : List Ev) (x : Ev) (w : World) (hl : n = L.length) (hn : n ≤ 1000) (hr : Rd w w.heap.size A (L.flatMap Ev.cells)) (hs : SortedE L) :
    Calls Tryz.prog 293 #[.slice A n c, x.val, .func (.func 294) #[] #[]] w fun e w' => e = .returned (.tuple #[.int .i64 (lbK L x.key : Nat), .bool (foundK L x.key)]) ∧ Below w.heap.size w w' := by
  subst hl; exact bsE_any A c L x w hn hr hs
theorem ev_oneCell (x : Ev) : ∀ u ∈ x.cells, u.oneCell' = true := by
  intro u hu
  simp only [Ev.cells, List.mem_cons, List.not_mem_nil, or_false] at hu
  rcases hu with rfl | rfl | rfl | rfl | rfl | rfl | rfl | rfl | rfl <;> rfl

set_option maxRecDepth 100000 in
set_option maxHeartbeats 1000000 in
theorem ins_end (A : Option Addr) (n c : Nat) (L : List Ev) (x : Ev) (gv base : Nat) (w : World) (hb : base ≤ w.heap.size) (hA : OwnL w base 62 9 (.slice A n c) Ev.cells L) (hn : n ≤ 1000) (hc : n ≤ c) (hcm : c ≤ 9223372036854775807)
    (hx : Blk w gv 62 #[.int .i64 x.frame, .int .i64 x.emitter, .int .i64 x.kind, .int .i64 x.ord, .int .i64 x.asset, .int .i64 x.gain, .int .i64 x.pan, .int .i64 x.prio, .int .i64 x.len]) :
    Calls Tryz.prog 295 #[.slice A n c, .int .i64 n, .slice (some ⟨gv, 0, none⟩) 1 1] w fun e w' => ∃ g c', e = .returned (.slice (some ⟨g, 0, none⟩) (n + 1) c') ∧ OwnL w' base 62 9 (.slice (some ⟨g, 0, none⟩) (n + 1) c') Ev.cells (L ++ [x]) ∧ w.grownBy w' (Value.slice A n c).ownBlock ∧ ((Value.slice A n c).ownBlock = some g ∨ g = w.heap.size) := by
  obtain ⟨i0, hi0, hz0, hz1, hz2⟩ := info_parts Tryz.infoEv
  have hlen := hA.len
  have hnews : ∀ j u, x.cells[j]? = some u → w.cell? ((⟨gv, 0, none⟩ : Addr).add j) = some u := fun j u hu => by
    rw [Go.WideShapes.add_plain, Nat.zero_add, hx.cell j, ← hu]
    simp [Ev.cells]
  have HA := Lib.hid hA
  have HX := Lib.hid hx
  have HN := Lib.hid hnews
  have HLN := Lib.hid hlen
  have HAr : Hid (w.ownsRow base 62 9 (.slice A n c) n (L.flatMap Ev.cells)) := by
    have h := hA
    unfold OwnL at h
    rwa [← hlen] at h
  have hcn0 : (0 : Int) ≤ (n : Int) := Int.natCast_nonneg _
  clear hA hx hnews hlen
  by_cases hcn : c = n
  · subst hcn
    go_enter Tryz.func295, Tryz.ntmps295
    go_wp2_with (at_builtin; refine wpList_append_lies _ rfl (.tmp 23) (.tmp 24) 52 rfl base 62 i0 _ 9 72 Tryz.underlying52 hi0 hz0 hz1 hz2 rfl (by decide) (.slice A c c) c (L.flatMap Ev.cells) rfl HAr.out ⟨gv, 0, none⟩ 1 1 x.cells rfl rfl HN.out (ev_oneCell x) (by omega) (by simp [maxLen]; omega) (by omega) hb w.heap.size rfl ?_)
    · intro g cap w1 hown hgr hat hlt
      have HO := Lib.hid hown
      have HG := Lib.hid hgr
      have HT := Lib.hid hat
      clear hown hgr hat
      go_wp2
      go_ret
      refine ⟨g, cap, rfl, ?_, HG.out, HT.out⟩
      have h := HO.out
      unfold OwnL
      rw [List.length_append, ← HLN.out, List.flatMap_append]
      simpa using h
  · go_enter Tryz.func295, Tryz.ntmps295
    go_wp2_with (at_builtin; refine wpList_append_lies _ rfl (.tmp 23) (.tmp 24) 52 rfl base 62 i0 _ 9 72 Tryz.underlying52 hi0 hz0 hz1 hz2 rfl (by decide) (.slice A n c) n (L.flatMap Ev.cells) rfl HAr.out ⟨gv, 0, none⟩ 1 1 x.cells rfl rfl HN.out (ev_oneCell x) (by omega) (by simp [maxLen]; omega) (by omega) hb w.heap.size rfl ?_)
    · intro g cap w1 hown hgr hat hlt
      have HO := Lib.hid hown
      have HG := Lib.hid hgr
      have HT := Lib.hid hat
      clear hown hgr hat
      go_wp2
      go_ret
      refine ⟨g, cap, rfl, ?_, HG.out, HT.out⟩
      have h := HO.out
      unfold OwnL
      rw [List.length_append, ← HLN.out, List.flatMap_append]
      simpa using h

set_option maxRecDepth 100000 in
set_option maxHeartbeats 1000000 in
theorem open_yes (F : Int) (w : World) (h0 : 0 ≤ F) (h1 : F ≤ 1073741824) :
    Calls Tryz.prog 120 #[.int .i64 F] w fun e w' => e = .returned (.tuple #[.pointer (some ⟨w.heap.size, 0, none⟩), .int .i64 0]) ∧ Blk w' w.heap.size 265 #[.int .i64 F, .slice none 0 0] ∧ Below w.heap.size w w' := by
  have HB := Lib.hid (show inB F 0 1073741824 = true by simp [inB, h0, h1])
  go_enter Tryz.func120, Tryz.ntmps120
  go_wp2_with fail
  refine (within_any _ _ _ _).mono ?_
  rintro e w1 ⟨rfl, rfl⟩
  rw [HB.out]
  go_wp2
  go_ret2
  exact ⟨rfl, Blk.new _ _ _, bAlloc (Below.refl _ _) _⟩


/-- What is added: of the page's frame, the how-many-th. -/
def Ev.at_ (x : Ev) (F o : Int) : Ev := ⟨F, x.emitter, x.kind, o, x.asset, x.gain, x.pan, x.prio, x.len⟩

end Go.Proofs.YtibeihcpehikoaaGreat
