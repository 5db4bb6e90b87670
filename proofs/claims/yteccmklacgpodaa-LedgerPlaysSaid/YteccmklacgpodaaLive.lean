/-
  The ledger's Live: its entries in order.
-/
import Derived.Test.YteccmklacgpodaaSrtE
import Derived.Test.YteccmklacgpodaaCol
namespace Go.Proofs.Yteccmklacgpodaa
open Go.RowKit Go.Sort
set_option maxRecDepth 100000
set_option linter.unusedSimpArgs false
set_option maxHeartbeats 1000000 in
theorem liveC_grown (x y : Ev) (w : World) : Calls Try.prog 26 #[x.val, y.val] w fun e w' => e = .returned (.int .i64 (cmpK x.key y.key)) ∧ ∃ q os', w' = grow (w.drewN q) os' := by
  unfold Ev.val
  go_enter Try.func26, Try.ntmps26
  go_wp2_with fail
  refine (compare_grown x.key y.key _).mono ?_
  rintro e w1 ⟨rfl, q, os', rfl⟩
  have HG : Hid (∀ o1 o2 : Obj, ∃ q' os'', grow (((w.alloc o1).alloc o2).drewN q) os' = grow (w.drewN q') os'') := Lib.hid (fun o1 o2 => ⟨q, #[o1] ++ #[o2] ++ os', by rw [alloc_eq_grow, alloc_eq_grow, grow_grow, ← grow_grow (w.drewN q)]; rfl⟩)
  go_wp2
  go_ret
  exact ⟨rfl, HG.out _ _⟩
theorem values_any (b : Nat) (w : World) : Calls Try.prog 25 #[.map (some b)] w fun e w' => e = .returned (.func (.func 40) #[] #[.pointer (some ⟨w.heap.size, 0, none⟩)]) ∧ w' = w.alloc (.cells #[.map (some b)] 59) := by
  go_enter Try.func25, Try.ntmps25
  go_wp2
  go_ret
  exact ⟨rfl, rfl⟩
theorem collect_any (Bm b : Nat) (L : List (Key4 × Ev)) (w : World) (hL : L.length ≤ 1000000) (hm : w.cell? ⟨Bm, 0, none⟩ = some (.map (some b))) (hown : MapIs Key4.val Ev.val Try.prog 41 w b L) :
    Calls Try.prog 38 #[.func (.func 40) #[] #[.pointer (some ⟨Bm, 0, none⟩)]] w fun e w' => ∃ (A : Option Addr) (c : Nat) (xs : List (Key4 × Ev)), e = .returned (.slice A xs.length c) ∧ xs.Perm L ∧ OwnL w' w.heap.size 43 9 (.slice A xs.length c) Ev.cells (xs.map (·.2)) ∧ Below w.heap.size w w' := by
  have HC := Lib.hid (fun W (hW : Below w.heap.size w W) => callsIn_wide.1 (appendSeq_in 40 #[.pointer (some ⟨Bm, 0, none⟩)] (enters_of Try.func40 (by kernel_rfl) rfl) L hL W (fun V hV => valsM_stops 2 (by decide) Bm b L V (((bTrans hW hV).cell (p := ⟨Bm, 0, none⟩) (block_lt_of_cell hm)).trans hm) (hown.same ((bTrans hW hV).block b hown.lt)))))
  clear hm hown
  go_enter Try.func38, Try.ntmps38
  go_wp2_with (first | (go_at_call 55; refine (HC.out _ (Below.refl _ _)).mono ?_; rintro e w1 ⟨A, c, xs, rfl, h1, h2, h3⟩; have H1 := Lib.hid h1; have H2 := Lib.hid h2; have H3 := Lib.hid h3; clear h1 h2 h3))
  go_ret
  exact ⟨A, c, xs, rfl, H1.out, H2.out, H3.out⟩
theorem sortedF_any (Bm b : Nat) (L : List (Key4 × Ev)) (w : World) (hL : L.length ≤ 1000) (hm : w.cell? ⟨Bm, 0, none⟩ = some (.map (some b))) (hown : MapIs Key4.val Ev.val Try.prog 41 w b L) :
    Calls Try.prog 24 #[.func (.func 40) #[] #[.pointer (some ⟨Bm, 0, none⟩)], .func (.func 26) #[] #[]] w fun e w' => ∃ (A : Option Addr) (c : Nat) (M : List Ev), e = .returned (.slice A M.length c) ∧ M.Perm (L.map (·.2)) ∧ SortedW M ∧ OwnL w' w.heap.size 43 9 (.slice A M.length c) Ev.cells M ∧ Below w.heap.size w w' := by
  have HC := Lib.hid (collect_any Bm b L w (by omega) hm hown)
  clear hm hown
  go_enter Try.func24, Try.ntmps24
  go_wp2_with (first
    | (go_at_call 38; refine (HC.out).mono ?_; rintro e w1 ⟨A, c, xs, rfl, h1, h2, h3⟩
       have hlen : xs.length ≤ 1000 := by rw [h1.length_eq]; exact hL
       have hml : (xs.map (·.2)).length = xs.length := List.length_map _
       have HS := Lib.hid (sort_gen 26 (enters_of Try.func26 (by kernel_rfl) rfl) liveC_grown w.heap.size A xs.length c (xs.map (·.2)) w1 (by rw [hml]; exact hlen) h2)
       have H1 := Lib.hid h1; have H3 := Lib.hid h3; clear h1 h2 h3 hml hlen)
    | (go_at_call 39; refine (HS.out).mono ?_; rintro e w2 ⟨rfl, M, p1, p2, p3, p4⟩
       have P1 := Lib.hid p1; have P2 := Lib.hid p2; have P3 := Lib.hid p3; have P4 := Lib.hid p4; clear p1 p2 p3 p4))
  go_ret
  have hl : xs.length = M.length := by rw [P1.out.length_eq, List.length_map]
  have h3 := P3.out
  rw [hl] at h3 ⊢
  exact ⟨A, c, M, rfl, P1.out.trans (H1.out.map _), P2.out, h3, H3.out.trans P4.out⟩
theorem live_nil (w : World) : Calls Try.prog 13 #[.pointer none] w fun e w' => e = .returned (.slice none 0 0) ∧ w = w' := by
  go_enter Try.func13, Try.ntmps13
  go_wp2
  go_ret
  exact ⟨rfl, rfl⟩
theorem live_any (g b : Nat) (L : List (Key4 × Ev)) (w : World) (hL : L.length ≤ 1000) (hm : w.cell? ⟨g, 1, none⟩ = some (.map (some b))) (hown : MapIs Key4.val Ev.val Try.prog 41 w b L) :
    Calls Try.prog 13 #[.pointer (some ⟨g, 0, none⟩)] w fun e w' => ∃ (A : Option Addr) (c : Nat) (M : List Ev), e = .returned (.slice A M.length c) ∧ M.Perm (L.map (·.2)) ∧ SortedW M ∧ OwnL w' w.heap.size 43 9 (.slice A M.length c) Ev.cells M ∧ Below w.heap.size w w' := by
  have HS : Hid (∀ o, Calls Try.prog 24 #[.func (.func 40) #[] #[.pointer (some ⟨w.heap.size, 0, none⟩)], .func (.func 26) #[] #[]] (w.alloc (.cells #[.map (some b)] o)) fun e w' => ∃ (A : Option Addr) (c : Nat) (M : List Ev), e = .returned (.slice A M.length c) ∧ M.Perm (L.map (·.2)) ∧ SortedW M ∧ OwnL w' (w.alloc (.cells #[.map (some b)] o)).heap.size 43 9 (.slice A M.length c) Ev.cells M ∧ Below (w.alloc (.cells #[.map (some b)] o)).heap.size (w.alloc (.cells #[.map (some b)] o)) w') :=
    Lib.hid (fun o => sortedF_any w.heap.size b L _ hL (by simp) (hown.same (Below.heap_alloc w _ b hown.lt)))
  have hgl := block_lt_of_cell hm
  clear hown
  go_enter Try.func13, Try.ntmps13
  go_wp2_with (first
    | (go_at_call 25; refine (values_any b _).mono ?_; rintro e w1 ⟨rfl, rfl⟩)
    | (go_at_call 24; refine (HS.out _).mono ?_; rintro e w2 ⟨A, c, M, rfl, p1, p2, p3, p4⟩
       have P1 := Lib.hid p1; have P2 := Lib.hid p2; have P3 := Lib.hid p3; have P4 := Lib.hid p4; clear p1 p2 p3 p4))
  go_ret
  exact ⟨A, c, M, rfl, P1.out, P2.out, P3.out.more (by simp), bTrans (bAlloc (Below.refl _ _) _) P4.out⟩
end Go.Proofs.Yteccmklacgpodaa
