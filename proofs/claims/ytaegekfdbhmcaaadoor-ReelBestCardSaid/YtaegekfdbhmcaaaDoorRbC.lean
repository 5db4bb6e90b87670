/-
  slices.AppendSeq and slices.Collect of whatever iterator yields cuts, in its order.
-/
import Derived.Test.YtaegekfdbhmcaaaDoorRbS
import Derived.Test.YtaegekfdbhmcaaaDoorRbU
namespace Go.Proofs.YtaegekfdbhmcaaaDoor
open Go.RowKit Go.Shelf
attribute [local go_sem] Oper.semAt_some
set_option maxRecDepth 100000
set_option linter.unusedSimpArgs false
/-- AppendSeq to nothing. -/
theorem appendSeqC_in (gf : Nat) (lb : Array Value) (hent : ∀ args w, (callFunc gf args).run Tryd.prog w = .ok (.enter gf args) w) (L : List Cut) (hL : L.length ≤ 1000000) (w : World)
    (hst : ∀ W, Below w.heap.size w W → SeqStopsK Fence.wide 2 Tryd.prog gf lb (fun x : Cut => #[x.val]) (Below w.heap.size) (fun xs => xs = L) (fun pre => ∃ k, k ≤ L.length ∧ pre = L.take k) L.length W) :
    CallsIn Fence.wide 3 Tryd.prog 41 #[.slice none 0 0, .func (.func gf) #[] lb] w fun e w' => ∃ (A : Option Addr) (c : Nat), e = .returned (.slice A L.length c) ∧ OwnL w' w.heap.size 48 3 (.slice A L.length c) Cut.cells L ∧ Below w.heap.size w w' := by
  have HST := Lib.hid hst
  clear hst
  refine callsIn_of_wp_marks Tryd.func41 rfl trivial ?_ rfl
  simp only [Tryd.ntmps41, List.size_toArray, List.length_cons, List.length_nil, Nat.reduceAdd, Nat.reduceSub, Array.replicate_succ, Array.replicate_zero, List.push_toArray, List.append_toArray, List.nil_append, List.cons_append]
  gi_wp2
  have k0 := Blk.new w 22 #[.slice none 0 0]
  have hb2 : Below w.heap.size w (w.alloc (.cells #[.slice none 0 0] 22)) := bAlloc (Below.refl _ _) _
  have hz2 : (w.alloc (.cells #[.slice none 0 0] 22)).heap.size = w.heap.size + 1 := by simp
  obtain ⟨W2, hW2⟩ : ∃ W2, w.alloc (.cells #[.slice none 0 0] 22) = W2 := ⟨_, rfl⟩
  rw [hW2] at k0 hb2 hz2 ⊢
  clear hW2
  refine wpIn_rangeFunc_ownH rfl (by decide) (gf := gf) (lb := lb) rfl trivial hent
    (HST.out W2 hb2) belowK_t (belowK_b (by omega)) (Below.refl _ _) (fun _ => rfl)
    (fun pre W => (∃ A1 c1, Blk W w.heap.size 22 #[.slice A1 pre.length c1] ∧ OwnL W (w.heap.size + 1) 48 3 (.slice A1 pre.length c1) Cut.cells pre) ∧ Below w.heap.size w W)
    (fun _ _ _ => False)
    (OwnFrom.and (fun s A B row hs hg hr => by obtain ⟨A1, c1, h1, h2⟩ := hs; exact ⟨A1, c1, lg_owned h1 hg hr, lg_rowOwned h2 hg hr⟩) (ownFrom_below (Nat.le_refl _) (by omega)))
    (fun _ _ _ _ _ h _ _ => h)
    ⟨⟨none, 0, k0, OwnL.nil⟩, hb2⟩
    (fun x a' W => ∃ Bx, w.heap.size < Bx ∧ Blk W Bx 48 x.cells.toArray ∧ a' = { tmps := #[.slice none 0 0, .func (.func gf) #[] lb, .pointer (some ⟨w.heap.size, 0, none⟩), undef, .slice none 0 0, .pointer (some ⟨Bx, 0, none⟩), .func (.func gf) #[] lb, x.val, undef, undef, undef, undef, undef], defers := [] })
    (fun x a' s A B row hs hg hr => by obtain ⟨Bx, h1, h2, h3⟩ := hs; exact ⟨Bx, h1, lg_owned h2 hg hr, h3⟩)
    ?assign ?body ?done ?stop
  case assign =>
    rintro l pre x W K ⟨⟨A1, c1, h0, h1⟩, hB⟩ hK
    have hx : x.val = .agg #[.int .i64 x.frm, .int .i64 x.to_, .int .i64 x.weight] := rfl
    rw [hx]
    have hl1 := h0.lt
    gi_wp2
    exact hK _ _ ((KeepsOthers.alloc _ _).from _) ((Below.refl _ W).alloc hB.size _) ⟨⟨A1, c1, h0.alloc _, h1.alloc _⟩, hB.alloc hB.size _⟩ ⟨W.heap.size, hl1, Blk.new _ _ _, rfl⟩
  case body =>
    rintro l pre x a' W hl - ⟨⟨A1, c1, h0, h1⟩, hB⟩ ⟨Bx, hBx, bX, rfl⟩ hlt
    have bX' : Blk W Bx 48 #[.int .i64 x.frm, .int .i64 x.to_, .int .i64 x.weight] := bX
    have x0 := bX'.cell 0; have x1 := bX'.cell 1; have x2 := bX'.cell 2
    have q0 := h0.cell 0
    have f0 := h0.frozen 0
    have l0 := h0.lt
    have lX := bX'.lt
    simp only [List.getElem?_toArray, List.getElem?_cons_zero, List.getElem?_cons_succ] at x0 x1 x2 q0
    obtain ⟨np, hnp⟩ : ∃ np, pre.length = np := ⟨_, rfl⟩
    have hnl : pre.length = np := hnp
    have hlt2 : np < L.length := by omega
    rw [hnp] at h0 h1 q0
    have HNP := Lib.hid hnp
    have HNL := Lib.hid hnl
    have H0 := Lib.hid h0
    have H1 := Lib.hid h1
    have HB := Lib.hid hB
    have hw0 : w.heap.size < W.heap.size := l0
    have hxv : x.val = .agg #[.int .i64 x.frm, .int .i64 x.to_, .int .i64 x.weight] := rfl
    clear h0 h1 hB bX bX' hnp hnl hlt
    gi_wp2_with (first
      | (refine wpListIn_app_cut rfl (.tmp 8) (.tmp 10) rfl (w.heap.size + 1) (.slice A1 np c1) pre [x] (H1.out.alloc _) rfl (W.heap.size + 1) (some ⟨W.heap.size, 0, none⟩) 1 1 rfl rfl (lg_rd1 W x) (by rw [HNL.out]; simp; omega) (by simp; omega) ?_
         intro A7 c7 n7 w7 hn7 ho7 hg7
         have k7 : Blk w7 w.heap.size 22 #[.slice A1 np c1] := (H0.out.alloc _).grown hg7 (lg_ne_low H1.out (Nat.lt_succ_self _))
         have q7 := k7.cell 0
         have p7 := k7.frozen 0
         have ql7 := k7.lt
         simp only [List.getElem?_toArray, List.getElem?_cons_zero] at q7
         have HO7 := Lib.hid ho7
         have HG7 := Lib.hid hg7
         have K7 := Lib.hid k7
         clear ho7 hg7 k7))
    have hKO := ((KeepsOthers.alloc W (.cells #[.int .i64 x.frm, .int .i64 x.to_, .int .i64 x.weight] 48)).trans (KeepsOthers.of_grownBy HG7.out (fun j o ej hj => by
      obtain ⟨-, cur, fz, h2⟩ := lg_isRow (H1.out.alloc _) ej
      rw [h2] at hj; cases hj; rfl))).trans (KeepsOthers.setCell w7 ⟨w.heap.size, 0, none⟩ (.slice A7 n7 c7))
    have hlen7 : n7 = (pre ++ [x]).length := by rw [hn7.out, List.length_append]
    have hBB : Below w.heap.size W (w7.setCell ⟨w.heap.size, 0, none⟩ (.slice A7 n7 c7)) := (((Below.refl w.heap.size W).alloc (Nat.le_of_lt hw0) (.cells #[.int .i64 x.frm, .int .i64 x.to_, .int .i64 x.weight] 48)).grown HG7.out (by simp; omega) (fun k e => by have := (lg_isRow H1.out e).1; omega)).setCell (p := ⟨w.heap.size, 0, none⟩) (Nat.le_refl _) _
    refine ⟨hKO.from _, hBB, ⟨A7, c7, ?_, ?_⟩, ?_⟩
    · rw [← hlen7]
      exact K7.out.set 0 (.slice A7 n7 c7)
    · rw [← hlen7]
      exact HO7.out.farG (lg_ne_low HO7.out (Nat.lt_succ_self _)) 0 _
    · exact ((bAlloc HB.out _).grown HG7.out (by simp; omega) (fun k e => by have := (lg_isRow H1.out e).1; omega)).setCell (p := ⟨w.heap.size, 0, none⟩) (Nat.le_refl _) _
  case done =>
    rintro D ys W hD hS ⟨⟨A1, c1, h0, h1⟩, hB⟩ hK
    have q0 := h0.cell 0
    have ql := h0.lt
    simp only [List.getElem?_toArray, List.getElem?_cons_zero] at q0
    have H1 := Lib.hid h1
    have HB := Lib.hid hB
    have hS2 : ys = L := hS
    subst hS2
    clear h1 h0 hB hS
    gi_wp2
    refine ⟨by simp, .inl ⟨_, _, rfl, run_takeDeferred hK, ?_⟩⟩
    refine ⟨.slice A1 ys.length c1, ?_, ⟨A1, c1, rfl, ?_, HB.out.trans (belowK_b (w := w) (Nat.le_refl _) W D _ _ (by omega) hK rfl rfl)⟩⟩
    · simp [results, Tryd.results41, go_sem]
    · exact (H1.out.kept (grownBy_putObj' _ D (.deferred none)) (by
        cases hv : (Value.slice A1 ys.length c1).ownBlock with
        | none => exact .inl rfl
        | some g =>
          refine .inr fun e => ?_
          obtain ⟨-, cur, fz, h2⟩ := lg_isRow H1.out hv
          cases e
          rw [hK] at h2; cases h2)).more (Nat.le_succ _)
  case stop =>
    rintro D c pre W hD - h - 
    exact h.elim
theorem collectC_any (gf : Nat) (lb : Array Value) (hent : ∀ args w, (callFunc gf args).run Tryd.prog w = .ok (.enter gf args) w) (L : List Cut) (hL : L.length ≤ 1000000) (w : World)
    (hst : ∀ W, Below w.heap.size w W → SeqStopsK Fence.wide 2 Tryd.prog gf lb (fun x : Cut => #[x.val]) (Below w.heap.size) (fun xs => xs = L) (fun pre => ∃ k, k ≤ L.length ∧ pre = L.take k) L.length W) :
    Calls Tryd.prog 32 #[.func (.func gf) #[] lb] w fun e w' => ∃ (A : Option Addr) (c : Nat), e = .returned (.slice A L.length c) ∧ OwnL w' w.heap.size 48 3 (.slice A L.length c) Cut.cells L ∧ Below w.heap.size w w' := by
  have HC := Lib.hid (callsIn_wide.1 (appendSeqC_in gf lb hent L hL w hst))
  clear hst
  go_enter Tryd.func32, Tryd.ntmps32
  go_wp2_with (first | (go_at_call 41; refine HC.out.mono ?_; rintro e w1 ⟨A, c, rfl, h2, h3⟩; have H2 := Lib.hid h2; have H3 := Lib.hid h3; clear h2 h3))
  go_ret
  exact ⟨A, c, rfl, H2.out, H3.out⟩
end Go.Proofs.YtaegekfdbhmcaaaDoor
