/-
  Do keys rise: of whatever iterator yields them; slices.Values of keys.
-/
import Derived.Test.YtdjfpdndaobohaaOrd
import Derived.Test.YtdjfpdndaobohaaApC
namespace Go.Proofs.Ytdjfpdndaobohaa
open Go.RowKit Go.Shelf
attribute [local go_sem] Oper.semAt_some
set_option maxRecDepth 100000
set_option linter.unusedSimpArgs false
set_option maxHeartbeats 2000000 in
theorem valsC_in (n : Nat) (hn : 1 ≤ n) (l Bs n₀ : Nat) (A : Option Addr) (c : Nat) (L : List Key4) (hL : L.length ≤ 1000) (J Jx : List Key4 → World → Prop) (W : World) (hJ : AbidesFrom W.heap.size J)
    (hY : ∀ pre x W, J pre W → pre.length < L.length → YieldAt Fence.wide (n - 1) Try.prog l #[x.val] W fun e W' =>
      (e = .returned (.bool true) ∧ J (pre ++ [x]) W' ∧ Below n₀ W W') ∨ (e = .returned (.bool false) ∧ Jx (pre ++ [x]) W'))
    (hBs : W.cell? ⟨Bs, 0, none⟩ = some (.slice A L.length c)) (hBl : Bs < n₀) (hn0 : n₀ ≤ W.heap.size) (hr : Rd W n₀ A (L.flatMap Key4.cells)) (h0 : J [] W) :
    CallsIn Fence.wide n Try.prog 81 #[.func (.yield l) #[] #[], .pointer (some ⟨Bs, 0, none⟩)] W fun e W' => (∃ v, e = .returned v) ∧
      ((∃ ys, ys = L ∧ J ys W') ∨ (∃ pre, (∃ k, k ≤ L.length ∧ pre = L.take k) ∧ Jx pre W')) := by
  have HR := Lib.hid hr
  have HBs := Lib.hid hBs
  have hlt0 : Bs < W.heap.size := by omega
  clear hr
  refine callsIn_of_wp Try.func81 rfl trivial ?_ rfl
  simp only [Try.ntmps81, List.size_toArray, List.length_cons, List.length_nil, Nat.reduceAdd, Nat.reduceSub, Array.replicate_succ, Array.replicate_zero, List.push_toArray, List.append_toArray, List.nil_append, List.cons_append]
  gi_wp2
  gi_loopw [7] (fun i wr => ∃ k : Nat, k ≤ L.length ∧ i = .int .i64 k ∧ J (L.take k) wr ∧ Below n₀ W wr) (fun i _ => L.length - (intOf i).toNat)
  case atStart => exact ⟨0, Nat.zero_le _, rfl, h0, Below.refl _ _⟩
  case round =>
    obtain ⟨k, hk, rfl, hJs, hb⟩ := hrel
    by_cases hlt : k < L.length
    · obtain ⟨b, off, rfl, hB, c0, c1, c2, c3⟩ := (HR.out.below hb (Nat.le_refl _)).key4 hlt
      have hsn := take_snoc L k hlt
      obtain ⟨x, hx⟩ : ∃ x, L[k] = x := ⟨_, rfl⟩
      rw [hx] at c0 c1 c2 c3 hsn
      have HSN := Lib.hid hsn
      have hJ2 := hJ _ wr (wr.alloc (.cells #[.int .i64 x.frame, .int .i64 x.emitter, .int .i64 x.kind, .int .i64 x.ord] 23)) none hJs (World.grownBy_alloc _ _ none) (fun r e => by cases e)
      obtain ⟨fn, tmps, assign, body, hy, hR⟩ := hY _ x _ hJ2 (by rw [List.length_take]; omega)
      have hba := hb.alloc (Nat.le_trans hn0 hb.size) (.cells #[.int .i64 x.frame, .int .i64 x.emitter, .int .i64 x.kind, .int .i64 x.ord] 23)
      dsimp only [Key4.val] at hy
      have HJ2 := Lib.hid hba
      clear hsn hJs hJ2 hba hx
      gi_wp2
      refine hR.mono ?_
      rintro e W3 (⟨rfl, hJ3, hk3⟩ | ⟨rfl, hJx3⟩)
      · gi_wp2
        go_roundw
        case rel => exact ⟨k + 1, by omega, by go_num, by rw [HSN.out]; exact hJ3, HJ2.out.trans hk3⟩
        case measure => simp [intOf]; omega
      · gi_wp2
        refine bodyPost_ret (results_none rfl _ _ _) rfl ?_
        exact ⟨⟨_, rfl⟩, .inr ⟨_, ⟨k + 1, by omega, HSN.out.symm⟩, hJx3⟩⟩
    · obtain rfl : k = L.length := by omega
      gi_wp2
      go_end0
      exact ⟨⟨_, rfl⟩, .inl ⟨_, by rw [List.take_of_length_le (Nat.le_refl _)], hJs⟩⟩
theorem vals_stops (n : Nat) (hn : 1 ≤ n) (Bs n₀ : Nat) (A : Option Addr) (c : Nat) (L : List Key4) (hL : L.length ≤ 1000) (w : World) (hBs : w.cell? ⟨Bs, 0, none⟩ = some (.slice A L.length c)) (hBl : Bs < n₀) (hn0 : n₀ ≤ w.heap.size) (hr : Rd w n₀ A (L.flatMap Key4.cells)) :
    SeqStopsK Fence.wide n Try.prog 81 #[.pointer (some ⟨Bs, 0, none⟩)] (fun x : Key4 => #[x.val]) (Below n₀) (fun xs => xs = L) (fun pre => ∃ k, k ≤ L.length ∧ pre = L.take k) L.length w := fun l J Jx W hW hJ _ hY h0 =>
  valsC_in n hn l Bs n₀ A c L hL J Jx W hJ hY ((hW.cell (p := ⟨Bs, 0, none⟩) (Nat.lt_of_lt_of_le hBl hn0)).trans hBs) hBl (Nat.le_trans hn0 hW.size) (hr.below hW hn0) h0
set_option maxHeartbeats 4000000 in
theorem rising_gen (gf : Nat) (lb : Array Value) (hent : ∀ args w, (callFunc gf args).run Try.prog w = .ok (.enter gf args) w) (ks : List Key4) (w : World) (hst : ∀ W, Below w.heap.size w W → SeqStopsK Fence.wide 2 Try.prog gf lb (fun x : Key4 => #[x.val]) (Below w.heap.size) (fun xs => xs = ks) (fun pre => ∃ k, k ≤ ks.length ∧ pre = ks.take k) ks.length W) :
    CallsIn Fence.wide 3 Try.prog 39 #[.func (.func gf) #[] lb] w fun e w' => e = .returned (.bool (risingF key0 ks)) ∧ Below w.heap.size w w' := by
  have HST := Lib.hid hst
  clear hst
  refine callsIn_of_wp_marks Try.func39 rfl trivial ?_ rfl
  simp only [Try.ntmps39, List.size_toArray, List.length_cons, List.length_nil, Nat.reduceAdd, Nat.reduceSub, Array.replicate_succ, Array.replicate_zero, List.push_toArray, List.append_toArray, List.nil_append, List.cons_append]
  gi_wp2
  have k0 : Blk ((w.alloc (.cells #[.bool false] 4)).alloc (.cells #[.int .i64 (-1), .int .i64 0, .int .i64 0, .int .i64 0] 23)) w.heap.size 4 #[.bool false] := (Blk.new _ _ _).alloc _
  have k1 : Blk ((w.alloc (.cells #[.bool false] 4)).alloc (.cells #[.int .i64 (-1), .int .i64 0, .int .i64 0, .int .i64 0] 23)) (w.heap.size + 1) 23 key0.cells.toArray := by
    have := Blk.new (w.alloc (.cells #[.bool false] 4)) 23 #[.int .i64 (-1), .int .i64 0, .int .i64 0, .int .i64 0]
    rw [World.size_alloc] at this
    exact this
  have hb2 : Below w.heap.size w ((w.alloc (.cells #[.bool false] 4)).alloc (.cells #[.int .i64 (-1), .int .i64 0, .int .i64 0, .int .i64 0] 23)) := bAlloc (bAlloc (Below.refl _ _) _) _
  have hz2 : ((w.alloc (.cells #[.bool false] 4)).alloc (.cells #[.int .i64 (-1), .int .i64 0, .int .i64 0, .int .i64 0] 23)).heap.size = w.heap.size + 2 := by simp
  obtain ⟨W2, hW2⟩ : ∃ W2, (w.alloc (.cells #[.bool false] 4)).alloc (.cells #[.int .i64 (-1), .int .i64 0, .int .i64 0, .int .i64 0] 23) = W2 := ⟨_, rfl⟩
  rw [hW2] at k0 k1 hb2 hz2 ⊢
  clear hW2
  refine wpIn_rangeFunc_ownH rfl (by decide) (gf := gf) (lb := lb) rfl trivial hent
    (HST.out W2 hb2) belowK_t (belowK_b (by omega)) (Below.refl _ _) (fun _ => rfl)
    (fun pre W => (Blk W w.heap.size 4 #[.bool false] ∧ Blk W (w.heap.size + 1) 23 (lastF key0 pre).cells.toArray ∧ risingF key0 pre = true) ∧ Below w.heap.size w W)
    (fun c pre W => (c = .ret ∧ risingF key0 pre = false ∧ Blk W w.heap.size 4 #[.bool false]) ∧ Below w.heap.size w W)
    (OwnFrom.and (fun s A B row hs hg hr => ⟨hs.1.owned hg hr, hs.2.1.owned hg hr, hs.2.2⟩) (ownFrom_below (Nat.le_refl _) (by omega)))
    (fun c => OwnFrom.and (fun s A B row hs hg hr => ⟨hs.1, hs.2.1, hs.2.2.owned hg hr⟩) (ownFrom_below (Nat.le_refl _) (by omega)))
    ⟨⟨k0, k1, rfl⟩, hb2⟩
    (fun x a' W => ∃ Bx, w.heap.size + 1 < Bx ∧ Blk W Bx 23 x.cells.toArray ∧ a' = { tmps := #[.func (.func gf) #[] lb, undef, .pointer (some ⟨w.heap.size, 0, none⟩), .pointer (some ⟨w.heap.size + 1, 0, none⟩), .pointer (some ⟨Bx, 0, none⟩), key0.val, .func (.func gf) #[] lb, x.val, undef, undef, undef, undef, undef, undef, undef, undef, undef, undef], defers := [] })
    (fun x a' s A B row hs hg hr => by obtain ⟨Bx, h1, h2, h3⟩ := hs; exact ⟨Bx, h1, h2.owned hg hr, h3⟩)
    ?assign ?body ?done ?stop
  case assign =>
    rintro l pre x W K ⟨⟨h0, h1, h2⟩, hB⟩ hK
    have hx : x.val = .agg #[.int .i64 x.frame, .int .i64 x.emitter, .int .i64 x.kind, .int .i64 x.ord] := rfl
    rw [hx]
    have hl1 := h1.lt
    gi_wp2
    exact hK _ _ ((KeepsOthers.alloc _ _).from _) ((Below.refl _ W).alloc hB.size _) ⟨⟨h0.alloc _, h1.alloc _, h2⟩, hB.alloc hB.size _⟩ ⟨W.heap.size, hl1, Blk.new _ _ _, rfl⟩
  case body =>
    rintro l pre x a' W hl - ⟨⟨h0, h1, h2⟩, hB⟩ ⟨Bx, hBx, bX, rfl⟩ hlt
    have hsn := risingF_snoc pre key0 x
    rw [h2, Bool.true_and] at hsn
    have hls := lastF_snoc pre key0 x
    obtain ⟨y, hy⟩ : ∃ y, lastF key0 pre = y := ⟨_, rfl⟩
    rw [hy] at h1 hsn
    obtain ⟨x0, x1, x2, x3⟩ := (show Blk W Bx 23 #[.int .i64 x.frame, .int .i64 x.emitter, .int .i64 x.kind, .int .i64 x.ord] from bX).key
    have hbx := bX.lt
    have HSN := Lib.hid hsn
    have HLS := Lib.hid hls
    have H0 := Lib.hid h0
    have H1 := Lib.hid h1
    have HX := Lib.hid bX
    have HB := Lib.hid hB
    have hw0 : w.heap.size ≤ W.heap.size := hB.size
    clear hsn hls h0 h1 bX hB h2 hy
    cases hk : keyOk x
    · have hf : risingF key0 (pre ++ [x]) = false := by rw [HSN.out, hk]; rfl
      have HK := Lib.hid hk
      have HF := Lib.hid hf
      clear hk hf
      gi_wp2_with (first | (refine ⟨trivial, ?_⟩; gi_at_call 46; refine (CallsIn.inRound l (callsIn_wide.2 (key_any x _))).mono ?_; rw [HK.out]; rintro e w1 ⟨rfl, hb1⟩; have q0 := (H0.out.on hb1).cell 0; have q1 := (H0.out.on hb1).frozen 0; have ql := (H0.out.on hb1).lt; simp only [List.getElem?_toArray, List.getElem?_cons_zero] at q0; have HB1 := Lib.hid hb1; clear hb1))
      refine ⟨trivial, ?_⟩
      gi_wp2
      have hk1 := H0.out.on HB1.out
      exact ⟨((below_others HB1.out).trans (KeepsOthers.setCell _ _ _)).from _, ⟨rfl, HF.out, hk1.set 0 (.bool false)⟩, (HB.out.trans (HB1.out.mono hw0)).setCell (p := ⟨w.heap.size, 0, none⟩) (Nat.le_refl _) _⟩
    · have HK := Lib.hid hk
      clear hk
      by_cases hc : cmpK y x < 0
      · have hcd : decide (0 ≤ cmpK y x) = false := decide_eq_false (by omega)
        have hf : risingF key0 (pre ++ [x]) = true := by rw [HSN.out, HK.out, decide_eq_true hc]; rfl
        have HF := Lib.hid hf
        clear hf
        gi_wp2_with (first
          | (refine ⟨trivial, ?_⟩; gi_at_call 46; refine (CallsIn.inRound l (callsIn_wide.2 (key_any x _))).mono ?_; rw [HK.out]; rintro e w1 ⟨rfl, hb1⟩; have ⟨p0, p1, p2, p3⟩ := (HX.out.on hb1).key; have ⟨r0, r1, r2, r3⟩ := (H1.out.on hb1).key; have rl := (H1.out.on hb1).lt; have pl := (HX.out.on hb1).lt; have HB1 := Lib.hid hb1; clear hb1)
          | (refine ⟨trivial, ?_⟩; gi_at_call 23; refine (CallsIn.inRound l (callsIn_wide.2 (compare_any y x _))).mono ?_; rintro e w2 ⟨rfl, hb2⟩; have hb12 := bTrans HB1.out hb2; have ⟨s0, s1, s2, s3⟩ := (HX.out.on hb12).key; have ⟨t0, t1, t2, t3⟩ := (H1.out.on hb12).key; have u0 := (H1.out.on hb12).frozen 0; have u1 := (H1.out.on hb12).frozen 1; have u2 := (H1.out.on hb12).frozen 2; have u3 := (H1.out.on hb12).frozen 3; have tl := (H1.out.on hb12).lt; have sl := (HX.out.on hb12).lt; have HB2 := Lib.hid hb12; clear hb2 hb12))
        have hk0 := H0.out.on HB2.out
        have hk1 := H1.out.on HB2.out
        have hB2 := HB2.out.mono hw0
        have hBB : Below w.heap.size W ((((w2.setCell ⟨w.heap.size + 1, 0, none⟩ (.int .i64 x.frame)).setCell ⟨w.heap.size + 1, 1, none⟩ (.int .i64 x.emitter)).setCell ⟨w.heap.size + 1, 2, none⟩ (.int .i64 x.kind)).setCell ⟨w.heap.size + 1, 3, none⟩ (.int .i64 x.ord)) := (((hB2.setCell (p := ⟨w.heap.size + 1, 0, none⟩) (Nat.le_succ _) _).setCell (p := ⟨w.heap.size + 1, 1, none⟩) (Nat.le_succ _) _).setCell (p := ⟨w.heap.size + 1, 2, none⟩) (Nat.le_succ _) _).setCell (p := ⟨w.heap.size + 1, 3, none⟩) (Nat.le_succ _) _
        refine ⟨(((((below_others HB2.out).trans (KeepsOthers.setCell _ _ _)).trans (KeepsOthers.setCell _ _ _)).trans (KeepsOthers.setCell _ _ _)).trans (KeepsOthers.setCell _ _ _)).from _, hBB, ⟨(((hk0.farG (by omega) _ _).farG (by omega) _ _).farG (by omega) _ _).farG (by omega) _ _, ?_, HF.out⟩, HB.out.trans hBB⟩
        rw [HLS.out]
        exact Blk.set4 hk1
      · have hcd : decide (0 ≤ cmpK y x) = true := decide_eq_true (by omega)
        have hf : risingF key0 (pre ++ [x]) = false := by rw [HSN.out, HK.out, decide_eq_false hc]; rfl
        have HF := Lib.hid hf
        clear hf
        gi_wp2_with (first
          | (refine ⟨trivial, ?_⟩; gi_at_call 46; refine (CallsIn.inRound l (callsIn_wide.2 (key_any x _))).mono ?_; rw [HK.out]; rintro e w1 ⟨rfl, hb1⟩; have ⟨p0, p1, p2, p3⟩ := (HX.out.on hb1).key; have ⟨r0, r1, r2, r3⟩ := (H1.out.on hb1).key; have rl := (H1.out.on hb1).lt; have pl := (HX.out.on hb1).lt; have HB1 := Lib.hid hb1; clear hb1)
          | (refine ⟨trivial, ?_⟩; gi_at_call 23; refine (CallsIn.inRound l (callsIn_wide.2 (compare_any y x _))).mono ?_; rintro e w2 ⟨rfl, hb2⟩; have hb12 := bTrans HB1.out hb2; have q0 := (H0.out.on hb12).cell 0; have q1 := (H0.out.on hb12).frozen 0; have ql := (H0.out.on hb12).lt; simp only [List.getElem?_toArray, List.getElem?_cons_zero] at q0; have HB2 := Lib.hid hb12; clear hb2 hb12))
        have hk1 := H0.out.on HB2.out
        exact ⟨((below_others HB2.out).trans (KeepsOthers.setCell _ _ _)).from _, ⟨rfl, HF.out, hk1.set 0 (.bool false)⟩, (HB.out.trans (HB2.out.mono hw0)).setCell (p := ⟨w.heap.size, 0, none⟩) (Nat.le_refl _) _⟩
  case done =>
    rintro D ys W hD rfl ⟨⟨h0, h1, h2⟩, hB⟩ hK
    have q0 := h0.cell 0
    have q1 := h0.frozen 0
    have ql := h0.lt
    simp only [List.getElem?_toArray, List.getElem?_cons_zero] at q0
    have H2 := Lib.hid h2
    have H0 := Lib.hid h0
    clear h1 h2 h0
    gi_wp2
    have hK' := (KeepsOthers.setCell W ⟨w.heap.size, 0, none⟩ (.bool true)).same D _ hK rfl
    refine ⟨by simp, .inl ⟨_, _, rfl, run_takeDeferred hK', ?_⟩⟩
    have hc5 := cell_kept (World.cell?_setCell_same' W ⟨w.heap.size, 0, none⟩ (.bool true) (by rw [q0]; rfl)) (grownBy_putObj' _ D (.deferred none)) (fun r e => by cases e; exact ⟨_, hK', rfl⟩)
    refine ⟨.bool true, ?_, ret_bool H2.out.symm, (hB.setCell (p := ⟨w.heap.size, 0, none⟩) (Nat.le_refl _) _).trans (belowK_b (w := w) (Nat.le_refl _) _ D _ _ (by omega) hK' rfl rfl)⟩
    simp [results, Try.results39, go_sem, hc5]
  case stop =>
    rintro D c pre W hD ⟨k, hk, rfl⟩ ⟨⟨rfl, h1, h2⟩, hB⟩ hK
    have q0 := h2.cell 0
    simp only [List.getElem?_toArray, List.getElem?_cons_zero] at q0
    have H1 := Lib.hid (risingF_take _ _ _ h1)
    clear h1 h2
    gi_wp2
    refine ⟨by simp, .inl ⟨_, _, rfl, run_takeDeferred hK, ?_⟩⟩
    have hc5 := cell_kept q0 (grownBy_putObj' _ D (.deferred none)) (fun r e => by cases e; exact ⟨_, hK, rfl⟩)
    refine ⟨.bool false, ?_, ret_bool H1.out.symm, hB.trans (belowK_b (w := w) (Nat.le_refl _) W D _ _ (by omega) hK rfl rfl)⟩
    simp [results, Try.results39, go_sem, hc5]
theorem vals_any (A : Option Addr) (m c : Nat) (w : World) : Calls Try.prog 65 #[.slice A m c] w fun e w' => e = .returned (.func (.func 81) #[] #[.pointer (some ⟨w.heap.size, 0, none⟩)]) ∧ w' = w.alloc (.cells #[.slice A m c] 48) := by
  go_enter Try.func65, Try.ntmps65
  go_wp2
  go_ret
  exact ⟨rfl, rfl⟩
theorem risingK_any (Bs : Nat) (A : Option Addr) (c : Nat) (L : List Key4) (hL : L.length ≤ 1000) (w : World) (hBs : w.cell? ⟨Bs, 0, none⟩ = some (.slice A L.length c)) (hBl : Bs < w.heap.size) (hr : Rd w w.heap.size A (L.flatMap Key4.cells)) :
    Calls Try.prog 39 #[.func (.func 81) #[] #[.pointer (some ⟨Bs, 0, none⟩)]] w fun e w' => e = .returned (.bool (risingF key0 L)) ∧ Below w.heap.size w w' :=
  callsIn_wide.1 (rising_gen 81 _ (enters_of Try.func81 (by kernel_rfl) rfl) L w fun W hW =>
    vals_stops 2 (by decide) Bs w.heap.size A c L hL W ((hW.cell (p := ⟨Bs, 0, none⟩) hBl).trans hBs) hBl hW.size (hr.below hW (Nat.le_refl _)))
end Go.Proofs.Ytdjfpdndaobohaa
