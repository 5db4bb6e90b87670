/-
  A text cut in lines: the program's cut, walked.
-/
import Derived.Test.YtlonefjbcooaaaaDoorScK
namespace Go.Proofs.YtlonefjbcooaaaaDoor
open Go.RowKit
set_option maxRecDepth 100000
set_option linter.unusedSimpArgs false
theorem linesInfo : (Tryd.prog.info? 51).map (·.size) = some 4 := by kernel_rfl
theorem lines_put {W : World} {g : Nat} {Z C : Array Value} (K : Blk W g 51 Z) (hZ : Z.size = 4) (hC : C.size = 4) :
    ∃ wx, W.setCells g 0 C.toList = wx ∧ W.there g 0 C.size ∧ (∀ p : Addr, p = ⟨g, 0, none⟩ → (loadVar 51 p).run Tryd.prog wx = .ok (.agg C) wx) ∧ Blk wx g 51 C ∧ W.grownBy wx (some g) :=
  row_put Tryd.underlying51 rfl linesInfo K hZ hC
/-- What is known of the lines that were cut: the rest of the text is T. -/
structure CutP (ps : List (List UInt8)) (size : Nat) (T : List UInt8) (KD : List (List UInt8 × Nat × Bool)) (G : List (Nat × List (List UInt8))) (N : List Nat) (o a : Nat) : Prop where
  fg : G.map (·.2) = KD.map (fun e => cutL 32 e.1)
  fn : N = KD.map (·.2.1)
  fk : keptL ps 1 = KD ++ keptL (cutL 10 T) (a + 1)
  fe : KD = [] → ps.length = a + (cutL 10 T).length
  fo : ∀ e ∈ KD, e.2.2 = decide (e.2.1 = o) ∧ 1 ≤ e.2.1 ∧ e.2.1 ≤ a
  fot : o = 0 ∨ T = []
  len : a + T.length ≤ size
  kd : KD.length ≤ a
theorem CutP.start (t : List UInt8) (size : Nat) (h : t.length ≤ size) : CutP (cutL 10 t) size t [] [] [] 0 0 :=
  ⟨rfl, rfl, rfl, fun _ => by omega, fun e he => absurd he (by simp), .inl rfl, by omega, Nat.le_refl _⟩
section
variable {ps : List (List UInt8)} {size : Nat} {T x r : List UInt8} {KD : List (List UInt8 × Nat × Bool)} {G : List (Nat × List (List UInt8))} {N : List Nat} {o a : Nat}
theorem CutP.lens (h : CutP ps size T KD G N o a) : G.length = KD.length ∧ N.length = KD.length := by
  have h1 := congrArg List.length h.fg
  have h2 := congrArg List.length h.fn
  simp only [List.length_map] at h1 h2
  exact ⟨h1, h2⟩
theorem cutL_cons_tail (r : List UInt8) : ∃ p q, cutL 10 r = p :: q := by
  cases h : cutL 10 r with
  | nil => exact absurd h (cutL_ne _ _)
  | cons p q => exact ⟨p, q, rfl⟩
/-- The last piece has no end. -/
theorem CutP.open_ (h : CutP ps size T KD G N o a) (hT : T ≠ []) (hn : 10 ∉ T) (g : Nat) : CutP ps size [] (KD ++ [(T, a + 1, true)]) (G ++ [(g, cutL 32 T)]) (N ++ [a + 1]) (a + 1) (a + 1) := by
  have hk := h.fk
  rw [cutL_none 10 T hn] at hk
  have ho : o = 0 := h.fot.resolve_right hT
  have hpos := List.length_pos_iff.2 hT
  refine ⟨by rw [List.map_append, List.map_append, h.fg]; rfl, by rw [h.fn, List.map_append]; rfl, ?_, fun e => absurd e (by simp), fun e he => ?_, .inr rfl, ?_, ?_⟩
  · rw [hk]
    simp [keptL, cutL, hT]
  · rcases List.mem_append.1 he with he | he
    · obtain ⟨h1, h2, h3⟩ := h.fo e he
      refine ⟨?_, h2, by omega⟩
      rw [h1, ho]
      have a1 : decide (e.2.1 = 0) = false := decide_eq_false (by omega)
      have a2 : decide (e.2.1 = a + 1) = false := decide_eq_false (by omega)
      rw [a1, a2]
    · rw [List.mem_singleton.1 he]
      exact ⟨(decide_eq_true rfl).symm, by simp, Nat.le_refl _⟩
  · have := h.len; simp; omega
  · have := h.kd; simp; omega
/-- A piece that says something. -/
theorem CutP.kept (h : CutP ps size (x ++ 10 :: r) KD G N o a) (hn : 10 ∉ x) (hx : x ≠ []) (h35 : x.head? ≠ some 35) (g : Nat) : CutP ps size r (KD ++ [(x, a + 1, false)]) (G ++ [(g, cutL 32 x)]) (N ++ [a + 1]) o (a + 1) := by
  have hk := h.fk
  rw [cutL_of 10 r x hn] at hk
  obtain ⟨p, q, hpq⟩ := cutL_cons_tail r
  have ho : o = 0 := h.fot.resolve_right (by simp)
  refine ⟨by rw [List.map_append, List.map_append, h.fg]; rfl, by rw [h.fn, List.map_append]; rfl, ?_, fun e => absurd e (by simp), fun e he => ?_, .inl ho, ?_, ?_⟩
  · rw [hk, keptL, if_neg (by rintro (e | ⟨-, e⟩); exact hx e; exact h35 e), hpq]
    simp
  · rcases List.mem_append.1 he with he | he
    · obtain ⟨h1, h2, h3⟩ := h.fo e he
      exact ⟨h1, h2, by omega⟩
    · rw [List.mem_singleton.1 he, ho]
      exact ⟨(decide_eq_false (by simp)).symm, by simp, Nat.le_refl _⟩
  · have := h.len; simp at this; omega
  · have := h.kd; simp; omega
/-- A piece that says nothing. -/
theorem CutP.skip (h : CutP ps size (x ++ 10 :: r) KD G N o a) (hn : 10 ∉ x) (hx : x = [] ∨ x.head? = some 35) : CutP ps size r KD G N o (a + 1) := by
  have hk := h.fk
  rw [cutL_of 10 r x hn] at hk
  obtain ⟨p, q, hpq⟩ := cutL_cons_tail r
  have ho : o = 0 := h.fot.resolve_right (by simp)
  refine ⟨h.fg, h.fn, ?_, fun e => ?_, fun e he => ?_, .inl ho, ?_, ?_⟩
  · rw [hk, keptL, if_pos (by rcases hx with e | e; exact .inl e; exact .inr ⟨by rw [hpq]; simp, e⟩)]
    simp
  · have := h.fe e
    rw [cutL_of 10 r x hn, List.length_cons] at this
    omega
  · obtain ⟨h1, h2, h3⟩ := h.fo e he
    exact ⟨h1, h2, by omega⟩
  · have := h.len; simp at this; omega
  · have := h.kd; omega
end
def lenOf : Value → Nat
  | .string s => s.size
  | _ => 0
/-- What the lines of a text are, in memory. -/
def CutQ (ps : List (List UInt8)) (w : World) (e : Ending) (w' : World) : Prop := ∃ G N l at_ o a KD, e = .returned (.agg #[l, at_, .int .i64 (o : Nat), .int .i64 (a : Nat)]) ∧ OwnL w' w.heap.size 43 1 l vF G ∧ OwnL w' w.heap.size 3 1 at_ iF N ∧ (∀ e ∈ G, OwnL w' w.heap.size 9 1 (.slice (some ⟨e.1, 0, none⟩) e.2.length e.2.length) sF e.2) ∧ CutP ps 200000 [] KD G N o a ∧ Below w.heap.size w w'
set_option maxHeartbeats 8000000 in
theorem cut_any (t : List UInt8) (w : World) (hs : t.length ≤ 200000) (h : ScW w w.heap.size) :
    Calls Tryd.prog 15 #[.string ⟨t.toArray⟩] w (CutQ (cutL 10 t) w) := by
  have HS := Lib.hid h
  have HP0 := Lib.hid (CutP.start t 200000 hs)
  obtain ⟨ps, hps⟩ : ∃ ps, cutL 10 t = ps := ⟨_, rfl⟩
  rw [hps] at HP0 ⊢
  clear h hps
  go_enter Tryd.func15, Tryd.ntmps15
  go_upto_region 1 with fail
  refine named1 (F := fun W => Code.wp _ _ _ _ W) ?_
  intro w0 k0 hb0 hz0
  have K0 := Lib.hid k0
  have HB0 := Lib.hid hb0
  have hz0' : w.heap.size < w0.heap.size := by omega
  clear k0 hb0 hz0
  obtain ⟨k, hk⟩ : ∃ k, w0.heap.size = k := ⟨_, rfl⟩
  go_wp2_with fail
  go_loopw [0] (fun tx wr => ∃ T KD G N l at_ o a, tx = .string ⟨T.toArray⟩ ∧ T.length ≤ 200000 ∧ Hid (CutP ps 200000 T KD G N o a) ∧ Hid (CutW wr w.heap.size w0.heap.size G N l at_ o a) ∧ Hid (Below w.heap.size w wr)) (fun tx _ => lenOf tx)
  case atStart =>
    refine ⟨t, [], [], [], .slice none 0 0, .slice none 0 0, 0, 0, rfl, hs, HP0, Lib.hid ⟨Blk.new _ _ _, hz0', K0.out.alloc _, OwnL.nil, OwnL.nil, fun e he => absurd he (by simp)⟩, Lib.hid (bAlloc HB0.out _)⟩
  case round =>
    obtain ⟨T, KD, G, N, l, at_, o, a, rfl, hT, HP, HCW, HB⟩ := hrel
    rw [hk] at HCW
    have hPl := HP.out.len
    have hPk := HP.out.kd
    obtain ⟨hPG, hPN⟩ := HP.out.lens
    cases T with
    | nil =>
      obtain ⟨CL, hCL⟩ : ∃ CL : List Value, [l, at_, .int .i64 (o : Nat), .int .i64 (a : Nat)] = CL := ⟨_, rfl⟩
      have hC4 : CL.length = 4 := by rw [← hCL]; rfl
      have hC4a : CL.toArray.size = 4 := by rw [List.size_toArray, hC4]
      have k5 : Blk wr k 51 CL.toArray := by rw [← hCL]; exact HCW.out.blk
      have HE := Lib.hid (show Value.agg CL.toArray = .agg #[l, at_, .int .i64 (o : Nat), .int .i64 (a : Nat)] by rw [← hCL])
      have hC1 : CL.toArray.all (·.oneCell') = true := by
        obtain ⟨Al, cl, el⟩ := HCW.out.gl.shape
        obtain ⟨Aa, ca, ea⟩ := HCW.out.ga.shape
        rw [← hCL, el, ea]
        simp [Value.oneCell']
      have hr5 : wr.rangeAt k 0 CL := fun j v hv => by rw [Nat.zero_add, k5.cell]; simpa using hv
      have HR5 := Lib.hid hr5
      obtain ⟨wx, hwx, hth, hres, -, hgx⟩ := lines_put (C := CL.toArray) HCW.out.kx rfl hC4a
      have HTH := Lib.hid hth
      have HRES := Lib.hid hres
      have HWX := Lib.hid hwx
      have HGX := Lib.hid hgx
      have hkl := k5.lt
      clear hwx hth hres hgx k5 hr5 hCL
      go_wp2_with (first
        | (refine wpList_load_mid rfl 51 (.tmp 3) rfl k 0 rfl CL _ HR5.out Tryd.underlying51 rfl (by rw [hC4]; exact linesInfo) ?_)
        | (refine wpList_store_mid rfl 51 (.tmp 2) (.tmp 50) rfl w.heap.size 0 CL.toArray rfl rfl HTH.out (by rw [hC4a]; exact linesInfo) hC1 ?_; rw [HWX.out]))
      refine bodyPost_ret (results_c0 (a := 2) (t := 51) rfl rfl (HRES.out _ rfl)) rfl ?_
      have hkx := HCW.out.kx
      unfold CutQ
      exact ⟨G, N, l, at_, o, a, KD, by rw [HE.out], HCW.out.gl.kept HGX.out (.inr (hkx.apart HCW.out.gl (by decide))), HCW.out.ga.kept HGX.out (.inr (hkx.apart HCW.out.ga (by decide))), fun e he => (HCW.out.rows e he).kept HGX.out (.inr (hkx.apart (HCW.out.rows e he) (by decide))), HP.out, HB.out.grown HGX.out HB.out.size (fun q e => by cases e; exact Nat.le_refl _)⟩
    | cons b0 T0 =>
      obtain ⟨T, hTT⟩ : ∃ T, b0 :: T0 = T := ⟨_, rfl⟩
      rw [hTT] at hT HP hPl ⊢
      have hTne : T ≠ [] := by rw [← hTT]; simp
      have gT : (T == []) = false := by rw [beq_eq_false_iff_ne]; exact hTne
      have HSr := Lib.hid (HS.out.on HB.out)
      have HC := Lib.hid (cutS_any T wr (by omega) HSr.out)
      have HTN := Lib.hid hTne
      clear hTT hTne
      go_wp2_with fail
      go_at_call 35
      refine HC.out.mono ?_
      rintro e w2 ⟨x, r, bb, rfl, hcase, hb2⟩
      have HCW2 := Lib.hid (HCW.out.below hb2)
      have HB2 := Lib.hid (bTrans HB.out hb2)
      have HS2 := Lib.hid (HSr.out.on hb2)
      clear HCW HB HSr HC hb2
      obtain ⟨c0, c1, c2, c3, ck, cf⟩ := HCW2.out.cells
      have cf2 := cf 2
      have cf3 := cf 3
      clear cf
      have hak : k ≠ w.heap.size := by omega
      rcases hcase with ⟨rfl, rfl, rfl, hno⟩ | ⟨rfl, hTx, hno⟩
      · have HPN := Lib.hid (fun g => HP.out.open_ HTN.out hno g)
        clear hno
        go_upto_region 9 with fail
        obtain ⟨w3, hw3⟩ : ∃ w3, (w2.setCell ⟨k, 3, none⟩ (.int .i64 ((a : Int) + 1))).setCell ⟨k, 2, none⟩ (.int .i64 ((a : Int) + 1)) = w3 := ⟨_, rfl⟩
        have HCW3 : Hid (CutW w3 w.heap.size k G N l at_ (a + 1) (a + 1)) := by rw [← hw3]; exact Lib.hid ((HCW2.out.setA (a + 1) _ (by omega)).setO (a + 1) _ (by omega))
        have HB3 : Hid (Below w.heap.size w w3) := by rw [← hw3]; exact Lib.hid (Below.setCell (p := ⟨k, 2, none⟩) (Below.setCell (p := ⟨k, 3, none⟩) HB2.out (Nat.le_of_lt HCW2.out.low) _) (Nat.le_of_lt HCW2.out.low) _)
        have HS3 := Lib.hid (HS.out.on HB3.out)
        have hz3 := HB3.out.size
        rw [hw3]
        clear hw3 HCW2 HB2 HS2 c0 c1 c2 c3 ck cf2 cf3 HP
        obtain ⟨c0, c1, -, c3, ck, -⟩ := HCW3.out.cells
        have hxl : x.length ≤ 1000000 := by omega
        have HSP := Lib.hid (fun W (hW : Grown w3 W) => split_any x W hxl (HS3.out.on hW))
        obtain ⟨ws, hws⟩ : ∃ ws, cutL 32 x = ws := ⟨_, rfl⟩
        rw [hws] at HSP HPN
        clear hws
        refine wp_region_mixedU [.pure, .held, .pure, .make, .make, .tail, .pure, .tail] (by kernel_rfl) (by kernel_rfl) ?_
        (refine mixU_pure rfl rfl rfl (fun K hK => ?_); go_big_quiet_op; refine hK _ ?_; clear hK K)
        (refine mixU_held rfl rfl rfl (by first | exact fun _ h => h | exact fun _ h => h.2) (fun K hK => ?_); go_big_quiet_op; refine hK _ ?_; clear hK K)
        (refine mixU_pure rfl rfl rfl (fun K hK => ?_); go_big_quiet_op; refine hK _ ?_; clear hK K)
        refine mixU_act rfl rfl (fun _ h => h) (fun v => ∃ g, v = .slice (some ⟨g, 0, none⟩) ws.length ws.length) (fun v W => OwnL W w3.heap.size 9 1 v sF ws) (fun W hW => ?_) ?_
        · have HS := Lib.hid ((HSP.out W hW).mono (R' := fun e w' => ∃ v, e = .returned v ∧ ((∃ g, v = .slice (some ⟨g, 0, none⟩) ws.length ws.length) ∧ OwnL w' w3.heap.size 9 1 v sF ws) ∧ Grown W w') (by rintro e w' ⟨g, rfl, ho, hb⟩; exact ⟨_, rfl, ⟨⟨g, rfl⟩, ho.more hW.size⟩, hb⟩))
          go_simp
          exact HS.out
        rintro _ ⟨g, rfl⟩
        simp only [Act.put, List.setIfInBounds_toArray, List.set_cons_zero, List.set_cons_succ]
        refine mixU_act rfl rfl (fun _ h => h.2) (fun v => ∃ q, v = .slice (some ⟨q, 0, none⟩) 1 1) (fun v W => OwnL W w3.heap.size 9 1 (.slice (some ⟨g, 0, none⟩) ws.length ws.length) sF ws ∧ ∃ Bq q, v = .slice (some ⟨q, 0, none⟩) 1 1 ∧ Rd W Bq (some ⟨q, 0, none⟩) ([(g, ws)].flatMap vF)) (fun W hW => goL_mono (goL_bs1 appSS (.tmp 39) rfl (.slice (some ⟨g, 0, none⟩) ws.length ws.length) rfl rfl) (by
          rintro v W' ⟨rfl, rfl⟩
          exact ⟨⟨⟨_, rfl⟩, hW.1.alloc _, _, _, rfl, rd_one W 43 _ (g, ws) rfl⟩, bAlloc (Below.refl _ _) _⟩)) ?_
        rintro _ ⟨q, rfl⟩
        simp only [Act.put, List.setIfInBounds_toArray, List.set_cons_zero, List.set_cons_succ]
        refine mixU_write rfl rfl (fun v W' => ∃ A c, v = .slice A (G.length + 1) c ∧ OwnL W' w.heap.size 43 1 v vF (G ++ [(g, ws)]) ∧ ∃ W, CutW W w.heap.size k G N l at_ (a + 1) (a + 1) ∧ OwnL W w3.heap.size 9 1 (.slice (some ⟨g, 0, none⟩) ws.length ws.length) sF ws ∧ W.grownBy W' l.ownBlock ∧ Below w3.heap.size w3 W) (fun W hW => by
          obtain ⟨⟨ho, Bq, q', hq, hrd⟩, hgr⟩ := hW
          simp only [Value.slice.injEq, Option.some.injEq, Addr.mk.injEq, and_true] at hq
          subst hq
          have hcw := HCW3.out.below hgr
          refine goL_mono (goL_app appSS (.tmp 37) (.tmp 40) rfl w.heap.size l G [(g, ws)] hcw.gl rfl Bq _ 1 1 rfl rfl hrd (by simp; omega) (Nat.le_trans (by omega) (Below.size hgr))) ?_
          rintro v W' ⟨h1, h2⟩
          obtain ⟨A, c, rfl⟩ := h1.shape
          exact ⟨A, c, by rw [List.length_append]; rfl, h1, W, hcw, ho, h2, hgr⟩) ?_
        rintro _ W5 ⟨A5, c5, rfl, ho5, W4, hcw4, hx4, hg4, hb4⟩
        simp only [Act.put, List.setIfInBounds_toArray, List.set_cons_zero, List.set_cons_succ]
        (refine mixU_pure rfl rfl rfl (fun K hK => ?_); go_big_quiet_op; refine hK _ ?_; clear hK K)
        refine mixU_write rfl rfl (fun v V => v = undef ∧ CutW V w.heap.size k (G ++ [(g, ws)]) N (.slice A5 (G.length + 1) c5) at_ (a + 1) (a + 1) ∧ Below w.heap.size w V) (fun W hW => by
          have hW : Grown W5 W := hW
          have hcw := hcw4.appL (W1 := W) (x := (g, ws)) (grown_below hg4 hW) (ho5.below hW) (hx4.more (by omega))
          have hb : Below w.heap.size w W := (bTrans (bTrans HB3.out hb4) (Below.refl _ _)).grown (grown_below hg4 hW) (Nat.le_trans (by omega) (Below.size hb4)) (fun q e => hcw4.gl.base_le q e)
          have hbk : Blk W k 51 #[l, at_, .int .i64 ((a + 1) : Nat), .int .i64 (a + 1 : Nat)] := hcw4.blk.keptApart hcw4.gl (by decide) (grown_below hg4 hW)
          exact goL_one 48 (.tmp 42) (.tmp 41) rfl k 0 _ rfl rfl (Blk.there hbk (by show 0 + 1 ≤ 4; decide)) (by kernel_rfl) rfl rfl ⟨rfl, hcw, Below.setCell (p := ⟨k, 0, none⟩) hb (Nat.le_of_lt hcw4.low) _⟩) ?_
        rintro _ V6 ⟨rfl, hcw6, hb6⟩
        simp only [Act.put, List.setIfInBounds_toArray, List.set_cons_zero, List.set_cons_succ]
        refine mixU_nil ?_
        intro V7 hV7
        have hV7 : Grown V6 V7 := hV7
        have HCW7 := Lib.hid (hcw6.below hV7)
        have HB7 := Lib.hid (bTrans hb6 hV7)
        have HP7 := Lib.hid (HPN.out g)
        clear hcw6 hb6 hV7 hcw4 hx4 hg4 hb4 ho5 HSP c0 c1 c3 ck HPN
        obtain ⟨d0, d1, d2, d3, dk, df⟩ := HCW7.out.cells
        have df1 := df 1
        have hz7 := HB7.out.size
        clear df
        go_wp2_with (first
          | (at_builtin; refine wpList_app appI rfl (.tmp 44) (.tmp 47) rfl w.heap.size _ N [a + 1] (HCW7.out.ga.alloc _) rfl _ _ 1 1 rfl rfl (rd_one _ _ _ (a + 1) (by simp [iF])) (by simp; omega) (by simp; omega) ?_
             intro A8 c8 n8 w8 hn8 ho8 hg8
             have HO8 := Lib.hid ho8
             have HG8 := Lib.hid hg8
             have hk8 : Blk w8 k 51 _ := (HCW7.out.below (bAlloc (Below.refl _ _) _)).blk.keptApart (HCW7.out.ga.alloc _) (by decide) hg8
             have q1 := hk8.cell 1
             have q2 := hk8.frozen 1
             have HK8 := Lib.hid hk8
             clear ho8 hg8 hk8))
        go_roundw
        case rel =>
          rw [hk]
          refine ⟨[], KD ++ [(x, a + 1, true)], G ++ [(g, ws)], N ++ [a + 1], .slice A5 (G.length + 1) c5, .slice A8 n8 c8, (a + 1), a + 1, rfl, by have := HP7.out.len; omega, HP7, Lib.hid ?_, Lib.hid ?_⟩
          · exact (HCW7.out.below (bAlloc (Below.refl _ _) _)).appA HG8.out HO8.out
          · exact Below.setCell (p := ⟨k, 1, none⟩) ((bAlloc HB7.out _).grown HG8.out (by simp; omega) (fun q e => HCW7.out.ga.base_le q e)) (Nat.le_of_lt HCW7.out.low) _
        case measure => simp [lenOf, ByteArray.size]; first | omega | exact List.length_pos_iff.2 HTN.out
      · have hrl : r.length < T.length := by rw [hTx]; simp; omega
        have hxT : x.length < T.length := by rw [hTx]; simp <;> omega
        rw [hTx] at HP
        clear hTx
        have HNO := Lib.hid hno
        clear hno
        cases x with
        | nil =>
          have HPN := Lib.hid (HP.out.skip HNO.out (.inl rfl))
          go_wp2
          go_roundw
          case rel =>
            rw [hk]
            refine ⟨r, KD, G, N, l, at_, o, a + 1, rfl, by omega, HPN, Lib.hid ?_, Lib.hid ?_⟩
            · exact HCW2.out.setA (a + 1) _ (by omega)
            · exact Below.setCell (p := ⟨k, 3, none⟩) HB2.out (Nat.le_of_lt HCW2.out.low) _
          case measure => simp [lenOf, ByteArray.size]; omega
        | cons x0 xr =>
          obtain ⟨x, hxx⟩ : ∃ x, x0 :: xr = x := ⟨_, rfl⟩
          have hx0 : 0 < (⟨x.toArray⟩ : ByteArray).size := by subst hxx; simp [ByteArray.size]
          have hgx : (⟨x.toArray⟩ : ByteArray)[0]'hx0 = x0 := by subst hxx; rfl
          have hhd : x.head? = some x0 := by subst hxx; rfl
          have hne : x ≠ [] := by subst hxx; simp
          have gE : x.isEmpty = false := by subst hxx; rfl
          rw [hxx] at HP hxT HNO ⊢
          clear hxx
          by_cases hx35 : x0 = 35
          · have HPN := Lib.hid (HP.out.skip HNO.out (.inr (by rw [hhd, hx35])))
            have g35 : (((((⟨x.toArray⟩ : ByteArray)[0]'hx0).toNat : Nat) : Int) != 35) = false := by rw [hgx, hx35]; rfl
            clear hx35 hgx hhd hne
            go_wp2
            go_roundw
            case rel =>
              rw [hk]
              refine ⟨r, KD, G, N, l, at_, o, a + 1, rfl, by omega, HPN, Lib.hid ?_, Lib.hid ?_⟩
              · exact HCW2.out.setA (a + 1) _ (by omega)
              · exact Below.setCell (p := ⟨k, 3, none⟩) HB2.out (Nat.le_of_lt HCW2.out.low) _
            case measure => simp [lenOf, ByteArray.size]; omega
          · have g35 : (((((⟨x.toArray⟩ : ByteArray)[0]'hx0).toNat : Nat) : Int) != 35) = true := by
              rw [hgx, bne_iff_ne]; intro e; exact hx35 (UInt8.toNat_inj.1 (by show x0.toNat = 35; omega))
            have HPN := Lib.hid (fun g => HP.out.kept HNO.out hne (by rw [hhd]; simpa using hx35) g)
            clear hx35 hgx hhd hne
            go_upto_region 9 with fail
            obtain ⟨w3, hw3⟩ : ∃ w3, w2.setCell ⟨k, 3, none⟩ (.int .i64 ((a : Int) + 1)) = w3 := ⟨_, rfl⟩
            have HCW3 : Hid (CutW w3 w.heap.size k G N l at_ o (a + 1)) := by rw [← hw3]; exact Lib.hid (HCW2.out.setA (a + 1) _ (by omega))
            have HB3 : Hid (Below w.heap.size w w3) := by rw [← hw3]; exact Lib.hid (Below.setCell (p := ⟨k, 3, none⟩) HB2.out (Nat.le_of_lt HCW2.out.low) _)
            have HS3 := Lib.hid (HS.out.on HB3.out)
            have hz3 := HB3.out.size
            rw [hw3]
            clear hw3 HCW2 HB2 HS2 c0 c1 c2 c3 ck cf2 cf3 HP
            obtain ⟨c0, c1, -, c3, ck, -⟩ := HCW3.out.cells
            have hxl : x.length ≤ 1000000 := by omega
            have HSP := Lib.hid (fun W (hW : Grown w3 W) => split_any x W hxl (HS3.out.on hW))
            obtain ⟨ws, hws⟩ : ∃ ws, cutL 32 x = ws := ⟨_, rfl⟩
            rw [hws] at HSP HPN
            clear hws
            refine wp_region_mixedU [.pure, .held, .pure, .make, .make, .tail, .pure, .tail] (by kernel_rfl) (by kernel_rfl) ?_
            (refine mixU_pure rfl rfl rfl (fun K hK => ?_); go_big_quiet_op; refine hK _ ?_; clear hK K)
            (refine mixU_held rfl rfl rfl (by first | exact fun _ h => h | exact fun _ h => h.2) (fun K hK => ?_); go_big_quiet_op; refine hK _ ?_; clear hK K)
            (refine mixU_pure rfl rfl rfl (fun K hK => ?_); go_big_quiet_op; refine hK _ ?_; clear hK K)
            refine mixU_act rfl rfl (fun _ h => h) (fun v => ∃ g, v = .slice (some ⟨g, 0, none⟩) ws.length ws.length) (fun v W => OwnL W w3.heap.size 9 1 v sF ws) (fun W hW => ?_) ?_
            · have HS := Lib.hid ((HSP.out W hW).mono (R' := fun e w' => ∃ v, e = .returned v ∧ ((∃ g, v = .slice (some ⟨g, 0, none⟩) ws.length ws.length) ∧ OwnL w' w3.heap.size 9 1 v sF ws) ∧ Grown W w') (by rintro e w' ⟨g, rfl, ho, hb⟩; exact ⟨_, rfl, ⟨⟨g, rfl⟩, ho.more hW.size⟩, hb⟩))
              go_simp
              exact HS.out
            rintro _ ⟨g, rfl⟩
            simp only [Act.put, List.setIfInBounds_toArray, List.set_cons_zero, List.set_cons_succ]
            refine mixU_act rfl rfl (fun _ h => h.2) (fun v => ∃ q, v = .slice (some ⟨q, 0, none⟩) 1 1) (fun v W => OwnL W w3.heap.size 9 1 (.slice (some ⟨g, 0, none⟩) ws.length ws.length) sF ws ∧ ∃ Bq q, v = .slice (some ⟨q, 0, none⟩) 1 1 ∧ Rd W Bq (some ⟨q, 0, none⟩) ([(g, ws)].flatMap vF)) (fun W hW => goL_mono (goL_bs1 appSS (.tmp 39) rfl (.slice (some ⟨g, 0, none⟩) ws.length ws.length) rfl rfl) (by
              rintro v W' ⟨rfl, rfl⟩
              exact ⟨⟨⟨_, rfl⟩, hW.1.alloc _, _, _, rfl, rd_one W 43 _ (g, ws) rfl⟩, bAlloc (Below.refl _ _) _⟩)) ?_
            rintro _ ⟨q, rfl⟩
            simp only [Act.put, List.setIfInBounds_toArray, List.set_cons_zero, List.set_cons_succ]
            refine mixU_write rfl rfl (fun v W' => ∃ A c, v = .slice A (G.length + 1) c ∧ OwnL W' w.heap.size 43 1 v vF (G ++ [(g, ws)]) ∧ ∃ W, CutW W w.heap.size k G N l at_ o (a + 1) ∧ OwnL W w3.heap.size 9 1 (.slice (some ⟨g, 0, none⟩) ws.length ws.length) sF ws ∧ W.grownBy W' l.ownBlock ∧ Below w3.heap.size w3 W) (fun W hW => by
              obtain ⟨⟨ho, Bq, q', hq, hrd⟩, hgr⟩ := hW
              simp only [Value.slice.injEq, Option.some.injEq, Addr.mk.injEq, and_true] at hq
              subst hq
              have hcw := HCW3.out.below hgr
              refine goL_mono (goL_app appSS (.tmp 37) (.tmp 40) rfl w.heap.size l G [(g, ws)] hcw.gl rfl Bq _ 1 1 rfl rfl hrd (by simp; omega) (Nat.le_trans (by omega) (Below.size hgr))) ?_
              rintro v W' ⟨h1, h2⟩
              obtain ⟨A, c, rfl⟩ := h1.shape
              exact ⟨A, c, by rw [List.length_append]; rfl, h1, W, hcw, ho, h2, hgr⟩) ?_
            rintro _ W5 ⟨A5, c5, rfl, ho5, W4, hcw4, hx4, hg4, hb4⟩
            simp only [Act.put, List.setIfInBounds_toArray, List.set_cons_zero, List.set_cons_succ]
            (refine mixU_pure rfl rfl rfl (fun K hK => ?_); go_big_quiet_op; refine hK _ ?_; clear hK K)
            refine mixU_write rfl rfl (fun v V => v = undef ∧ CutW V w.heap.size k (G ++ [(g, ws)]) N (.slice A5 (G.length + 1) c5) at_ o (a + 1) ∧ Below w.heap.size w V) (fun W hW => by
              have hW : Grown W5 W := hW
              have hcw := hcw4.appL (W1 := W) (x := (g, ws)) (grown_below hg4 hW) (ho5.below hW) (hx4.more (by omega))
              have hb : Below w.heap.size w W := (bTrans (bTrans HB3.out hb4) (Below.refl _ _)).grown (grown_below hg4 hW) (Nat.le_trans (by omega) (Below.size hb4)) (fun q e => hcw4.gl.base_le q e)
              have hbk : Blk W k 51 #[l, at_, .int .i64 (o : Nat), .int .i64 (a + 1 : Nat)] := hcw4.blk.keptApart hcw4.gl (by decide) (grown_below hg4 hW)
              exact goL_one 48 (.tmp 42) (.tmp 41) rfl k 0 _ rfl rfl (Blk.there hbk (by show 0 + 1 ≤ 4; decide)) (by kernel_rfl) rfl rfl ⟨rfl, hcw, Below.setCell (p := ⟨k, 0, none⟩) hb (Nat.le_of_lt hcw4.low) _⟩) ?_
            rintro _ V6 ⟨rfl, hcw6, hb6⟩
            simp only [Act.put, List.setIfInBounds_toArray, List.set_cons_zero, List.set_cons_succ]
            refine mixU_nil ?_
            intro V7 hV7
            have hV7 : Grown V6 V7 := hV7
            have HCW7 := Lib.hid (hcw6.below hV7)
            have HB7 := Lib.hid (bTrans hb6 hV7)
            have HP7 := Lib.hid (HPN.out g)
            clear hcw6 hb6 hV7 hcw4 hx4 hg4 hb4 ho5 HSP c0 c1 c3 ck HPN
            obtain ⟨d0, d1, d2, d3, dk, df⟩ := HCW7.out.cells
            have df1 := df 1
            have hz7 := HB7.out.size
            clear df
            go_wp2_with (first
              | (at_builtin; refine wpList_app appI rfl (.tmp 44) (.tmp 47) rfl w.heap.size _ N [a + 1] (HCW7.out.ga.alloc _) rfl _ _ 1 1 rfl rfl (rd_one _ _ _ (a + 1) (by simp [iF])) (by simp; omega) (by simp; omega) ?_
                 intro A8 c8 n8 w8 hn8 ho8 hg8
                 have HO8 := Lib.hid ho8
                 have HG8 := Lib.hid hg8
                 have hk8 : Blk w8 k 51 _ := (HCW7.out.below (bAlloc (Below.refl _ _) _)).blk.keptApart (HCW7.out.ga.alloc _) (by decide) hg8
                 have q1 := hk8.cell 1
                 have q2 := hk8.frozen 1
                 have HK8 := Lib.hid hk8
                 clear ho8 hg8 hk8))
            go_roundw
            case rel =>
              rw [hk]
              refine ⟨r, KD ++ [(x, a + 1, false)], G ++ [(g, ws)], N ++ [a + 1], .slice A5 (G.length + 1) c5, .slice A8 n8 c8, o, a + 1, rfl, by have := HP7.out.len; omega, HP7, Lib.hid ?_, Lib.hid ?_⟩
              · exact (HCW7.out.below (bAlloc (Below.refl _ _) _)).appA HG8.out HO8.out
              · exact Below.setCell (p := ⟨k, 1, none⟩) ((bAlloc HB7.out _).grown HG8.out (by simp; omega) (fun q e => HCW7.out.ga.base_le q e)) (Nat.le_of_lt HCW7.out.low) _
            case measure => simp [lenOf, ByteArray.size]; first | omega | exact List.length_pos_iff.2 HTN.out
end Go.Proofs.YtlonefjbcooaaaaDoor
