/-
  The walks beneath: ColE, EvsI.
-/
import Derived.Test.YtibeihcpehikoaaGreatMq44
import Derived.Test.YtibeihcpehikoaaGreatMq45
import Derived.Test.YtibeihcpehikoaaGreatMq42
namespace Go.Proofs.YtibeihcpehikoaaGreat
open Go.RowKit Go.Shelf
attribute [local go_sem] Oper.semAt_some
set_option maxRecDepth 100000
set_option linter.unusedSimpArgs false
/-- AppendSeq to nothing. -/
theorem appendSeqE_in (gf : Nat) (lb : Array Value) (hent : ∀ args w, (callFunc gf args).run Tryz.prog w = .ok (.enter gf args) w) (L : List Ev) (hL : L.length ≤ 1000000) (w : World)
    (hst : ∀ W, Below w.heap.size w W → SeqStopsK Fence.wide 2 Tryz.prog gf lb (fun x : Ev => #[x.val]) (Below w.heap.size) (fun xs => xs = L) (fun pre => ∃ k, k ≤ L.length ∧ pre = L.take k) L.length W) :
    CallsIn Fence.wide 3 Tryz.prog 154 #[.slice none 0 0, .func (.func gf) #[] lb] w fun e w' => ∃ (A : Option Addr) (c : Nat), e = .returned (.slice A L.length c) ∧ OwnL w' w.heap.size 62 9 (.slice A L.length c) Ev.cells L ∧ Below w.heap.size w w' := by
  have HST := Lib.hid hst
  clear hst
  refine callsIn_of_wp_marks Tryz.func154 rfl trivial ?_ rfl
  simp only [Tryz.ntmps154, List.size_toArray, List.length_cons, List.length_nil, Nat.reduceAdd, Nat.reduceSub, Array.replicate_succ, Array.replicate_zero, List.push_toArray, List.append_toArray, List.nil_append, List.cons_append]
  gi_wp2
  have k0 := Blk.new w 52 #[.slice none 0 0]
  have hb2 : Below w.heap.size w (w.alloc (.cells #[.slice none 0 0] 52)) := bAlloc (Below.refl _ _) _
  have hz2 : (w.alloc (.cells #[.slice none 0 0] 52)).heap.size = w.heap.size + 1 := by simp
  obtain ⟨W2, hW2⟩ : ∃ W2, w.alloc (.cells #[.slice none 0 0] 52) = W2 := ⟨_, rfl⟩
  rw [hW2] at k0 hb2 hz2 ⊢
  clear hW2
  refine wpIn_rangeFunc_ownH rfl (by decide) (gf := gf) (lb := lb) rfl trivial hent
    (HST.out W2 hb2) belowK_t (belowK_b (by omega)) (Below.refl _ _) (fun _ => rfl)
    (fun pre W => (∃ A1 c1, Blk W w.heap.size 52 #[.slice A1 pre.length c1] ∧ OwnL W (w.heap.size + 1) 62 9 (.slice A1 pre.length c1) Ev.cells pre) ∧ Below w.heap.size w W)
    (fun _ _ _ => False)
    (OwnFrom.and (fun s A B row hs hg hr => by obtain ⟨A1, c1, h1, h2⟩ := hs; exact ⟨A1, c1, lg_owned h1 hg hr, lg_rowOwned h2 hg hr⟩) (ownFrom_below (Nat.le_refl _) (by omega)))
    (fun _ _ _ _ _ h _ _ => h)
    ⟨⟨none, 0, k0, OwnL.nil⟩, hb2⟩
    (fun x a' W => ∃ Bx, w.heap.size < Bx ∧ Blk W Bx 62 x.cells.toArray ∧ a' = { tmps := #[.slice none 0 0, .func (.func gf) #[] lb, .pointer (some ⟨w.heap.size, 0, none⟩), undef, .slice none 0 0, .pointer (some ⟨Bx, 0, none⟩), .func (.func gf) #[] lb, x.val, undef, undef, undef, undef, undef], defers := [] })
    (fun x a' s A B row hs hg hr => by obtain ⟨Bx, h1, h2, h3⟩ := hs; exact ⟨Bx, h1, lg_owned h2 hg hr, h3⟩)
    ?assign ?body ?done ?stop
  case assign =>
    rintro l pre x W K ⟨⟨A1, c1, h0, h1⟩, hB⟩ hK
    have hx : x.val = .agg #[.int .i64 x.frame, .int .i64 x.emitter, .int .i64 x.kind, .int .i64 x.ord, .int .i64 x.asset, .int .i64 x.gain, .int .i64 x.pan, .int .i64 x.prio, .int .i64 x.len] := rfl
    rw [hx]
    have hl1 := h0.lt
    gi_wp2
    exact hK _ _ ((KeepsOthers.alloc _ _).from _) ((Below.refl _ W).alloc hB.size _) ⟨⟨A1, c1, h0.alloc _, h1.alloc _⟩, hB.alloc hB.size _⟩ ⟨W.heap.size, hl1, Blk.new _ _ _, rfl⟩
  case body =>
    rintro l pre x a' W hl - ⟨⟨A1, c1, h0, h1⟩, hB⟩ ⟨Bx, hBx, bX, rfl⟩ hlt
    have bX' : Blk W Bx 62 #[.int .i64 x.frame, .int .i64 x.emitter, .int .i64 x.kind, .int .i64 x.ord, .int .i64 x.asset, .int .i64 x.gain, .int .i64 x.pan, .int .i64 x.prio, .int .i64 x.len] := bX
    have x0 := bX'.cell 0; have x1 := bX'.cell 1; have x2 := bX'.cell 2; have x3 := bX'.cell 3; have x4 := bX'.cell 4; have x5 := bX'.cell 5; have x6 := bX'.cell 6; have x7 := bX'.cell 7; have x8 := bX'.cell 8
    have q0 := h0.cell 0
    have f0 := h0.frozen 0
    have l0 := h0.lt
    have lX := bX'.lt
    simp only [List.getElem?_toArray, List.getElem?_cons_zero, List.getElem?_cons_succ] at x0 x1 x2 x3 x4 x5 x6 x7 x8 q0
    obtain ⟨np, hnp⟩ : ∃ np, pre.length = np := ⟨_, rfl⟩
    have hnl : pre.length = np := hnp
    have hlt2 : np < L.length := by omega
    rw [hnp] at h0 h1 q0
    have HNP := Lib.hid hnp
    have HNL := Lib.hid hnl
    have H0 := Lib.hid h0
    have H1 := Lib.hid h1
    have HB := Lib.hid hB
    have hw0 : w.heap.size < W.heap.size := l0
    have hxv : x.val = .agg #[.int .i64 x.frame, .int .i64 x.emitter, .int .i64 x.kind, .int .i64 x.ord, .int .i64 x.asset, .int .i64 x.gain, .int .i64 x.pan, .int .i64 x.prio, .int .i64 x.len] := rfl
    clear h0 h1 hB bX bX' hnp hnl hlt
    gi_wp2_with (first
      | (refine wpListIn_app_ev rfl (.tmp 8) (.tmp 10) rfl (w.heap.size + 1) (.slice A1 np c1) pre [x] (H1.out.alloc _) rfl (W.heap.size + 1) (some ⟨W.heap.size, 0, none⟩) 1 1 rfl rfl (lg_rd1 W x) (by rw [HNL.out]; simp; omega) (by simp; omega) ?_
         intro A7 c7 n7 w7 hn7 ho7 hg7
         have k7 : Blk w7 w.heap.size 52 #[.slice A1 np c1] := (H0.out.alloc _).grown hg7 (lg_ne_low H1.out (Nat.lt_succ_self _))
         have q7 := k7.cell 0
         have p7 := k7.frozen 0
         have ql7 := k7.lt
         simp only [List.getElem?_toArray, List.getElem?_cons_zero] at q7
         have HO7 := Lib.hid ho7
         have HG7 := Lib.hid hg7
         have K7 := Lib.hid k7
         clear ho7 hg7 k7))
    have hKO := ((KeepsOthers.alloc W (.cells #[.int .i64 x.frame, .int .i64 x.emitter, .int .i64 x.kind, .int .i64 x.ord, .int .i64 x.asset, .int .i64 x.gain, .int .i64 x.pan, .int .i64 x.prio, .int .i64 x.len] 62)).trans (KeepsOthers.of_grownBy HG7.out (fun j o ej hj => by
      obtain ⟨-, cur, fz, h2⟩ := lg_isRow (H1.out.alloc _) ej
      rw [h2] at hj; cases hj; rfl))).trans (KeepsOthers.setCell w7 ⟨w.heap.size, 0, none⟩ (.slice A7 n7 c7))
    have hlen7 : n7 = (pre ++ [x]).length := by rw [hn7.out, List.length_append]
    have hBB : Below w.heap.size W (w7.setCell ⟨w.heap.size, 0, none⟩ (.slice A7 n7 c7)) := (((Below.refl w.heap.size W).alloc (Nat.le_of_lt hw0) (.cells #[.int .i64 x.frame, .int .i64 x.emitter, .int .i64 x.kind, .int .i64 x.ord, .int .i64 x.asset, .int .i64 x.gain, .int .i64 x.pan, .int .i64 x.prio, .int .i64 x.len] 62)).grown HG7.out (by simp; omega) (fun k e => by have := (lg_isRow H1.out e).1; omega)).setCell (p := ⟨w.heap.size, 0, none⟩) (Nat.le_refl _) _
    refine ⟨hKO.from _, hBB, ⟨A7, c7, ?_, ?_⟩, ?_⟩
    · rw [← hlen7]
      exact K7.out.set 0 (.slice A7 n7 c7)
    · rw [← hlen7]
      exact HO7.out.farG (lg_ne_low HO7.out (Nat.lt_succ_self _)) 0 _
    · exact ((bAlloc HB.out _).grown HG7.out (by simp; omega) (fun k e => by have := (lg_isRow H1.out e).1; omega)).setCell (p := ⟨w.heap.size, 0, none⟩) (Nat.le_refl _) _
  case done =>
    rintro D ys W hD hS ⟨⟨A1, c1, h0, h1⟩, hB⟩ hK
    have q0 := h0.cell 0
    have ql := h0.lt
    simp only [List.getElem?_toArray, List.getElem?_cons_zero] at q0
    have H1 := Lib.hid h1
    have HB := Lib.hid hB
    have hS2 : ys = L := hS
    subst hS2
    clear h1 h0 hB hS
    gi_wp2
    refine ⟨by simp, .inl ⟨_, _, rfl, run_takeDeferred hK, ?_⟩⟩
    refine ⟨.slice A1 ys.length c1, ?_, ⟨A1, c1, rfl, ?_, HB.out.trans (belowK_b (w := w) (Nat.le_refl _) W D _ _ (by omega) hK rfl rfl)⟩⟩
    · simp [results, Tryz.results154, go_sem]
    · exact (H1.out.kept (grownBy_putObj' _ D (.deferred none)) (by
        cases hv : (Value.slice A1 ys.length c1).ownBlock with
        | none => exact .inl rfl
        | some g =>
          refine .inr fun e => ?_
          obtain ⟨-, cur, fz, h2⟩ := lg_isRow H1.out hv
          cases e
          rw [hK] at h2; cases h2)).more (Nat.le_succ _)
  case stop =>
    rintro D c pre W hD - h - 
    exact h.elim
theorem collectE_any (gf : Nat) (lb : Array Value) (hent : ∀ args w, (callFunc gf args).run Tryz.prog w = .ok (.enter gf args) w) (L : List Ev) (hL : L.length ≤ 1000000) (w : World)
    (hst : ∀ W, Below w.heap.size w W → SeqStopsK Fence.wide 2 Tryz.prog gf lb (fun x : Ev => #[x.val]) (Below w.heap.size) (fun xs => xs = L) (fun pre => ∃ k, k ≤ L.length ∧ pre = L.take k) L.length W) :
    Calls Tryz.prog 76 #[.func (.func gf) #[] lb] w fun e w' => ∃ (A : Option Addr) (c : Nat), e = .returned (.slice A L.length c) ∧ OwnL w' w.heap.size 62 9 (.slice A L.length c) Ev.cells L ∧ Below w.heap.size w w' := by
  have HC := Lib.hid (callsIn_wide.1 (appendSeqE_in gf lb hent L hL w hst))
  clear hst
  go_enter Tryz.func76, Tryz.ntmps76
  go_wp2_with (first | (go_at_call 154; refine HC.out.mono ?_; rintro e w1 ⟨A, c, rfl, h2, h3⟩; have H2 := Lib.hid h2; have H3 := Lib.hid h3; clear h2 h3))
  go_ret
  exact ⟨A, c, rfl, H2.out, H3.out⟩
end Go.Proofs.YtibeihcpehikoaaGreat

namespace Go.Proofs.YtibeihcpehikoaaGreat
open Go.RowKit Go.Shelf
attribute [local go_sem] Oper.semAt_some
set_option maxRecDepth 100000
set_option linter.unusedSimpArgs false
def allE (l : List PgP) : List Ev := l.flatMap PgP.evs
theorem allE_take (l : List PgP) (k : Nat) (h : k < l.length) (j : Nat) (hj : j ≤ l[k].evs.length) : (allE l).take ((allE (l.take k)).length + j) = allE (l.take k) ++ l[k].evs.take j ∧ (allE (l.take k)).length + l[k].evs.length ≤ (allE l).length := by
  have e : allE l = allE (l.take k) ++ (l[k].evs ++ allE (l.drop (k + 1))) := by
    have h1 : l = l.take k ++ (l[k] :: l.drop (k + 1)) := by rw [← List.drop_eq_getElem_cons h, List.take_append_drop]
    unfold allE
    conv => lhs; rw [h1, List.flatMap_append, List.flatMap_cons]
  constructor
  · conv => lhs; rw [e]
    rw [List.take_append, List.take_of_length_le (by omega), Nat.add_sub_cancel_left, List.take_append_of_le_length hj]
  · rw [e, List.length_append, List.length_append]
    omega
theorem allE_snoc (l : List PgP) (k : Nat) (h : k < l.length) : allE (l.take (k + 1)) = allE (l.take k) ++ l[k].evs := by
  unfold allE
  rw [List.take_succ_eq_append_getElem h, List.flatMap_append, List.flatMap_cons, List.flatMap_nil, List.append_nil]
theorem Rd.pg {w : World} {B : Nat} {A : Option Addr} {l : List PgP} (h : Rd w B A (l.flatMap PgP.cells)) {k : Nat} (hk : k < l.length) :
    ∃ b off, A = some ⟨b, off, none⟩ ∧ b < B ∧ w.cell? ⟨b, off + k * 2, none⟩ = some (.int .i64 l[k].frame) ∧ w.cell? ⟨b, off + k * 2 + 1, none⟩ = some (.slice l[k].A l[k].evs.length l[k].c) := by
  obtain ⟨b, off, hA, hb, hat⟩ := h.at_ PgP.cells_length (by omega) hk
  exact ⟨b, off, hA, hb, hat 0 _ rfl, hat 1 _ rfl⟩
set_option maxHeartbeats 4000000 in
theorem evs_in (n : Nat) (hn : 1 ≤ n) (l Bs n₀ : Nat) (A : Option Addr) (c : Nat) (L : List PgP) (hL : L.length ≤ 1000) (hL2 : ∀ p ∈ L, p.evs.length ≤ 1000) (J Jx : List Ev → World → Prop) (W : World) (hJ : AbidesFrom W.heap.size J)
    (hY : ∀ pre x W, J pre W → pre.length < (allE L).length → YieldAt Fence.wide (n - 1) Tryz.prog l #[x.val] W fun e W' =>
      (e = .returned (.bool true) ∧ J (pre ++ [x]) W' ∧ Below n₀ W W') ∨ (e = .returned (.bool false) ∧ Jx (pre ++ [x]) W'))
    (hBs : W.cell? ⟨Bs, 0, none⟩ = some (.slice A L.length c)) (hn0 : n₀ ≤ W.heap.size) (hr : Rd W n₀ A (L.flatMap PgP.cells)) (hrr : ∀ p ∈ L, Rd W n₀ p.A (p.evs.flatMap Ev.cells)) (h0 : J [] W) :
    CallsIn Fence.wide n Tryz.prog 153 #[.func (.yield l) #[] #[], .pointer (some ⟨Bs, 0, none⟩)] W fun e W' => (∃ v, e = .returned v) ∧
      ((∃ ys, ys = allE L ∧ J ys W') ∨ (∃ pre, (∃ k, k ≤ (allE L).length ∧ pre = (allE L).take k) ∧ Jx pre W')) := by
  have HR := Lib.hid hr
  have HRR := Lib.hid hrr
  have HL2 := Lib.hid hL2
  have HBs := Lib.hid hBs
  have hlt0 : Bs < W.heap.size := block_lt_of_cell hBs
  clear hr hrr hL2
  refine callsIn_of_wp Tryz.func153 rfl trivial ?_ rfl
  simp only [Tryz.ntmps153, List.size_toArray, List.length_cons, List.length_nil, Nat.reduceAdd, Nat.reduceSub, Array.replicate_succ, Array.replicate_zero, List.push_toArray, List.append_toArray, List.nil_append, List.cons_append]
  gi_wp2
  gi_loopw [9] (fun i wr => ∃ k : Nat, k ≤ L.length ∧ i = .int .i64 k ∧ J (allE (L.take k)) wr ∧ Below n₀ W wr) (fun i _ => L.length - (intOf i).toNat)
  case atStart => exact ⟨0, Nat.zero_le _, rfl, h0, Below.refl _ _⟩
  case round =>
    obtain ⟨k, hk, rfl, hJs, hb⟩ := hrel
    by_cases hlt : k < L.length
    · obtain ⟨b, off, rfl, hB, c0, c1⟩ := (HR.out.below hb (Nat.le_refl _)).pg hlt
      have hp := HRR.out L[k] (List.getElem_mem hlt)
      have hpl := HL2.out L[k] (List.getElem_mem hlt)
      have HT := Lib.hid (allE_take L k hlt)
      have HSN := Lib.hid (allE_snoc L k hlt)
      obtain ⟨p, hpe⟩ : ∃ p, L[k] = p := ⟨_, rfl⟩
      rw [hpe] at c0 c1 hp hpl HT HSN
      have HP := Lib.hid hp
      have hbw : b < wr.heap.size := Nat.lt_of_lt_of_le hB (Nat.le_trans hn0 hb.size)
      have hJ2 := hJ _ wr (wr.alloc (.cells #[.int .i64 p.frame, .slice p.A p.evs.length p.c] 54)) none hJs (World.grownBy_alloc _ _ none) (fun r e => by cases e)
      have hba := hb.alloc (Nat.le_trans hn0 hb.size) (.cells #[.int .i64 p.frame, .slice p.A p.evs.length p.c] 54)
      have HJ2 := Lib.hid hJ2
      have HBA := Lib.hid hba
      clear hpe hp hJ2 hba hJs hb
      gi_wp2
      gi_loopw [16] (fun i wr => ∃ j : Nat, j ≤ p.evs.length ∧ i = .int .i64 j ∧ J (allE (L.take k) ++ p.evs.take j) wr ∧ Below n₀ W wr) (fun i _ => p.evs.length - (intOf i).toNat)
      case atStart => exact ⟨0, Nat.zero_le _, rfl, by rw [List.take_zero, List.append_nil]; exact HJ2.out, HBA.out⟩
      case round =>
        obtain ⟨j, hj, rfl, hJs, hb⟩ := hrel
        clear HJ2 HBA
        by_cases hlj : j < p.evs.length
        · obtain ⟨b2, off2, hA2, hB2, x0, x1, x2, x3, x4, x5, x6, x7, x8⟩ := (HP.out.below hb (Nat.le_refl _)).ev hlj
          have hb2w : b2 < wr.heap.size := Nat.lt_of_lt_of_le hB2 (Nat.le_trans hn0 hb.size)
          have hsn := take_snoc p.evs j hlj
          have HT1 := Lib.hid (HT.out (j + 1) hlj)
          obtain ⟨x, hx⟩ : ∃ x, p.evs[j] = x := ⟨_, rfl⟩
          rw [hx] at x0 x1 x2 x3 x4 x5 x6 x7 x8 hsn
          have HSJ : Hid (allE (L.take k) ++ p.evs.take (j + 1) = (allE (L.take k) ++ p.evs.take j) ++ [x]) := Lib.hid (by rw [hsn, List.append_assoc])
          have hJ2 := hJ _ wr (wr.alloc (.cells #[.int .i64 x.frame, .int .i64 x.emitter, .int .i64 x.kind, .int .i64 x.ord, .int .i64 x.asset, .int .i64 x.gain, .int .i64 x.pan, .int .i64 x.prio, .int .i64 x.len] 62)) none hJs (World.grownBy_alloc _ _ none) (fun r e => by cases e)
          have hle := HT1.out.2
          obtain ⟨fn, tmps, assign, body, hy, hR⟩ := hY _ x _ hJ2 (by rw [List.length_append, List.length_take]; omega)
          have hba := hb.alloc (Nat.le_trans hn0 hb.size) (.cells #[.int .i64 x.frame, .int .i64 x.emitter, .int .i64 x.kind, .int .i64 x.ord, .int .i64 x.asset, .int .i64 x.gain, .int .i64 x.pan, .int .i64 x.prio, .int .i64 x.len] 62)
          dsimp only [Ev.val] at hy
          have HJ2 := Lib.hid hba
          rw [hA2]
          clear hsn hJs hJ2 hba hx hA2
          gi_wp2
          refine hR.mono ?_
          rintro e W3 (⟨rfl, hJ3, hk3⟩ | ⟨rfl, hJx3⟩)
          · gi_wp2
            go_roundw
            case rel => exact ⟨j + 1, by omega, by go_num, by rw [HSJ.out]; exact hJ3, HJ2.out.trans hk3⟩
            case measure => simp [intOf]; omega
          · gi_wp2
            refine bodyPost_ret (results_none rfl _ _ _) rfl ?_
            exact ⟨⟨_, rfl⟩, .inr ⟨_, ⟨(allE (L.take k)).length + (j + 1), by omega, by rw [HT1.out.1, HSJ.out]⟩, hJx3⟩⟩
        · obtain rfl : j = p.evs.length := by omega
          rw [List.take_of_length_le (Nat.le_refl _), ← HSN.out] at hJs
          gi_wp2
          go_roundw
          case rel => exact ⟨k + 1, by omega, by go_num, hJs, hb⟩
          case measure => simp [intOf]; omega
    · obtain rfl : k = L.length := by omega
      gi_wp2
      go_end0
      exact ⟨⟨_, rfl⟩, .inl ⟨_, by rw [List.take_of_length_le (Nat.le_refl _)], hJs⟩⟩
theorem evs_stops (n : Nat) (hn : 1 ≤ n) (Bs n₀ : Nat) (A : Option Addr) (c : Nat) (L : List PgP) (hL : L.length ≤ 1000) (hL2 : ∀ p ∈ L, p.evs.length ≤ 1000) (w : World) (hBs : w.cell? ⟨Bs, 0, none⟩ = some (.slice A L.length c)) (hn0 : n₀ ≤ w.heap.size) (hr : Rd w n₀ A (L.flatMap PgP.cells)) (hrr : ∀ p ∈ L, Rd w n₀ p.A (p.evs.flatMap Ev.cells)) :
    SeqStopsK Fence.wide n Tryz.prog 153 #[.pointer (some ⟨Bs, 0, none⟩)] (fun x : Ev => #[x.val]) (Below n₀) (fun xs => xs = allE L) (fun pre => ∃ k, k ≤ (allE L).length ∧ pre = (allE L).take k) (allE L).length w := fun l J Jx W hW hJ _ hY h0 =>
  evs_in n hn l Bs n₀ A c L hL hL2 J Jx W hJ hY ((hW.cell (p := ⟨Bs, 0, none⟩) (block_lt_of_cell hBs)).trans hBs) (Nat.le_trans hn0 hW.size) (hr.below hW hn0) (fun p hp => (hrr p hp).below hW hn0) h0
theorem events_any (A : Option Addr) (n c : Nat) (w : World) : Calls Tryz.prog 75 #[.slice A n c] w fun e w' => e = .returned (.func (.func 153) #[] #[.pointer (some ⟨w.heap.size, 0, none⟩)]) ∧ w' = w.alloc (.cells #[.slice A n c] 27) := by
  go_enter Tryz.func75, Tryz.ntmps75
  go_wp2
  go_ret
  exact ⟨rfl, rfl⟩
/-- All events. -/
theorem stream_any (A : Option Addr) (c : Nat) (L : List PgP) (w : World) (hL : L.length ≤ 1000) (hL2 : ∀ p ∈ L, p.evs.length ≤ 1000) (hT : (allE L).length ≤ 1000000) (hr : Rd w w.heap.size A (L.flatMap PgP.cells)) (hrr : ∀ p ∈ L, Rd w w.heap.size p.A (p.evs.flatMap Ev.cells)) :
    Calls Tryz.prog 24 #[.slice A L.length c] w fun e w' => ∃ (A' : Option Addr) (c' : Nat), e = .returned (.slice A' (allE L).length c') ∧ OwnL w' w.heap.size 62 9 (.slice A' (allE L).length c') Ev.cells (allE L) ∧ Below w.heap.size w w' := by
  obtain ⟨w1, hw1⟩ : ∃ w1, w1 = w.alloc (.cells #[.slice A L.length c] 27) := ⟨_, rfl⟩
  have hb1 : Below w.heap.size w w1 := by rw [hw1]; exact bAlloc (Below.refl _ _) _
  have hz1 : w1.heap.size = w.heap.size + 1 := by rw [hw1]; simp
  have hk1 : Blk w1 w.heap.size 27 #[.slice A L.length c] := by rw [hw1]; exact Blk.new _ _ _
  have HC := Lib.hid (collectE_any 153 #[.pointer (some ⟨w.heap.size, 0, none⟩)] (enters_of Tryz.func153 (by kernel_rfl) rfl) (allE L) hT w1 (fun W hW => evs_stops 2 (by decide) w.heap.size w1.heap.size A c L hL hL2 W ((hk1.on hW).cell 0) hW.size ((hr.below hb1 (Nat.le_refl _)).below hW (by omega) |>.more (by omega)) (fun p hp => (((hrr p hp).below hb1 (Nat.le_refl _)).below hW (by omega)).more (by omega))))
  have HB := Lib.hid hb1
  have HZ := Lib.hid hz1
  obtain ⟨nL, hnL⟩ : ∃ nL, L.length = nL := ⟨_, rfl⟩
  rw [hnL] at hw1 ⊢
  have HW1 := Lib.hid hw1
  clear hr hrr hL2 hb1 hz1 hk1 hw1
  go_enter Tryz.func24, Tryz.ntmps24
  go_wp2_with (first
    | (go_at_call 75; refine (events_any _ _ _ _).mono ?_; rintro e w2 ⟨rfl, hw2⟩; have hw3 : w2 = w1 := hw2.trans HW1.out.symm; clear hw2; subst hw3)
    | (go_at_call 76; refine HC.out.mono ?_; rintro e w3 ⟨A', c', rfl, h2, h3⟩; have H2 := Lib.hid h2; have H3 := Lib.hid h3; clear h2 h3))
  go_ret
  exact ⟨A', c', rfl, H2.out.more (by rw [HZ.out]; omega), HB.out.trans (H3.out.mono (by rw [HZ.out]; omega))⟩
end Go.Proofs.YtibeihcpehikoaaGreat
