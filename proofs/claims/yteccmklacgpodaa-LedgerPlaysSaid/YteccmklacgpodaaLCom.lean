/-
  The ledger's Committed, Halted, Told, Commit.
-/
import Derived.Test.YteccmklacgpodaaLTell
namespace Go.Proofs.Yteccmklacgpodaa
open Go.RowKit
set_option maxRecDepth 100000
set_option linter.unusedSimpArgs false
theorem Blk.four {w : World} {g : Nat} {E : TypeId} {v0 v1 v2 v3 : Value} (h : Blk w g E #[v0, v1, v2, v3]) : w.cell? ⟨g, 0, none⟩ = some v0 ∧ w.cell? ⟨g, 1, none⟩ = some v1 ∧ w.cell? ⟨g, 2, none⟩ = some v2 ∧ w.cell? ⟨g, 3, none⟩ = some v3 ∧ g < w.heap.size := ⟨h.cell 0, h.cell 1, h.cell 2, h.cell 3, h.lt⟩
theorem wpList_lookV {κ ν : Type} {ke : κ → Value} {ve : ν → Value} {P : Program} (w : World) {ops : Array Oper} {rest : List Oper} {o : Oper} {a : Act} {Q : Exit → Act → World → Prop} (hg : o.guard = none) (m x : Operand) (t : TypeId) (hop : o.op = Op.lookup t m x false) (k e : TypeId) (K : Go.Maps.Keyed P k) (ht : P.underlying t = some (.map k e)) {z : Value} (hz : (zeroValue e).run P w = .ok z w) (b : Nat) (L : List (κ × ν))
    (hm : a.eval m = .map (some b)) (h : MapIs ke ve P k w b L) (key : κ) (kl : Lit) (hx : a.eval x = ke key) (hkey : keyOf P k (ke key) = some kl)
    (v : Value) (hno : (∀ p ∈ L, ke p.1 ≠ ke key) → v = z) (hyes : ∀ p ∈ L, ke p.1 = ke key → v = ve p.2) (hK : wpList P ops Q rest (a.put o.dst v) w) : wpList P ops Q (o :: rest) a w :=
  wpList_lookM1 w hg m x t hop k e K ht hz b L hm h key kl hx hkey (fun hn => by rw [← hno hn]; exact hK) (fun p hp he => by rw [← hyes p hp he]; exact hK)
/-- What is told of a frame. -/
def toldAt (T : List TEnt) (f : Int) : List Ev := match T.find? (fun p => decide (p.1 = f)) with | some p => p.2.2 | none => []
/-- What the pages told always are. -/
def TOk (T : List TEnt) : Prop := ∀ p ∈ T, (∀ e ∈ p.2.2, evOk e = true) ∧ p.2.2.length ≤ 64
theorem toldAt_ok {T : List TEnt} (h : TOk T) (f : Int) : (∀ e ∈ toldAt T f, evOk e = true) ∧ (toldAt T f).length ≤ 64 := by
  unfold toldAt
  cases hf : T.find? (fun p => decide (p.1 = f)) with
  | none => simp
  | some p => exact h p (List.mem_of_find?_eq_some hf)
theorem lookS_of {S : List Ev} (h : LvOk S) (k : Key4) : ∃ (z : Ev) (ok : Bool), ok = (findS S k).isSome ∧ ((∀ p ∈ prs S, p.1.val ≠ k.val) → z = zeroE ∧ ok = false) ∧ (∀ p ∈ prs S, p.1.val = k.val → z = p.2 ∧ ok = true) := by
  cases hf : findS S k with
  | some z =>
    obtain ⟨hz, hk⟩ := findS_some hf
    refine ⟨z, true, rfl, fun hn => absurd (by rw [hk]) (hn (z.key, z) (mem_prs.2 ⟨hz, rfl⟩)), fun p hp he => ?_⟩
    obtain ⟨h1, h2⟩ := mem_prs.1 hp
    have h3 : p.2.key = k := by rw [← h2]; exact keyV_inj he
    have h4 := findS_mem h.sorted h1
    rw [h3, hf] at h4
    exact ⟨Option.some.inj h4, rfl⟩
  | none =>
    refine ⟨zeroE, false, rfl, fun _ => ⟨rfl, rfl⟩, fun p hp he => ?_⟩
    obtain ⟨h1, h2⟩ := mem_prs.1 hp
    exact absurd (by rw [← h2]; exact keyV_inj he) (findS_none.1 hf p.2 h1)
section
variable {w : World} {g gl gt : Nat} {most com : Int} {halt : Bool} {S : List Ev} {T : List TEnt}
theorem committed_any (h : LgW w g gl gt most S T com halt) : Calls Try.prog 12 #[.pointer (some ⟨g, 0, none⟩)] w fun e w' => e = .returned (.int .i64 com) ∧ w = w' := by
  obtain ⟨lg, -, -, -, c3, -⟩ := h.cells
  clear h
  go_enter Try.func12, Try.ntmps12
  go_wp2
  go_ret
  exact ⟨rfl, rfl⟩
theorem halted_any (h : LgW w g gl gt most S T com halt) : Calls Try.prog 20 #[.pointer (some ⟨g, 0, none⟩)] w fun e w' => e = .returned (.bool halt) ∧ w = w' := by
  obtain ⟨lg, -, -, -, -, c4⟩ := h.cells
  clear h
  cases halt
  · go_enter Try.func20, Try.ntmps20
    go_wp2
    go_ret
    exact ⟨rfl, rfl⟩
  · go_enter Try.func20, Try.ntmps20
    go_wp2
    go_ret
    exact ⟨rfl, rfl⟩
/-- The row that is told of a frame. -/
theorem told_row (h : LgW w g gl gt most S T com halt) (f : Int) : ∃ (A : Option Addr) (n c : Nat), OwnL w 0 43 9 (.slice A n c) Ev.cells (toldAt T f) ∧
    ((∀ p ∈ T, Value.int .i64 p.1 ≠ .int .i64 f) → Value.slice A n c = .slice none 0 0) ∧ (∀ p ∈ T, Value.int .i64 p.1 = .int .i64 f → Value.slice A n c = p.2.1) := by
  unfold toldAt
  cases hf : T.find? (fun p => decide (p.1 = f)) with
  | none =>
    have hn := List.find?_eq_none.1 hf
    refine ⟨none, 0, 0, OwnL.nil, fun _ => rfl, fun p hp he => ?_⟩
    simp only [Value.int.injEq, true_and] at he
    exact absurd (decide_eq_true he) (hn p hp)
  | some q =>
    have hq := List.mem_of_find?_eq_some hf
    have hqf : q.1 = f := by simpa using List.find?_some hf
    have ho := h.rows q hq
    obtain ⟨A, c, hv⟩ := ho.shape
    rw [hv] at ho
    refine ⟨A, q.2.2.length, c, ho, fun hn => absurd (by rw [hqf]) (hn q hq), fun p hp he => ?_⟩
    simp only [Value.int.injEq, true_and] at he
    have hnd := h.told.nodup
    have : p = q := by
      obtain ⟨i, hi, rfl⟩ := List.mem_iff_getElem.1 hp
      obtain ⟨j, hj, rfl⟩ := List.mem_iff_getElem.1 hq
      have h1 := List.pairwise_iff_getElem.1 hnd
      rcases Nat.lt_trichotomy i j with hlt | heq | hgt
      · have := h1 i j (by simpa using hi) (by simpa using hj) hlt
        simp only [List.getElem_map] at this
        exact absurd (by rw [he, hqf]) this
      · subst heq; rfl
      · have := h1 j i (by simpa using hj) (by simpa using hi) hgt
        simp only [List.getElem_map] at this
        exact absurd (by rw [he, hqf]) this
    rw [this, hv]
theorem zero_evs (W : World) : (zeroValue 28).run Try.prog W = .ok (.slice none 0 0) W := by kernel_rfl
set_option maxHeartbeats 1000000 in
theorem told_any (h : LgW w g gl gt most S T com halt) (hT : TOk T) (f : Int) (hw : (Lit.int .i64 f).wf = true) : Calls Try.prog 21 #[.pointer (some ⟨g, 0, none⟩), .int .i64 f] w fun e w' => ∃ (A : Option Addr) (c : Nat), e = .returned (.slice A (toldAt T f).length c) ∧ OwnL w' w.heap.size 43 9 (.slice A (toldAt T f).length c) Ev.cells (toldAt T f) ∧ Below w.heap.size w w' := by
  obtain ⟨A, n, c, ho, hno, hyes⟩ := told_row h f
  obtain ⟨fl, hfl⟩ := int_lit hw
  obtain ⟨lg, -, -, g2, -⟩ := h.cells
  have hlen := ho.len
  have HC := Lib.hid (clone_any A c (toldAt T f) w (by have := (toldAt_ok hT f).2; omega) ho.rd)
  rw [← hlen] at HC ⊢
  have HTM := Lib.hid h.told
  have HNO := Lib.hid hno
  have HYES := Lib.hid hyes
  have HFL := Lib.hid hfl
  obtain ⟨E, hE⟩ : ∃ E, toldAt T f = E := ⟨_, rfl⟩
  rw [hE] at HC ⊢
  clear h ho hno hyes hfl hlen hE hT hw
  go_enter Try.func21, Try.ntmps21
  go_wp2_with (first
    | (refine wpList_lookV _ rfl (.tmp 10) (.tmp 11) 60 rfl 3 28 int_law Try.underlying60 (zero_evs _) gt T rfl HTM.out f fl rfl HFL.out (.slice A n c) ?_ ?_ ?_
       · exact HNO.out
       · exact HYES.out)
    | (go_at_call 31; refine HC.out.mono ?_; rintro e w1 ⟨A', c', rfl, ho1, hb1⟩; have HO1 := Lib.hid ho1; have HB1 := Lib.hid hb1; clear ho1 hb1))
  go_ret
  exact ⟨A', c', rfl, HO1.out, HB1.out⟩
set_option maxHeartbeats 1000000 in
theorem commit_halted (h : LgW w g gl gt most S T com true) (f : Int) : Calls Try.prog 11 #[.pointer (some ⟨g, 0, none⟩), .int .i64 f] w fun e w' => e = .returned (.tuple #[.slice none 0 0, .int .i64 12]) ∧ w = w' := by
  obtain ⟨lg, -, -, -, -, c4⟩ := h.cells
  clear h
  go_enter Try.func11, Try.ntmps11
  go_wp2
  go_ret2
  exact ⟨rfl, rfl⟩
set_option maxHeartbeats 1000000 in
theorem commit_order (h : LgW w g gl gt most S T com false) (f : Int) (hc : -1 ≤ com ∧ com ≤ 4611686018427387904) (hf : f ≠ com + 1) : Calls Try.prog 11 #[.pointer (some ⟨g, 0, none⟩), .int .i64 f] w fun e w' => e = .returned (.tuple #[.slice none 0 0, .int .i64 11]) ∧ w = w' := by
  obtain ⟨lg, -, -, -, c3, c4⟩ := h.cells
  have hb : (f != com + 1) = true := by simpa using hf
  clear h hf
  go_enter Try.func11, Try.ntmps11
  go_wp2
  go_ret2
  exact ⟨rfl, rfl⟩
def delT (T : List TEnt) (f : Int) : List TEnt := T.filter fun p => !decide (p.1 = f)
theorem delT_1 {T : List TEnt} {f : Int} : ∀ p, p ∈ delT T f ↔ (p ∈ T ∧ Value.int .i64 p.1 ≠ .int .i64 f) := fun p => by
  unfold delT
  rw [List.mem_filter]
  simp
set_option maxHeartbeats 4000000 in
theorem commit_ok (h : LgW w g gl gt most S T com false) (hS : LvOk S) (hT : TOk T) (hc : -1 ≤ com ∧ com ≤ 4611686018427387904) :
    Calls Try.prog 11 #[.pointer (some ⟨g, 0, none⟩), .int .i64 (com + 1)] w fun e w' => ∃ (A' : Option Addr) (n' c' : Nat), e = .returned (.tuple #[.slice A' n' c', .int .i64 0]) ∧ OwnL w' w.heap.size 57 12 (.slice A' n' c') Cm.cells (commitF (toldAt T (com + 1)) S).2 ∧
      LgW w' g gl gt most (commitF (toldAt T (com + 1)) S).1 (delT T (com + 1)) (com + 1) false ∧ KeptX w w' [g, gl, gt] := by
  obtain ⟨A, n, c, ho, hno, hyes⟩ := told_row h (com + 1)
  obtain ⟨fl, hfl⟩ := int_lit (n := com + 1) (wf_of (by omega) (by omega))
  obtain ⟨lg, -, -, g2, c3, c4⟩ := h.cells
  obtain ⟨hok, hle⟩ := toldAt_ok hT (com + 1)
  have hlen := ho.len
  have HTM := Lib.hid h.told
  have HNO := Lib.hid hno
  have HYES := Lib.hid hyes
  have HFL := Lib.hid hfl
  have HO := Lib.hid ho
  have HG := Lib.hid h
  have HN := Lib.hid hlen
  have HOK := Lib.hid hok
  have HS := Lib.hid hS
  obtain ⟨E, hE⟩ : ∃ E, toldAt T (com + 1) = E := ⟨_, rfl⟩
  rw [hE] at HO HN HOK hle ⊢
  obtain ⟨X, hX⟩ : ∃ X, commitF E S = X := ⟨_, rfl⟩
  have HX : Hid (X = E.foldl commitS (S, [])) := Lib.hid hX.symm
  rw [hX]
  have hn64 : n ≤ 64 := by have := HN.out; omega
  have hb : (com + 1 != com + 1) = false := by simp
  clear h ho hno hyes hfl hlen hE hT hX hS hok hle
  go_enter Try.func11, Try.ntmps11
  go_wp2_with (first
    | (refine wpList_lookV _ rfl (.tmp 30) (.tmp 31) 60 rfl 3 28 int_law Try.underlying60 (zero_evs _) gt T rfl HTM.out (com + 1) fl rfl HFL.out (.slice A n c) ?_ ?_ ?_
       · exact HNO.out
       · exact HYES.out))
  clear HTM HNO HYES c3 c4 g2 lg
  go_loopw [6, 34] (fun u v wr => ∃ k : Nat, k ≤ n ∧ v = .int .i64 k ∧ ∃ A' n' c', u = .slice A' n' c' ∧ Hid (OwnL wr w.heap.size 57 12 (.slice A' n' c') Cm.cells ((E.take k).foldl commitS (S, [])).2) ∧ Hid (LgW wr g gl gt most ((E.take k).foldl commitS (S, [])).1 T com false) ∧ Hid (OwnL wr 0 43 9 (.slice A n c) Ev.cells E) ∧ Hid (KeptX w wr [gl])) (fun _ v _ => n - (intOf v).toNat)
  case atStart => exact ⟨0, Nat.zero_le _, rfl, none, 0, 0, rfl, Lib.hid OwnL.nil, HG, HO, Lib.hid (KeptX.refl _ _)⟩
  case round =>
    obtain ⟨k, hk, rfl, A', n', c', rfl, HOU, HGR, HOR, HKR⟩ := hrel
    clear HO HG
    by_cases hlt : k < n
    · have hkE : k < E.length := by rw [← HN.out]; exact hlt
      obtain ⟨b, off, rfl, hbl, x0, x1, x2, x3, x4, x5, x6, x7, x8⟩ := HOR.out.rd.ev hkE
      have HSN := Lib.hid (foldl_snoc commitS (S, []) E k hkE)
      obtain ⟨hs1, hs2, hs3⟩ := commit_fold (E.take k) (S, []) HS.out
      have hs4 : ((S, []) : Sc).2.length = 0 := rfl
      have hs6 : (E.take k).length ≤ k := by rw [List.length_take]; omega
      rw [hs4] at hs3
      have hxk := HOK.out E[k] (List.getElem_mem hkE)
      obtain ⟨x, hx⟩ : ∃ x, E[k] = x := ⟨_, rfl⟩
      obtain ⟨s, hs⟩ : ∃ s, (E.take k).foldl commitS (S, []) = s := ⟨_, rfl⟩
      rw [hx] at x0 x1 x2 x3 x4 x5 x6 x7 x8 HSN hxk
      rw [hs] at HSN hs1 hs2 hs3 HOU HGR
      have HS1 := Lib.hid hs1
      have HXK := Lib.hid hxk
      clear hx hs hs1 hs4 hxk hs2
      go_upto_region 11 with fail
      obtain ⟨w3, hw3⟩ : ∃ w3, w3 = wr.alloc (.cells #[.int .i64 x.frame, .int .i64 x.emitter, .int .i64 x.kind, .int .i64 x.ord, .int .i64 x.asset, .int .i64 x.gain, .int .i64 x.pan, .int .i64 x.prio, .int .i64 x.len] 43) := ⟨_, rfl⟩
      have HE3 : Hid (Blk w3 wr.heap.size 43 #[.int .i64 x.frame, .int .i64 x.emitter, .int .i64 x.kind, .int .i64 x.ord, .int .i64 x.asset, .int .i64 x.gain, .int .i64 x.pan, .int .i64 x.prio, .int .i64 x.len]) := Lib.hid (by rw [hw3]; exact Blk.new _ _ _)
      have HB3 : Hid (Below wr.heap.size wr w3) := Lib.hid (by rw [hw3]; exact bAlloc (Below.refl _ _) _)
      rw [← hw3]
      clear hw3 x0 x1 x2 x3 x4 x5 x6 x7 x8 hbl
      have HG3 := Lib.hid (HGR.out.on HB3.out)
      have HM3 := Lib.hid HG3.out.live
      obtain ⟨lg, -, c1, -⟩ := HG3.out.cells
      have lE3 := HE3.out.lt
      obtain ⟨z, ok, hok, hno, hyes⟩ := lookS_of HS1.out x.key
      have HKO := Lib.hid hok
      have HNO := Lib.hid hno
      have HYES := Lib.hid hyes
      obtain ⟨kl, hkl⟩ := key_lit x.key (evOk_wf HXK.out)
      have HKL := Lib.hid hkl
      have HKR3 : Hid (∀ V g, Blk V g 43 #[.int .i64 x.frame, .int .i64 x.emitter, .int .i64 x.kind, .int .i64 x.ord, .int .i64 x.asset, .int .i64 x.gain, .int .i64 x.pan, .int .i64 x.prio, .int .i64 x.len] → V.rangeAt g 0 x.key.cells) := Lib.hid (fun V g hV j v hv => by
        have h4 : j < 4 := by
          have := (List.getElem?_eq_some_iff.1 hv).1
          simpa [Key4.cells] using this
        rw [Nat.zero_add, hV.cell j]
        obtain rfl | rfl | rfl | rfl : j = 0 ∨ j = 1 ∨ j = 2 ∨ j = 3 := by omega
        all_goals exact hv)
      have HRE3 := Lib.hid (HKR3.out w3 wr.heap.size HE3.out)
      clear hok hno hyes hkl
      have hKp := Keeps.base w3
      refine wp_region_mixed [.pure, .pure, .pure, .held, .pure, .held, .held, .pure, .pure, .pure, .make, .tail, .pure] (fun _ => lgNew w3 43 zeroE.cells.toArray) (by kernel_rfl) (by kernel_rfl) ?_
      repeat (first | (refine mix_pure rfl rfl rfl (fun K hK => ?_); go_big_quiet_op; refine hK _ ?_; clear hK K) | (refine mix_held rfl rfl rfl (by assumption) (fun K hK => ?_); go_big_quiet_op; refine hK _ ?_; clear hK K))
      refine mix_load rfl rfl (by assumption) 41 (.tmp 43) rfl wr.heap.size 0 rfl x.key.cells _ lE3 HRE3.out Try.underlying41 rfl (by kernel_rfl) ?_
      simp only [Act.put, List.setIfInBounds_toArray, List.set_cons_zero, List.set_cons_succ]
      refine mix_look rfl rfl (by assumption) (.tmp 42) (.tmp 44) 59 41 43 rfl key_law Try.underlying59 zero_ev gl (prs s.1) rfl HM3.out x.key kl rfl HKL.out (.tuple #[z.val, .bool ok]) (fun h => by obtain ⟨rfl, rfl⟩ := HNO.out h; rfl) (fun p hp h => by obtain ⟨rfl, rfl⟩ := HYES.out p hp h; rfl) ?_
      simp only [Act.put, List.setIfInBounds_toArray, List.set_cons_zero, List.set_cons_succ]
      repeat (first | (refine mix_pure rfl rfl rfl (fun K hK => ?_); go_big_quiet_op; refine hK _ ?_; clear hK K) | (refine mix_held rfl rfl rfl (by assumption) (fun K hK => ?_); go_big_quiet_op; refine hK _ ?_; clear hK K))
      refine mix_make rfl rfl (by assumption) lgNew_st (lgNew_makes rfl zero_ev rfl) ?_
      rintro v ⟨g8, rfl⟩ hKp2
      simp only [Act.put, List.setIfInBounds_toArray, List.set_cons_zero, List.set_cons_succ]
      refine mix_store rfl rfl 43 (.tmp 9) (.tmp 46) rfl g8 0 z.cells.toArray rfl rfl (fun W hW => ?_) (by kernel_rfl) (all_oneCell_toArray (evC_one z)) ?_
      · exact Blk.there (hW.2 g8 rfl).2 (by simp [Ev.cells])
      simp only [Act.put, List.setIfInBounds_toArray, List.set_cons_zero, List.set_cons_succ]
      repeat (first | (refine mix_pure rfl rfl rfl (fun K hK => ?_); go_big_quiet_op; refine hK _ ?_; clear hK K) | (refine mix_held rfl rfl rfl (by assumption) (fun K hK => ?_); go_big_quiet_op; refine hK _ ?_; clear hK K))
      refine mix_nil ?_
      rintro W' ⟨W, ⟨hg, hR⟩, rfl⟩
      obtain ⟨hge, -⟩ := hR g8 rfl
      have hb4 := bSetCells hg hge 0 z.cells.toArray.toList
      obtain ⟨w4, hw4⟩ : ∃ w4, W.setCells g8 0 z.cells.toArray.toList = w4 := ⟨_, rfl⟩
      rw [hw4] at hb4 ⊢
      have HE4 := Lib.hid (HE3.out.on hb4)
      have HB4 := Lib.hid (bTrans HB3.out hb4)
      clear hKp hKp2 hg hR hge hb4 hw4 HRE3 HM3 HG3 HB3 HE3 lE3 lg c1 HNO HYES
      have x0 := HE4.out.cell 0; have x1 := HE4.out.cell 1; have x2 := HE4.out.cell 2; have x3 := HE4.out.cell 3; have x4 := HE4.out.cell 4; have x5 := HE4.out.cell 5; have x6 := HE4.out.cell 6; have x7 := HE4.out.cell 7; have x8 := HE4.out.cell 8
      have lE4 := HE4.out.lt
      simp only [List.getElem?_toArray, List.getElem?_cons_zero, List.getElem?_cons_succ] at x0 x1 x2 x3 x4 x5 x6 x7 x8
      have HO4 := Lib.hid (HOU.out.below HB4.out)
      have HG4 := Lib.hid (HGR.out.on HB4.out)
      have HOR4 := Lib.hid (HOR.out.below HB4.out)
      have HK4 := Lib.hid (HKR.out.below HB4.out)
      have hws4 := HK4.out.size
      clear HOU HGR HOR HKR HB4
      go_upto_region 13 with (first | (at_builtin; refine wpList_app_cm rfl (.tmp 48) (.tmp 52) rfl w.heap.size _ s.2 [⟨4, x, 0, ok⟩] (HO4.out.alloc _) rfl _ _ 1 1 rfl rfl (rd_cm1 _ ⟨4, x, 0, ok⟩) (by simp only [List.length_cons, List.length_nil]; omega) (by simp; omega) ?_; intro A6 c6 n6 w6 hn6 ho6 hg6; have HO6 := Lib.hid ho6; have HGB6 := Lib.hid hg6; clear ho6 hg6))
      have ho5 := HO4.out.alloc (.cells (Cm.cells ⟨4, x, 0, ok⟩).toArray 57)
      have HE6 : Hid (Blk w6 wr.heap.size 43 #[.int .i64 x.frame, .int .i64 x.emitter, .int .i64 x.kind, .int .i64 x.ord, .int .i64 x.asset, .int .i64 x.gain, .int .i64 x.pan, .int .i64 x.prio, .int .i64 x.len]) := Lib.hid ((HE4.out.alloc _).grown HGB6.out ((HE4.out.alloc _).apart ho5 (by decide)))
      have HG6 : Hid (LgW w6 g gl gt most s.1 T com false) := Lib.hid ((HG4.out.alloc _).farR ho5 HGB6.out (by decide) (by decide))
      have HOR6 : Hid (OwnL w6 0 43 9 (.slice (some ⟨b, off, none⟩) n c) Ev.cells E) := Lib.hid ((HOR4.out.alloc _).keptR ho5 (by decide) HGB6.out)
      have HK6 : Hid (KeptX w w6 [gl]) := Lib.hid ((HK4.out.alloc _).grown HGB6.out (fun r hr => .inr (ho5.base_le r hr)))
      clear ho5 HO4 HG4 HOR4 HK4 HE4 HGB6 x0 x1 x2 x3 x4 x5 x6 x7 x8 lE4
      obtain ⟨lg, -, c1, -⟩ := HG6.out.cells
      have HM6 := Lib.hid HG6.out.live
      have lE6 := HE6.out.lt
      have HRE6 := Lib.hid (HKR3.out w6 wr.heap.size HE6.out)
      have hKp := Keeps.base w6
      refine wp_region_mixed [.pure, .pure, .pure, .held, .pure, .held, .tail] (fun _ => lgNew w6 43 zeroE.cells.toArray) (by kernel_rfl) (by kernel_rfl) ?_
      repeat (first | (refine mix_pure rfl rfl rfl (fun K hK => ?_); go_big_quiet_op; refine hK _ ?_; clear hK K) | (refine mix_held rfl rfl rfl (by assumption) (fun K hK => ?_); go_big_quiet_op; refine hK _ ?_; clear hK K))
      refine mix_load rfl rfl (by assumption) 41 (.tmp 58) rfl wr.heap.size 0 rfl x.key.cells _ lE6 HRE6.out Try.underlying41 rfl (by kernel_rfl) ?_
      simp only [Act.put, List.setIfInBounds_toArray, List.set_cons_zero, List.set_cons_succ]
      refine mix_dropM rfl rfl (.tmp 57) (.tmp 59) 59 41 43 rfl key_law Try.underlying59 gl (prs s.1) (prs (dropK s.1 x.key)) rfl (fun W hW => HM6.out.same (hW.block gl HM6.out.lt)) x.key kl rfl HKL.out prs_drop (HS1.out.drop _).keys ?_
      refine mix_nil ?_
      rintro w7 ⟨V, hV, hM7, hT7⟩
      have hgb := hT7.grown
      obtain ⟨es, ck, hmb⟩ := (HG6.out.on hV).live.block
      have HG7 : Hid (LgW w7 g gl gt most (dropK s.1 x.key) T com false) := Lib.hid ((HG6.out.on hV).turned hM7 hgb)
      have HO7 : Hid (OwnL w7 w.heap.size 57 12 (.slice A6 n6 c6) Cm.cells (s.2 ++ [⟨4, x, 0, ok⟩])) := Lib.hid ((HO6.out.below hV).kept hgb (.inr ((HO6.out.below hV).noMap hmb)))
      have HOR7 : Hid (OwnL w7 0 43 9 (.slice (some ⟨b, off, none⟩) n c) Ev.cells E) := Lib.hid ((HOR6.out.below hV).kept hgb (.inr ((HOR6.out.below hV).noMap hmb)))
      have HK7 : Hid (KeptX w w7 [gl]) := Lib.hid ((HK6.out.below hV).grown hgb (fun r e => by cases e; simp))
      clear hV hM7 hT7 hgb hmb hKp HM6 HG6 HE6 HRE6 c1 lE6 lg HO6 HOR6 HK6
      have HCS : Hid (commitS s x = (dropK s.1 x.key, s.2 ++ [⟨4, x, 0, ok⟩])) := Lib.hid (by unfold commitS; rw [HKO.out])
      go_wp2_with fail
      go_roundw
      case rel => exact ⟨k + 1, by omega, by go_num, A6, n6, c6, rfl, Lib.hid (by rw [HSN.out, HCS.out]; exact HO7.out), Lib.hid (by rw [HSN.out, HCS.out]; exact HG7.out), HOR7, HK7⟩
      case measure => simp [intOf]; omega
    · obtain rfl : k = n := by omega
      rw [List.take_of_length_le (by rw [HN.out]; exact Nat.le_refl _), ← HX.out] at HOU HGR
      obtain ⟨lg, -, -, g2, c3, c4⟩ := HGR.out.cells
      have HTR := Lib.hid HGR.out.told
      go_wp2_with (first
        | (refine wpList_dropM _ rfl (.tmp 64) (.tmp 65) 60 3 rfl 28 int_law Try.underlying60 gt T (delT T (com + 1)) rfl HTR.out (com + 1) fl rfl HFL.out delT_1 (HTR.out.nodup.sublist (List.filter_sublist.map _)) ?_
           intro w5 hM5 hT5
           have hgb := hT5.grown
           obtain ⟨es, ck, hmb⟩ := HGR.out.told.block
           have HG5 : Hid (LgW w5 g gl gt most X.1 (delT T (com + 1)) com false) := Lib.hid ⟨HGR.out.blk.grown hgb (fun e => HGR.out.blk.noMap hmb (Option.some.inj e).symm), HGR.out.live.same (hgb.block gl HGR.out.live.lt (fun e => HGR.out.ne (Option.some.inj e))), hM5, fun p hp => (HGR.out.rows p ((delT_1 p).1 hp).1).kept hgb (.inr ((HGR.out.rows p ((delT_1 p).1 hp).1).noMap hmb)), HGR.out.ne⟩
           have HO5 : Hid (OwnL w5 w.heap.size 57 12 (.slice A' n' c') Cm.cells X.2) := Lib.hid (HOU.out.kept hgb (.inr (HOU.out.noMap hmb)))
           have HK5 : Hid (KeptX w w5 [gl, gt]) := Lib.hid ((HKR.out.more (by simp)).grown hgb (fun r e => by cases e; simp))
           obtain ⟨lg5, -, -, -, c35, -⟩ := HG5.out.cells
           have f35 := HG5.out.blk.frozen 3
           clear hM5 hT5 hgb hmb))
      go_ret2
      have hgs : (w5.setCell ⟨g, 3, none⟩ (.int .i64 (com + 1))).heap.size = w5.heap.size := by simp [World.setCell]
      have hgw : w5.grownBy (w5.setCell ⟨g, 3, none⟩ (.int .i64 (com + 1))) (some g) := ⟨rfl, rfl, rfl, by rw [hgs]; exact Nat.le_refl _, fun k _ hk => Below.heap_setCell w5 ⟨g, 3, none⟩ _ k (fun e => hk (by rw [e]))⟩
      obtain ⟨es, ck, hml⟩ := HG5.out.live.block
      obtain ⟨es', ck', hmt⟩ := HG5.out.told.block
      refine ⟨A', n', c', rfl, HO5.out.farG (fun e => HG5.out.blk.apart HO5.out (by decide) e) _ _, ⟨HG5.out.blk.set 3 (.int .i64 (com + 1)), ?_, ?_, fun p hp => (HG5.out.rows p hp).farG (fun e => HG5.out.blk.apart (HG5.out.rows p hp) (by decide) e) _ _, HG5.out.ne⟩, ?_⟩
      · exact HG5.out.live.same (hgw.block gl HG5.out.live.lt (fun e => HG5.out.blk.noMap hml (Option.some.inj e).symm))
      · exact HG5.out.told.same (hgw.block gt HG5.out.told.lt (fun e => HG5.out.blk.noMap hmt (Option.some.inj e).symm))
      · exact (HK5.out.more (by simp)).setCell (by simp) _ _
end
end Go.Proofs.Yteccmklacgpodaa
