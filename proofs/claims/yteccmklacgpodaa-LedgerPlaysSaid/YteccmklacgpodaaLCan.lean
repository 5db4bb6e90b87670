/-
  The ledger's cancel: entries that are not told any more.
-/
import Derived.Test.YteccmklacgpodaaLFit
namespace Go.Proofs.Yteccmklacgpodaa
open Go.RowKit
set_option maxRecDepth 100000
set_option linter.unusedSimpArgs false
theorem Try.infoCmd : (Try.prog.info? 57).map (fun i => (i.zero, i.size, i.bytes)) = some (some (.agg #[.int .i64 0, .int .i64 0, .int .i64 0, .int .i64 0, .int .i64 0, .int .i64 0, .int .i64 0, .int .i64 0, .int .i64 0, .int .i64 0, .int .i64 0, .bool false]), 12, 96) := by kernel_rfl
theorem cms_oneCell (M : List Cm) : ∀ u ∈ M.flatMap Cm.cells, u.oneCell' = true := fun u hu => by
  obtain ⟨e, -, he⟩ := List.mem_flatMap.1 hu
  have := Array.all_eq_true_iff_forall_mem.1 (cmd_oneCell e.kind e.e e.late e.played)
  exact this u (by simpa [Cm.cells] using he)
/-- 'append(s, x...)' of commands. -/
theorem wpList_app_cm {w : World} {ops : Array Oper} {rest : List Oper} {o : Oper} {a : Act} {Q : Exit → Act → World → Prop} (hgd : o.guard = none) (s x : Operand)
    (ho : o.op = .call { callee := .builtin .append, args := #[s, x], argTypes := #[34, 34] })
    (base : Nat) (u : Value) (L M : List Cm) (hown : OwnL w base 57 12 u Cm.cells L) (hs : a.eval s = u)
    (B : Nat) (A : Option Addr) (m c : Nat) (hm : m = M.length) (hx : a.eval x = .slice A m c) (hr : Rd w B A (M.flatMap Cm.cells)) (hn : L.length + M.length ≤ 1000000000) (hbase : base ≤ w.heap.size)
    (h : ∀ A' c' n' w', Hid (n' = L.length + M.length) → OwnL w' base 57 12 (.slice A' n' c') Cm.cells (L ++ M) → w.grownBy w' u.ownBlock → wpList Try.prog ops Q rest (a.put o.dst (.slice A' n' c')) w') : wpList Try.prog ops Q (o :: rest) a w := by
  subst hm
  obtain ⟨i0, hi0, hz0, hz1, hz2⟩ := info_parts Try.infoCmd
  refine wpList_append_rd hgd s x 34 ho base 57 i0 _ 12 96 Try.underlying34 hi0 hz0 hz1 hz2 rfl (by decide) u L.length (L.flatMap Cm.cells) hs hown B A M.length c (M.flatMap Cm.cells) hx (length_flatMap_const _ _ Cm.cells_length _) hr (rd_none Cm.cells_length (by decide) hr) (cms_oneCell M) (by unfold maxLen; omega) (by omega) hbase ?_
  intro v' w' hw hg _
  have ho' : OwnL w' base 57 12 v' Cm.cells (L ++ M) := OwnL.app (n := L.length + M.length) rfl hw
  obtain ⟨A', c', rfl⟩ := ho'.shape
  refine h A' c' _ w' (Lib.hid (by rw [List.length_append])) ?_ hg
  exact ho'
theorem rd_cm1 (w : World) (c : Cm) : Rd (w.alloc (.cells c.cells.toArray 57)) (w.heap.size + 1) (some ⟨w.heap.size, 0, none⟩) ([c].flatMap Cm.cells) := by
  have := rd_new w c.cells.toArray 57 _ rfl _ (Nat.lt_succ_self _)
  simpa using this
theorem wf_of {n : Int} (h1 : -9223372036854775808 ≤ n) (h2 : n ≤ 9223372036854775807) : (Lit.int .i64 n).wf = true := by
  have e1 : IntKind.i64.min = -9223372036854775808 := by decide
  have e2 : IntKind.i64.max = 9223372036854775807 := by decide
  show (decide (IntKind.i64.min ≤ n) && decide (n ≤ IntKind.i64.max)) = true
  rw [e1, e2, decide_eq_true h1, decide_eq_true h2]
  rfl
theorem evOk_wf {e : Ev} (h : evOk e = true) : e.key.Wf := by
  unfold evOk keyOk inB Ev.key at h
  simp only [Bool.and_eq_true, decide_eq_true_eq] at h
  intro x hx
  simp only [Ev.key, List.mem_cons, List.not_mem_nil, or_false] at hx
  rcases hx with rfl | rfl | rfl | rfl <;> exact wf_of (by omega) (by omega)
/-- A slice that reads lies in no map. -/
theorem Rd.turned {w w' : World} {B : Nat} {A : Option Addr} {xs : List Value} (h : Rd w B A xs) {b : Nat} {es : Array MapEntry} {clock : Nat} (hb : w.heap[b]? = some (.map es clock)) (hg : w.grownBy w' (some b)) : Rd w' B A xs := fun hn => by
  obtain ⟨g, off, e, hlt, hc⟩ := h hn
  refine ⟨g, off, e, hlt, fun j u hu => ?_⟩
  have h1 := hc j u hu
  have hl := block_lt_of_cell h1
  have hne : g ≠ b := by
    intro e
    subst e
    unfold World.cell? at h1
    rw [hb] at h1
    simp at h1
  rw [← h1]
  unfold World.cell?
  rw [hg.block g hl (fun e => hne (Option.some.inj e))]
set_option maxHeartbeats 1000000 in
theorem lcancelC_any (x o : Ev) (q : Nat) (w : World) (hq : Blk w q 43 #[.int .i64 o.frame, .int .i64 o.emitter, .int .i64 o.kind, .int .i64 o.ord, .int .i64 o.asset, .int .i64 o.gain, .int .i64 o.pan, .int .i64 o.prio, .int .i64 o.len]) : Calls Try.prog 47 #[x.val, .pointer (some ⟨q, 0, none⟩)] w fun e w' => e = .returned (.bool (decide (x.key = o.key) && likeE x o)) ∧ Below w.heap.size w w' := by
  obtain ⟨w1, hw1⟩ : ∃ w1, w1 = w.alloc (.cells #[.int .i64 x.frame, .int .i64 x.emitter, .int .i64 x.kind, .int .i64 x.ord, .int .i64 x.asset, .int .i64 x.gain, .int .i64 x.pan, .int .i64 x.prio, .int .i64 x.len] 43) := ⟨_, rfl⟩
  have HB : Hid (Below w.heap.size w w1) := Lib.hid (by rw [hw1]; exact bAlloc (Below.refl _ _) _)
  have HX : Hid (Blk w1 w.heap.size 43 #[.int .i64 x.frame, .int .i64 x.emitter, .int .i64 x.kind, .int .i64 x.ord, .int .i64 x.asset, .int .i64 x.gain, .int .i64 x.pan, .int .i64 x.prio, .int .i64 x.len]) := Lib.hid (by rw [hw1]; exact Blk.new _ _ _)
  have HO : Hid (Blk w1 q 43 #[.int .i64 o.frame, .int .i64 o.emitter, .int .i64 o.kind, .int .i64 o.ord, .int .i64 o.asset, .int .i64 o.gain, .int .i64 o.pan, .int .i64 o.prio, .int .i64 o.len]) := Lib.hid (by rw [hw1]; exact hq.alloc _)
  have HLK := Lib.hid (llike_any x o w1)
  obtain ⟨r, hr⟩ : ∃ r, (decide (x.key = o.key) && likeE x o) = r := ⟨_, rfl⟩
  have HR0 := Lib.hid hr
  rw [hr]
  unfold Ev.val at HLK ⊢
  clear hq hr
  go_enter Try.func47, Try.ntmps47
  go_upto_region 1 with fail
  rw [← hw1]
  clear hw1
  have x0 := HX.out.cell 0; have x1 := HX.out.cell 1; have x2 := HX.out.cell 2; have x3 := HX.out.cell 3; have x4 := HX.out.cell 4; have x5 := HX.out.cell 5; have x6 := HX.out.cell 6; have x7 := HX.out.cell 7; have x8 := HX.out.cell 8
  have y0 := HO.out.cell 0; have y1 := HO.out.cell 1; have y2 := HO.out.cell 2; have y3 := HO.out.cell 3; have y4 := HO.out.cell 4; have y5 := HO.out.cell 5; have y6 := HO.out.cell 6; have y7 := HO.out.cell 7; have y8 := HO.out.cell 8
  have lx := HX.out.lt
  have lo := HO.out.lt
  simp only [List.getElem?_toArray, List.getElem?_cons_zero, List.getElem?_cons_succ] at x0 x1 x2 x3 x4 x5 x6 x7 x8 y0 y1 y2 y3 y4 y5 y6 y7 y8
  by_cases hk : x.key = o.key
  · have HK : Hid (decide (x.key = o.key) = true) := Lib.hid (decide_eq_true hk)
    have HR : Hid (likeE x o = r) := Lib.hid (by rw [← HR0.out, HK.out, Bool.true_and])
    clear hk
    go_wp2_with (first
      | (refine wpList_runs (.bool true) rfl (by rw [← HK.out]; exact runs_eql rfl rfl rfl (by kernel_rfl) (key_eql x.key o.key) _) ?_)
      | (go_at_call 48; refine HLK.out.mono ?_; rintro e w2 ⟨rfl, hb2⟩))
    go_ret
    exact ⟨ret_bool HR.out, bTrans HB.out hb2⟩
  · have HK : Hid (decide (x.key = o.key) = false) := Lib.hid (decide_eq_false hk)
    have HR : Hid (false = r) := Lib.hid (by rw [← HR0.out, HK.out, Bool.false_and])
    clear hk
    go_wp2_with (first
      | (refine wpList_runs (.bool false) rfl (by rw [← HK.out]; exact runs_eql rfl rfl rfl (by kernel_rfl) (key_eql x.key o.key) _) ?_))
    go_ret
    exact ⟨ret_bool HR.out, HB.out⟩
theorem ofF_le (f : Int) (S : List Ev) : (ofF f S).length ≤ S.length := List.length_filter_le _ _
set_option maxHeartbeats 4000000 in
theorem cancel_any {w : World} {g gl gt : Nat} {most com : Int} {halt : Bool} {S : List Ev} {T : List TEnt} (h : LgW w g gl gt most S T com halt) (hS : LvOk S) (hl : S.length ≤ 1000) (f : Int) (A : Option Addr) (c : Nat) (evs : List Ev) (hn : evs.length ≤ 1000) (hr : Rd w w.heap.size A (evs.flatMap Ev.cells)) :
    Calls Try.prog 29 #[.pointer (some ⟨g, 0, none⟩), .agg #[.int .i64 f, .slice A evs.length c]] w fun e w' => ∃ (A' : Option Addr) (n' c' : Nat), e = .returned (.slice A' n' c') ∧ OwnL w' w.heap.size 57 12 (.slice A' n' c') Cm.cells (cancelF evs f S).2 ∧ LgW w' g gl gt most (cancelF evs f S).1 T com halt ∧ w.grownBy w' (some gl) := by
  obtain ⟨n, hnn⟩ : ∃ n, evs.length = n := ⟨_, rfl⟩
  obtain ⟨w1, hw1⟩ : ∃ w1, w1 = w.alloc (.cells #[.int .i64 f, .slice A n c] 30) := ⟨_, rfl⟩
  have HB : Hid (Below w.heap.size w w1) := Lib.hid (by rw [hw1]; exact bAlloc (Below.refl _ _) _)
  have HP : Hid (Blk w1 w.heap.size 30 #[.int .i64 f, .slice A n c]) := Lib.hid (by rw [hw1]; exact Blk.new _ _ _)
  have HG : Hid (LgW w1 g gl gt most S T com halt) := Lib.hid (by rw [hw1]; exact h.alloc _)
  have HR : Hid (Rd w1 w.heap.size A (evs.flatMap Ev.cells)) := Lib.hid (hr.below HB.out (Nat.le_refl _))
  have HOF := Lib.hid (of_any HG.out hS hl f)
  have HC : Hid (∀ o W q, Blk W q 43 #[.int .i64 o.frame, .int .i64 o.emitter, .int .i64 o.kind, .int .i64 o.ord, .int .i64 o.asset, .int .i64 o.gain, .int .i64 o.pan, .int .i64 o.prio, .int .i64 o.len] → Rd W W.heap.size A (evs.flatMap Ev.cells) → Calls Try.prog 45 #[.slice A n c, .func (.func 47) #[] #[.pointer (some ⟨q, 0, none⟩)]] W fun e w' => e = .returned (.bool (staysE evs o)) ∧ Below W.heap.size W w') := Lib.hid (fun o W q hq hW => by
    rw [← hnn]
    exact cfE_gen (enters_of Try.func47 (by kernel_rfl) rfl) A c evs _ W hn hW (fun x V hV => lcancelC_any x o q V (hq.on hV)))
  have hgw : gl < w.heap.size := h.live.lt
  have HS := Lib.hid hS
  rw [hnn]
  obtain ⟨X, hX⟩ : ∃ X, cancelF evs f S = X := ⟨_, rfl⟩
  rw [hX]
  have HX := Lib.hid hX
  clear hnn hr h hS hX
  go_enter Try.func29, Try.ntmps29
  go_upto_region 1 with fail
  rw [← hw1]
  clear hw1
  have p0 := HP.out.cell 0
  have lp := HP.out.lt
  simp only [List.getElem?_toArray, List.getElem?_cons_zero, List.getElem?_cons_succ] at p0
  go_wp2_with (first
    | (go_at_call 46; refine HOF.out.mono ?_; rintro e w2 ⟨B, m, cb, rfl, ho2, hb2⟩
       have HO2 := Lib.hid ho2
       have HB2 := Lib.hid (HB.out.trans (Below.mono hb2 HB.out.size))
       have HP2 := Lib.hid (HP.out.on hb2)
       have HG2 := Lib.hid (HG.out.on hb2)
       have HR2 := Lib.hid (HR.out.below hb2 HB.out.size)
       have HLM : Hid (m = (ofF f S).length) := Lib.hid ho2.len
       clear ho2 hb2))
  have hbs : w.heap.size ≤ w2.heap.size := HB2.out.size
  have hlo := ofF_le f S
  have HOS : Hid (∀ y ∈ ofF f S, y ∈ S) := Lib.hid (fun y hy => (List.mem_filter.1 hy).1)
  obtain ⟨O, hO⟩ : ∃ O, ofF f S = O := ⟨_, rfl⟩
  have HCF : Hid (X = O.foldl (cancelS evs) (S, [])) := Lib.hid (by rw [← HX.out, ← hO]; rfl)
  rw [hO] at HO2 HLM hlo HOS
  clear hO
  go_loopw [5, 14] (fun u v wr => ∃ k : Nat, k ≤ m ∧ v = .int .i64 k ∧ ∃ A' n' c', u = .slice A' n' c' ∧ Hid (OwnL wr w2.heap.size 57 12 (.slice A' n' c') Cm.cells ((O.take k).foldl (cancelS evs) (S, [])).2) ∧ Hid (LgW wr g gl gt most ((O.take k).foldl (cancelS evs) (S, [])).1 T com halt) ∧ Hid (Blk wr w.heap.size 30 #[.int .i64 f, .slice A n c]) ∧ Hid (Rd wr w.heap.size A (evs.flatMap Ev.cells)) ∧ Hid (OwnL wr w1.heap.size 43 9 (.slice B m cb) Ev.cells O) ∧ Hid (w.grownBy wr (some gl)) ∧ w2.heap.size ≤ wr.heap.size) (fun _ v _ => m - (intOf v).toNat)
  case atStart => exact ⟨0, Nat.zero_le _, rfl, none, 0, 0, rfl, Lib.hid OwnL.nil, HG2, HP2, HR2, HO2, Lib.hid (lg_grown HB2.out), Nat.le_refl _⟩
  case round =>
    obtain ⟨k, hk, rfl, A', n', c', rfl, HOU, HGR, HPR, HRR, HOR, HGW, hsz⟩ := hrel
    clear HO2 HG2 HP2 HR2 HB2
    by_cases hlt : k < m
    · have hkO : k < O.length := by rw [← HLM.out]; exact hlt
      obtain ⟨b, off, rfl, hbl, x0, x1, x2, x3, x4, x5, x6, x7, x8⟩ := HOR.out.rd.ev hkO
      have HSN := Lib.hid (foldl_snoc (cancelS evs) (S, []) O k hkO)
      obtain ⟨hs1, hs2, hs3⟩ := cancel_fold evs (O.take k) (S, []) HS.out
      have HS1 := Lib.hid hs1
      have hs4 : ((S, []) : Sc).1.length = S.length := rfl
      have hs5 : ((S, []) : Sc).2.length = 0 := rfl
      have hs6 : (O.take k).length ≤ k := by rw [List.length_take]; omega
      rw [hs4] at hs2
      rw [hs5] at hs3
      obtain ⟨x, hx⟩ : ∃ x, O[k] = x := ⟨_, rfl⟩
      have HXO : Hid (x ∈ S) := Lib.hid (by rw [← hx]; exact HOS.out _ (List.getElem_mem hkO))
      obtain ⟨s, hs⟩ : ∃ s, (O.take k).foldl (cancelS evs) (S, []) = s := ⟨_, rfl⟩
      rw [hx] at x0 x1 x2 x3 x4 x5 x6 x7 x8 HSN
      rw [hs] at HSN HS1 hs2 hs3 HOU HGR
      clear hx hs hs4 hs5 hs1
      go_upto_region 5 with fail
      obtain ⟨w3, hw3⟩ : ∃ w3, w3 = wr.alloc (.cells #[.int .i64 x.frame, .int .i64 x.emitter, .int .i64 x.kind, .int .i64 x.ord, .int .i64 x.asset, .int .i64 x.gain, .int .i64 x.pan, .int .i64 x.prio, .int .i64 x.len] 43) := ⟨_, rfl⟩
      have HE3 : Hid (Blk w3 wr.heap.size 43 #[.int .i64 x.frame, .int .i64 x.emitter, .int .i64 x.kind, .int .i64 x.ord, .int .i64 x.asset, .int .i64 x.gain, .int .i64 x.pan, .int .i64 x.prio, .int .i64 x.len]) := Lib.hid (by rw [hw3]; exact Blk.new _ _ _)
      have HB3 : Hid (Below wr.heap.size wr w3) := Lib.hid (by rw [hw3]; exact bAlloc (Below.refl _ _) _)
      have hs3' : wr.heap.size < w3.heap.size := by rw [hw3]; simp
      rw [← hw3]
      clear hw3 x0 x1 x2 x3 x4 x5 x6 x7 x8
      have HR3 : Hid (Rd w3 w3.heap.size A (evs.flatMap Ev.cells)) := Lib.hid ((HRR.out.below HB3.out (Nat.le_trans hbs hsz)).more (Nat.le_trans (Nat.le_trans hbs hsz) HB3.out.size))
      have p03 := (HPR.out.on HB3.out).cell 0
      have p13 := (HPR.out.on HB3.out).cell 1
      have lp3 := (HPR.out.on HB3.out).lt
      simp only [List.getElem?_toArray, List.getElem?_cons_zero, List.getElem?_cons_succ] at p03 p13
      have HC3 := Lib.hid (HC.out x w3 wr.heap.size HE3.out HR3.out)
      have HST : Hid (cancelS evs s x = if staysE evs x = true then s else (dropK s.1 x.key, s.2 ++ [⟨3, x, 0, false⟩])) := Lib.hid rfl
      cases hsy : staysE evs x with
      | true =>
        rw [hsy] at HC3
        rw [hsy, if_pos rfl] at HST
        clear hsy
        go_wp2_with (first | (go_at_call 45; refine HC3.out.mono ?_; rintro e w4 ⟨rfl, hb4⟩; have HB4 := Lib.hid (bTrans HB3.out hb4); clear hb4))
        go_roundw
        case rel =>
          refine ⟨k + 1, by omega, by go_num, A', n', c', rfl, Lib.hid ?_, Lib.hid ?_, Lib.hid (HPR.out.on HB4.out), Lib.hid (HRR.out.below HB4.out (Nat.le_trans hbs hsz)), Lib.hid (HOR.out.below HB4.out), Lib.hid (HGW.out.trans (lg_grown HB4.out)), Nat.le_trans hsz HB4.out.size⟩
          · rw [HSN.out, HST.out]; exact HOU.out.below HB4.out
          · rw [HSN.out, HST.out]; exact HGR.out.on HB4.out
        case measure => simp [intOf]; omega
      | false =>
        rw [hsy] at HC3
        rw [hsy, if_neg (by decide)] at HST
        clear hsy
        go_upto_region 7 with (first | (go_at_call 45; refine HC3.out.mono ?_; rintro e w4 ⟨rfl, hb4⟩; have HE4 := Lib.hid (HE3.out.on hb4); have HB4 := Lib.hid (bTrans HB3.out hb4); clear hb4))
        have HG4 := Lib.hid (HGR.out.on HB4.out)
        obtain ⟨lg, -, c1, -⟩ := HG4.out.cells
        have HM4 := Lib.hid HG4.out.live
        have lE4 := HE4.out.lt
        have hgl4 := HG4.out.live.lt
        have HRE4 : Hid (w4.rangeAt wr.heap.size 0 x.key.cells) := Lib.hid (fun j v hv => by
          have h4 : j < 4 := by
            have := (List.getElem?_eq_some_iff.1 hv).1
            simpa [Key4.cells] using this
          rw [Nat.zero_add, HE4.out.cell j]
          obtain rfl | rfl | rfl | rfl : j = 0 ∨ j = 1 ∨ j = 2 ∨ j = 3 := by omega
          all_goals exact hv)
        obtain ⟨kl, hkl⟩ := key_lit x.key (evOk_wf (HS.out.ok x HXO.out))
        have HKL := Lib.hid hkl
        clear hkl HC3 p03 p13 lp3 HR3
        have hKp := Keeps.base w4
        refine wp_region_mixed [.pure, .pure, .pure, .held, .pure, .held, .tail] (fun _ => lgNew w4 43 zeroE.cells.toArray) (by kernel_rfl) (by kernel_rfl) ?_
        repeat (first | (refine mix_pure rfl rfl rfl (fun K hK => ?_); go_big_quiet_op; refine hK _ ?_; clear hK K) | (refine mix_held rfl rfl rfl (by assumption) (fun K hK => ?_); go_big_quiet_op; refine hK _ ?_; clear hK K))
        refine mix_load rfl rfl (by assumption) 41 (.tmp 28) rfl wr.heap.size 0 rfl x.key.cells _ lE4 HRE4.out Try.underlying41 rfl (by kernel_rfl) ?_
        simp only [Act.put, List.setIfInBounds_toArray, List.set_cons_zero, List.set_cons_succ]
        refine mix_dropM rfl rfl (.tmp 27) (.tmp 29) 59 41 43 rfl key_law Try.underlying59 gl (prs s.1) (prs (dropK s.1 x.key)) rfl (fun W hW => HM4.out.same (hW.block gl HM4.out.lt)) x.key kl rfl HKL.out prs_drop (HS1.out.drop _).keys ?_
        refine mix_nil ?_
        rintro w5 ⟨V, hV, hM5, hT5⟩
        have hgb := hT5.grown
        have HG5 : Hid (LgW w5 g gl gt most (dropK s.1 x.key) T com halt) := Lib.hid ((HG4.out.on hV).turned hM5 hgb)
        have hne := (HE4.out.on hV).noMap (HG4.out.on hV).live.block.choose_spec.choose_spec
        have HE5 : Hid (Blk w5 wr.heap.size 43 #[.int .i64 x.frame, .int .i64 x.emitter, .int .i64 x.kind, .int .i64 x.ord, .int .i64 x.asset, .int .i64 x.gain, .int .i64 x.pan, .int .i64 x.prio, .int .i64 x.len]) := Lib.hid ((HE4.out.on hV).grown hgb (fun e => hne (Option.some.inj e).symm))
        have HO5 : Hid (OwnL w5 w2.heap.size 57 12 (.slice A' n' c') Cm.cells s.2) := Lib.hid (((HOU.out.below HB4.out).below hV).kept hgb (.inr (((HOU.out.below HB4.out).below hV).noMap (HG4.out.on hV).live.block.choose_spec.choose_spec)))
        have HOR5 : Hid (OwnL w5 w1.heap.size 43 9 (.slice (some ⟨b, off, none⟩) m cb) Ev.cells O) := Lib.hid (((HOR.out.below HB4.out).below hV).kept hgb (.inr (((HOR.out.below HB4.out).below hV).noMap (HG4.out.on hV).live.block.choose_spec.choose_spec)))
        have HP5 : Hid (Blk w5 w.heap.size 30 #[.int .i64 f, .slice A n c]) := Lib.hid (((HPR.out.on HB4.out).on hV).grown hgb (fun e => ((HPR.out.on HB4.out).on hV).noMap (HG4.out.on hV).live.block.choose_spec.choose_spec (Option.some.inj e).symm))
        have HR5 : Hid (Rd w5 w.heap.size A (evs.flatMap Ev.cells)) := Lib.hid (((HRR.out.below HB4.out (Nat.le_trans hbs hsz)).below hV (Nat.le_trans hbs (Nat.le_trans hsz HB4.out.size))).turned (HG4.out.on hV).live.block.choose_spec.choose_spec hgb)
        have HGW5 : Hid (w.grownBy w5 (some gl)) := Lib.hid ((HGW.out.trans (lg_grown (HB4.out.trans (Below.mono hV HB4.out.size)))).trans hgb)
        have hsz5 : w2.heap.size ≤ w5.heap.size := Nat.le_trans hsz (Nat.le_trans HB4.out.size (Nat.le_trans hV.size hgb.size))
        clear hV hM5 hT5 hgb hne hKp HM4 HG4 HE4 HB4 HRE4 c1 lE4 lg hgl4 HOU HGR HPR HRR HOR HGW hsz HE3 HB3 hs3' hbl
        have x0 := HE5.out.cell 0; have x1 := HE5.out.cell 1; have x2 := HE5.out.cell 2; have x3 := HE5.out.cell 3; have x4 := HE5.out.cell 4; have x5 := HE5.out.cell 5; have x6 := HE5.out.cell 6; have x7 := HE5.out.cell 7; have x8 := HE5.out.cell 8
        have lE5 := HE5.out.lt
        simp only [List.getElem?_toArray, List.getElem?_cons_zero, List.getElem?_cons_succ] at x0 x1 x2 x3 x4 x5 x6 x7 x8
        go_wp2_with (first | (at_builtin; refine wpList_app_cm rfl (.tmp 30) (.tmp 33) rfl w2.heap.size _ s.2 [⟨3, x, 0, false⟩] (HO5.out.alloc _) rfl _ _ 1 1 rfl rfl (rd_cm1 _ ⟨3, x, 0, false⟩) (by simp only [List.length_cons, List.length_nil]; omega) (by simp; omega) ?_; intro A6 c6 n6 w6 hn6 ho6 hg6; have HO6 := Lib.hid ho6; have HG6 := Lib.hid hg6; clear ho6 hg6))
        go_roundw
        case rel =>
          have ho5 := HO5.out.alloc (.cells (Cm.cells ⟨3, x, 0, false⟩).toArray 57)
          refine ⟨k + 1, by omega, by go_num, A6, n6, c6, rfl, Lib.hid ?_, Lib.hid ?_, Lib.hid ((HP5.out.alloc _).grown HG6.out ((HP5.out.alloc _).apart ho5 (by decide))), Lib.hid ((HR5.out.below (bAlloc (Below.refl _ _) _) (Nat.le_trans hbs hsz5)).grown HG6.out (fun r hr => Nat.le_trans hbs (ho5.base_le r hr))), Lib.hid ((HOR5.out.alloc _).keptR ho5 (by decide) HG6.out), Lib.hid ?_, ?_⟩
          · rw [HSN.out, HST.out]; exact HO6.out
          · rw [HSN.out, HST.out]; exact (HG5.out.alloc _).farR ho5 HG6.out (by decide) (by decide)
          · have h1 := HGW5.out.trans (World.grownBy_alloc w5 (.cells (Cm.cells ⟨3, x, 0, false⟩).toArray 57) (some gl))
            exact ⟨HG6.out.os.trans h1.os, HG6.out.tape.trans h1.tape, HG6.out.output.trans h1.output, Nat.le_trans h1.size HG6.out.size, fun k hk hx => (HG6.out.block k (Nat.lt_of_lt_of_le hk h1.size) (fun e => by have := ho5.base_le k e.symm; omega)).trans (h1.block k hk hx)⟩
          · have := HG6.out.size
            simp at this
            omega
        case measure => simp [intOf]; omega
    · obtain rfl : k = m := by omega
      rw [List.take_of_length_le (by rw [HLM.out]; exact Nat.le_refl _), ← HCF.out] at HOU HGR
      go_wp2
      go_ret
      exact ⟨A', n', c', rfl, HOU.out.more (by omega), HGR.out, HGW.out⟩
end Go.Proofs.Yteccmklacgpodaa
