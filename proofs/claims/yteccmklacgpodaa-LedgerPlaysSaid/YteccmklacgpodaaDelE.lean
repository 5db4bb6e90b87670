/-
  slices.DeleteFunc of events, on a row of the call's own, under any closure of one captured variable.
-/
import Derived.Test.YteccmklacgpodaaIfE
import Derived.Test.YteccmklacgpodaaDelP
import Derived.Outline
import Derived.Deep.Cut
namespace Go.Proofs.Yteccmklacgpodaa
open Go.RowKit
set_option maxRecDepth 100000
set_option linter.unusedSimpArgs false
theorem idxP_spec {α : Type} (p : α → Bool) : ∀ (L : List α) (k : Nat), (idxP p k L = -1 ∧ ∀ x ∈ L, p x = false) ∨ ∃ j, ∃ hj : j < L.length, idxP p k L = ((k + j : Nat) : Int) ∧ p L[j] = true ∧ (L.take j).filter (fun x => !p x) = L.take j
  | [], k => .inl ⟨rfl, by simp⟩
  | x :: r, k => by
    unfold idxP
    cases h : p x with
    | true => exact .inr ⟨0, by simp, by simp, by simpa using h, by simp⟩
    | false =>
      rw [if_neg (by decide)]
      rcases idxP_spec p r (k + 1) with ⟨e, ha⟩ | ⟨j, hj, e, ht, hf⟩
      · refine .inl ⟨e, fun y hy => ?_⟩
        rcases List.mem_cons.1 hy with rfl | hy
        · exact h
        · exact ha y hy
      · refine .inr ⟨j + 1, by simpa using hj, by rw [e]; congr 1; omega, by simpa using ht, ?_⟩
        rw [List.take_succ_cons, List.filter_cons, h]
        simp [hf]
theorem evC_one (x : Ev) : ∀ u ∈ x.cells, u.oneCell' = true := fun u hu => by
  simp only [Ev.cells, List.mem_cons, List.not_mem_nil, or_false] at hu
  rcases hu with rfl | rfl | rfl | rfl | rfl | rfl | rfl | rfl | rfl <;> rfl
theorem zero_evD (W : World) : (zeroValue 43).run Try.prog W = .ok (.agg #[.int .i64 0, .int .i64 0, .int .i64 0, .int .i64 0, .int .i64 0, .int .i64 0, .int .i64 0, .int .i64 0, .int .i64 0]) W := by kernel_rfl
theorem wpList_clear_run {P : Program} {w : World} {ops : Array Oper} {o : Oper} {a : Act} {Q : Exit → Act → World → Prop} {rest : List Oper} (hgd : o.guard = none) (d : Operand) (t : TypeId) (ho : o.op = .call { callee := .builtin .clear, args := #[d], argTypes := #[t] }) (v : Value) (hd : a.eval d = v) {v' : Value} {w' : World}
    (hr : (Builtin.clear_ #[t] o.type #[v]).run P w = .ok v' w') (h : wpList P ops Q rest (a.put o.dst v') w') : wpList P ops Q (o :: rest) a w :=
  wpList_plain hgd fun _ hK => by
    unfold Oper.wp execOp
    simp only [ho, resolve, invoke, builtin, Sem.run_bind, Sem.run_pure, Result.andThen_ok, List.map_toArray, List.map_cons, List.map_nil, hd, hr]
    exact hK _ _ h
set_option maxHeartbeats 4000000 in
theorem del_gen {f : Nat} (eg : ∀ args w, (callFunc f args).run Try.prog w = .ok (.enter f args) w) (q : Nat) (u : Value) (p : Ev → Bool)
    (hf : ∀ x W, W.cell? ⟨q, 0, none⟩ = some u → Calls Try.prog f #[x.val, .pointer (some ⟨q, 0, none⟩)] W fun e w' => e = .returned (.bool (p x)) ∧ Below W.heap.size W w')
    (base : Nat) (A : Option Addr) (c : Nat) (L : List Ev) (w : World) (hL : L.length ≤ 1000) (ho : OwnL w base 43 9 (.slice A L.length c) Ev.cells L) (hq : w.cell? ⟨q, 0, none⟩ = some u) (hqr : ∀ k, (Value.slice A L.length c).ownBlock = some k → k ≠ q) :
    Calls Try.prog 63 #[.slice A L.length c, .func (.func f) #[] #[.pointer (some ⟨q, 0, none⟩)]] w fun e w' => ∃ n', e = .returned (.slice A n' c) ∧ OwnL w' base 43 9 (.slice A n' c) Ev.cells (L.filter fun x => !p x) ∧ w.grownBy w' (Value.slice A L.length c).ownBlock := by
  have HI := Lib.hid (ifE_gen (f := f) (pv := .pointer (some ⟨q, 0, none⟩)) eg A c L p w hL ho.rd (fun x W hW => hf x W ((hW.cell (p := ⟨q, 0, none⟩) (block_lt_of_cell hq)).trans hq)))
  have hql := block_lt_of_cell hq
  rcases idxP_spec p L 0 with ⟨e1, hall⟩ | ⟨k0, hk0, e1, ht, hfl⟩
  · have hfe : (L.filter fun x => !p x) = L := by
      rw [List.filter_eq_self]
      intro x hx
      rw [hall x hx]; rfl
    rw [hfe]
    rw [e1] at HI
    obtain ⟨n, hn⟩ : ∃ n, L.length = n := ⟨_, rfl⟩
    have HO := Lib.hid ho
    rw [hn] at HI HO hL ⊢
    clear hn ho hf hq hqr hall hfe e1
    go_enter Try.func63, Try.ntmps63
    go_wp2_with (first | (go_at_call 62; refine HI.out.mono ?_; rintro e w1 ⟨rfl, hb1⟩))
    go_ret
    exact ⟨n, rfl, HO.out.below hb1, hb1.os, hb1.tape, hb1.output, hb1.size, fun k hk _ => hb1.block k hk⟩
  · rw [e1, Nat.zero_add] at HI
    obtain ⟨g, rfl, -, hbg, hgl⟩ := ho.formA (by omega)
    have hqg : g ≠ q := hqr g rfl
    have HK0 : Hid ((L.take (k0 + 1)).filter (fun x => !p x) = L.take k0) := Lib.hid (by
      rw [List.take_succ_eq_append_getElem hk0, List.filter_append, hfl]
      simp [ht])
    obtain ⟨n, hn⟩ : ∃ n, L.length = n := ⟨_, rfl⟩
    have HO := Lib.hid ho
    have HN := Lib.hid hn
    have HQ := Lib.hid hq
    have HF := Lib.hid hf
    unfold Ev.val at HF
    rw [hn] at HI HO hL hk0 ⊢
    clear hn ho hf hq hqr e1 ht hfl
    go_enter Try.func63, Try.ntmps63
    have hne1 : ((k0 : Int) == -1) = false := beq_eq_false_iff_ne.2 (by omega)
    go_wp2_with (first | (go_at_call 62; refine HI.out.mono ?_; rintro e w1 ⟨rfl, hb1⟩; have HB1 := Lib.hid hb1; clear hb1))
    go_loopw [5, 6] (fun s5 s6 wr => ∃ i j : Nat, ∃ R : List Ev, s5 = .int .i64 i ∧ s6 = .int .i64 j ∧ j ≤ n ∧ i < j ∧ Hid (OwnL wr base 43 9 (.slice (some ⟨g, 0, none⟩) n c) Ev.cells R) ∧ Hid (R.take i = (L.take j).filter (fun x => !p x)) ∧ Hid (R.drop j = L.drop j) ∧ Hid (w.grownBy wr (some g))) (fun _ s6 _ => n - (intOf s6).toNat)
    case atStart =>
      exact ⟨k0, k0 + 1, L, rfl, by go_num, by omega, by omega, Lib.hid (HO.out.below HB1.out), Lib.hid HK0.out.symm, Lib.hid rfl, Lib.hid ⟨HB1.out.os, HB1.out.tape, HB1.out.output, HB1.out.size, fun k hk _ => HB1.out.block k hk⟩⟩
    case round =>
      obtain ⟨i, j, R, rfl, rfl, hj, hij, HR, HT, HD, HG⟩ := hrel
      have hqc : Hid (wr.cell? ⟨q, 0, none⟩ = some u) := Lib.hid (by
        have := HG.out.block q hql (fun e => hqg (Option.some.inj e).symm)
        rw [← HQ.out]
        unfold World.cell?
        rw [this])
      have HRL : Hid (R.length = n) := Lib.hid HR.out.len.symm
      clear HI HO HB1 HK0
      by_cases hlt : j < n
      · have hjR : j < R.length := by rw [HRL.out]; exact hlt
        have hjL : j < L.length := by rw [HN.out]; exact hlt
        have hRj : R[j] = L[j] := by
          have h1 : (R.drop j)[0]? = (L.drop j)[0]? := by rw [HD.out]
          rw [List.getElem?_drop, List.getElem?_drop, Nat.add_zero, List.getElem?_eq_getElem hjR, List.getElem?_eq_getElem hjL] at h1
          exact Option.some.inj h1
        obtain ⟨b, off, hbo, hbl, hat⟩ := HR.out.rd.ev hjR
        cases hbo
        obtain ⟨x0, x1, x2, x3, x4, x5, x6, x7, x8⟩ := hat
        have HSN : Hid ((L.take (j + 1)).filter (fun x => !p x) = (L.take j).filter (fun x => !p x) ++ (if p L[j] = true then [] else [L[j]])) := Lib.hid (by
          rw [List.take_succ_eq_append_getElem hjL, List.filter_append]
          congr 1
          cases hpl : p L[j] <;> simp [hpl])
        have HDN : Hid (R.drop (j + 1) = L.drop (j + 1)) := Lib.hid (by
          have := congrArg (List.drop 1) HD.out
          rwa [List.drop_drop, List.drop_drop] at this)
        rw [hRj, Nat.zero_add] at x0 x1 x2 x3 x4 x5 x6 x7 x8
        obtain ⟨x, hx⟩ : ∃ x, L[j] = x := ⟨_, rfl⟩
        rw [hx] at x0 x1 x2 x3 x4 x5 x6 x7 x8 HSN
        clear hx hRj
        go_upto_region 8 with fail
        obtain ⟨w2, hw2⟩ : ∃ w2, w2 = wr.alloc (.cells #[.int .i64 x.frame, .int .i64 x.emitter, .int .i64 x.kind, .int .i64 x.ord, .int .i64 x.asset, .int .i64 x.gain, .int .i64 x.pan, .int .i64 x.prio, .int .i64 x.len] 43) := ⟨_, rfl⟩
        have HE2 : Hid (Blk w2 wr.heap.size 43 #[.int .i64 x.frame, .int .i64 x.emitter, .int .i64 x.kind, .int .i64 x.ord, .int .i64 x.asset, .int .i64 x.gain, .int .i64 x.pan, .int .i64 x.prio, .int .i64 x.len]) := Lib.hid (by rw [hw2]; exact Blk.new _ _ _)
        have HR2 : Hid (OwnL w2 base 43 9 (.slice (some ⟨g, 0, none⟩) n c) Ev.cells R) := Lib.hid (by rw [hw2]; exact HR.out.alloc _)
        have HG2 : Hid (w.grownBy w2 (some g)) := Lib.hid (by rw [hw2]; exact HG.out.trans (World.grownBy_alloc _ _ _))
        have hq2 : w2.cell? ⟨q, 0, none⟩ = some u := by
          rw [hw2, ← hqc.out]
          exact (Below.refl _ _ |>.alloc (Nat.le_refl _) _ |>.cell (p := ⟨q, 0, none⟩) (block_lt_of_cell hqc.out))
        have HC2 := Lib.hid (HF.out x w2 hq2)
        have hgr : g < wr.heap.size := hbl
        rw [← hw2]
        clear hw2 hq2 hqc HR HG x0 x1 x2 x3 x4 x5 x6 x7 x8 hbl
        obtain ⟨e0, e1, e2, e3, e4, e5, e6, e7, e8⟩ := Blk.ev HE2.out
        have el := HE2.out.lt
        cases hin : p x with
        | true =>
          rw [hin, if_pos rfl, List.append_nil] at HSN
          rw [hin] at HC2
          clear hin
          go_wp2_with (first | (go_at_fn f; refine HC2.out.mono ?_; rintro e w3 ⟨rfl, hb3⟩))
          go_roundw
          case rel => exact ⟨i, j + 1, R, rfl, by go_num, by omega, by omega, Lib.hid (HR2.out.below hb3), Lib.hid (by rw [HSN.out]; exact HT.out), HDN, Lib.hid (HG2.out.trans ⟨hb3.os, hb3.tape, hb3.output, hb3.size, fun k hk _ => hb3.block k hk⟩)⟩
          case measure => simp [intOf]; omega
        | false =>
          rw [hin, if_neg (by decide)] at HSN
          rw [hin] at HC2
          clear hin
          go_upto_region 9 with (first | (go_at_fn f; refine HC2.out.mono ?_; rintro e w3 ⟨rfl, hb3⟩))
          have HE3 := Lib.hid (HE2.out.on hb3)
          have HR3 := Lib.hid (HR2.out.below hb3)
          have HG3 : Hid (w.grownBy w3 (some g)) := Lib.hid (HG2.out.trans ⟨hb3.os, hb3.tape, hb3.output, hb3.size, fun k hk _ => hb3.block k hk⟩)
          have hg3 : g < w3.heap.size := by have := hb3.size; omega
          clear e0 e1 e2 e3 e4 e5 e6 e7 e8 el HE2 HR2 HG2 HC2 hb3
          obtain ⟨e0, e1, e2, e3, e4, e5, e6, e7, e8⟩ := Blk.ev HE3.out
          have el := HE3.out.lt
          have hiR : i < n := by omega
          have hil : i < R.length := by rw [HRL.out]; exact hiR
          have HR4 : Hid (OwnL (w3.setCells g (i * 9) x.cells) base 43 9 (.slice (some ⟨g, 0, none⟩) n c) Ev.cells (R.set i x)) := Lib.hid (OwnL.setE (k := i) (a := x) Ev.cells_length HR3.out hil)
          have HTH : Hid (w3.there g (i * 9) x.cells.toArray.size) := Lib.hid (by
            have h9 : x.cells.toArray.size = 9 := rfl
            rw [h9]
            exact OwnL.there Ev.cells_length HR3.out (by omega))
          have HG4 : Hid (w.grownBy (w3.setCells g (i * 9) x.cells) (some g)) := Lib.hid (oSetCells HG3.out _ _)
          go_wp2_with (first
            | (refine wpList_store_mid rfl 43 (.tmp 33) (.tmp 32) rfl g (i * 9) x.cells.toArray rfl rfl ?_ (by kernel_rfl) (all_oneCell_toArray (evC_one x)) ?_; exact HTH.out))
          go_roundw
          case rel =>
            refine ⟨i + 1, j + 1, R.set i x, by go_num, by go_num, by omega, by omega, HR4, Lib.hid ?_, Lib.hid ?_, HG4⟩
            · rw [HSN.out, ← HT.out, List.take_succ_eq_append_getElem (by rw [List.length_set]; exact hil), List.getElem_set_self, List.take_set_of_le (Nat.le_refl _)]
            · rw [List.drop_set_of_lt (by omega), HDN.out]
          case measure => simp [intOf]; omega
      · obtain rfl : j = n := by omega
        have hTL := HT.out
        rw [show L.take j = L from List.take_of_length_le (by rw [HN.out]; exact Nat.le_refl _)] at hTL
        have htr := HR.out.there Ev.cells_length (k := i * 9) (r := (j - i) * 9) (by omega)
        obtain ⟨vs, hvl, hrun⟩ := run_clearN (P := Try.prog) wr 28 43 _ 9 Try.underlying28 (zero_evD wr) rfl (by decide) g (i * 9) (j - i) (c - i) (by omega) (fun k hk => (htr k hk).1) (fun k hk => (htr k hk).2)
        have hcap : j ≤ c := by
          obtain ⟨-, h2⟩ := HR.out
          rcases h2 with ⟨e, -⟩ | ⟨g', cap, cur, hv, hb, hg, hn, hc, hs, ht⟩
          · cases e
          · simp only [Value.slice.injEq, Option.some.injEq, Addr.mk.injEq, and_true] at hv
            obtain ⟨-, -, rfl⟩ := hv
            rw [HRL.out] at hn
            exact hn
        clear htr
        go_wp2
        go_ret
        refine ⟨i, rfl, ?_, oSetCells HG.out _ _⟩
        rw [← hTL]
        exact (HR.out.cut Ev.cells_length (by omega)).beyond (Nat.le_refl _)
end Go.Proofs.Yteccmklacgpodaa
