/-
  LedgerPlays: the walk.
-/
import Derived.Test.YteccmklacgpodaaMp3
namespace Go.Proofs.Yteccmklacgpodaa
open Go.RowKit
set_option maxRecDepth 100000
set_option linter.unusedSimpArgs false
theorem Rd.actR {w : World} {B : Nat} {A : Option Addr} {l : List ActP} (h : Rd w B A (l.flatMap ActP.cells)) {k : Nat} (hk : k < l.length) :
    ∃ b off, A = some ⟨b, off, none⟩ ∧ b < B ∧ w.rangeAt b (off + k * 4) l[k].cells := by
  obtain ⟨b, off, hA, hb, hat⟩ := h.at_ ActP.cells_length (by omega) hk
  exact ⟨b, off, hA, hb, fun j v hv => hat j v hv⟩
theorem runs_lenS {P : Program} {o : Oper} {a : Act} (m : Operand) (t e : TypeId) (hop : o.op = Op.call { callee := Callee.builtin Builtin.len, args := #[m], argTypes := #[t] }) (ht : P.underlying t = some (.slice e)) (A : Option Addr) (n c : Nat) (hm : a.eval m = .slice A n c) (W : World) : RunsTo P o a W (.int .i64 n) := by
  unfold RunsTo execOp
  simp only [hop, resolve, invoke, builtin, Sem.run_bind, Sem.run_pure, Result.andThen_ok, List.map_toArray, List.map_cons, List.map_nil, hm]
  simp [Builtin.len_, run_underlying ht, goInt, Result.andThen]
def isV (x v : Value) : Prop := v = x
def noR (_ : Value) (_ : World) : Prop := True
/-- What a call on both leaves. -/
def DoneT (w : World) (g gl gt gm : Nat) (size : Int) (i : Nat) (v : Value) (W : World) : Prop := v = .bool true ∧ ∃ S T P com halt, Both w W g gl gt gm size i S T P com halt
set_option maxHeartbeats 16000000 in
theorem plays_any (size : Int) (A : Option Addr) (c : Nat) (l : List ActP) (ask : Int) (hask : -9223372036854775808 ≤ ask ∧ ask ≤ 9223372036854775807) (w : World) (hr : Rd w w.heap.size A (l.flatMap ActP.cells)) (hin : ∀ a ∈ l, a.In w) : Calls Try.prog 5 #[.int .i64 size, .slice A l.length c, .int .i64 ask] w fun e w' => e = .returned (.bool true) ∧ Below w.heap.size w w' := by
  have HR := Lib.hid hr
  have HIN := Lib.hid hin
  obtain ⟨m, hm⟩ : ∃ m, l.length = m := ⟨_, rfl⟩
  have HM := Lib.hid hm
  rw [hm]
  clear hr hin hm
  have HASK : Hid ((Lit.int .i64 ask).wf = true) := Lib.hid (wf_of hask.1 hask.2)
  clear hask
  by_cases hsz : 1 ≤ size ∧ size ≤ 256
  · go_enter Try.func5, Try.ntmps5
    go_upto_region 7 with (first
      | (go_at_call 8; refine (awake_any _).mono ?_; rintro e w1 ⟨rfl, hb1⟩; have HN := Lib.hid (new_lgr size w1 hsz hb1); have HB1 := Lib.hid hb1; clear hb1)
      | (go_at_call 9; refine HN.out.mono ?_; rintro e w2 ⟨rfl, hg2⟩; have HG2 := Lib.hid hg2; clear hg2)
      | (go_at_call 18; refine (rnew_any size _).mono ?_; rintro e w3 ⟨rfl, hm3, hb3⟩; have HG3 := Lib.hid (HG2.out.on hb3); have HM3 := Lib.hid hm3; clear hm3 hb3))
    have HB3 : Hid (Both w w3 (w1.heap.size + 2) w1.heap.size (w1.heap.size + 1) w2.heap.size size 0 [] [] [] (-1) false) := Lib.hid ⟨HG3.out, ⟨_, _, _, _, HM3.out⟩, HG2.out.below.size, Nat.le_refl _, toldR_nil, fun e => by cases e⟩
    obtain ⟨gm, hgm⟩ : ∃ gm, w2.heap.size = gm := ⟨_, rfl⟩
    obtain ⟨g, hg⟩ : ∃ g, w1.heap.size + 2 = g := ⟨_, rfl⟩
    obtain ⟨gt, hgt⟩ : ∃ gt, w1.heap.size + 1 = gt := ⟨_, rfl⟩
    obtain ⟨gl, hgl⟩ : ∃ gl, w1.heap.size = gl := ⟨_, rfl⟩
    rw [hgm, hg, hgt, hgl] at HB3
    rw [hgm, hg]
    have hs256 : size ≤ 256 := hsz.2
    have hs1 : 1 ≤ size := hsz.1
    clear hg hgt hgl hgm HN HB1 HG2 HG3 HM3 hsz
    go_wp2_with fail
    go_loopw [10] (fun v wr => ∃ (i : Nat) (S : List Ev) (T P : List TEnt) (com : Int) (halt : Bool), i ≤ m ∧ i ≤ 100 ∧ v = .int .i64 i ∧ Hid (Both w wr g gl gt gm size i S T P com halt)) (fun v _ => m - (intOf v).toNat)
    case atStart => exact ⟨0, [], [], [], -1, false, Nat.zero_le _, by omega, rfl, HB3⟩
    case round =>
      clear HB3
      obtain ⟨i, S, T, P, com, halt, him, hi100, rfl, HB⟩ := hrel
      by_cases hlt : i < m
      · by_cases h100 : i < 100
        · have hil : i < l.length := by rw [HM.out]; exact hlt
          obtain ⟨b, off, rfl, hbl, hrange⟩ := (HR.out.below HB.out.lg.below (Nat.le_refl _)).actR hil
          have hbw : b < wr.heap.size := Nat.lt_of_lt_of_le hbl HB.out.lg.below.size
          have hai := HIN.out l[i] (List.getElem_mem hil)
          obtain ⟨a, ha⟩ : ∃ a, l[i] = a := ⟨_, rfl⟩
          rw [ha] at hrange hai
          have HRA := Lib.hid hrange
          have HAI := Lib.hid hai
          obtain ⟨n, hn⟩ : ∃ n, a.evs.length = n := ⟨_, rfl⟩
          have HN := Lib.hid hn
          have x0 : wr.cell? ⟨b, off + i * 4, none⟩ = some (.int .i64 a.kind) := hrange 0 _ rfl
          have x1 : wr.cell? ⟨b, off + i * 4 + 1, none⟩ = some (.int .i64 a.frame) := hrange 1 _ rfl
          have x2 : wr.cell? ⟨b, off + i * 4 + 2, none⟩ = some (.slice a.A n a.c) := by rw [← hn]; exact hrange 2 _ rfl
          have x3 : wr.cell? ⟨b, off + i * 4 + 3, none⟩ = some (.int .i64 a.by_) := hrange 3 _ rfl
          obtain ⟨d, hd⟩ : ∃ d, decide (farA a.frame a.by_ n) = d := ⟨_, rfl⟩
          have HF := Lib.hid (far_any a.kind a.frame a.by_ a.A n a.c wr)
          have HD := Lib.hid hd
          rw [hd] at HF
          clear ha hai hn hbl hd hrange
          cases d
          · go_upto_region 11 with (first | (go_at_call 10; refine HF.out.mono ?_; rintro e w4 ⟨rfl, hb4⟩; have HB4 := Lib.hid (HB.out.on hb4); have HK4 := Lib.hid hb4; clear hb4))
            have hfar : ¬ farA a.frame a.by_ n := by simpa using HD.out
            rw [← HN.out] at hfar
            have HDO := Lib.hid (fun W (hW : Grown w4 W) => does_any (HB4.out.on hW) hs256 hs1 (by omega) a hfar (fun W' hW' => (HAI.out.rows.below hW' (Nat.le_refl _)).more hW'.size))
            have hrg : w4.rangeAt b (off + i * 4) a.cells := fun j v hv => by rw [HK4.out.cell (p := ⟨b, off + i * 4 + j, none⟩) hbw]; exact HRA.out j v hv
            have HRG := Lib.hid hrg
            have hb4 : b < w4.heap.size := Nat.lt_of_lt_of_le hbw HK4.out.size
            clear x0 x1 x2 x3 hfar hrg hbw HB HRA HAI HN HF HD HK4
            refine wp_region_mixedU [.pure, .pure, .pure, .pure, .pure, .held, .tail, .pure, .pure, .pure, .make, .pure, .pure, .pure, .held, .make, .pure, .pure, .pure, .pure, .make, .pure, .pure, .pure, .held, .pure, .pure, .pure, .pure, .make, .pure, .pure, .pure, .held, .pure, .pure, .pure, .pure, .pure, .make, .pure, .pure, .make, .make, .pure, .pure, .pure, .pure, .make, .pure, .pure, .pure, .pure] (by kernel_rfl) (by kernel_rfl) ?_
            repeat (refine mixU_pure rfl rfl rfl (fun K hK => ?_); go_big_quiet_op; refine hK _ ?_; clear hK K)
            refine mixU_load rfl rfl (fun _ h => h) 32 (.tmp 51) rfl b (off + i * 4) rfl a.cells _ hb4 HRG.out Try.underlying32 rfl (by kernel_rfl) ?_
            simp only [Act.put, List.setIfInBounds_toArray, List.set_cons_zero, List.set_cons_succ]
            refine mixU_write rfl rfl (DoneT w g gl gt gm size (i + 1)) (fun W hW => by
              have HS : Hid (Calls Try.prog 19 #[.pointer (some ⟨g, 0, none⟩), .pointer (some ⟨gm, 0, none⟩), .agg a.cells.toArray] W fun e W' => ∃ v, e = .returned v ∧ DoneT w g gl gt gm size (i + 1) v W') := Lib.hid ((HDO.out W hW).mono (fun e W' h => ⟨_, h.1, rfl, h.2⟩))
              go_simp
              exact HS.out) ?_
            rintro v w2 ⟨rfl, S2, T2, P2, com2, halt2, hb2⟩
            have HB2 := Lib.hid hb2
            obtain ⟨AL, cL, Ap, cp, hm2⟩ := hb2.mg
            obtain ⟨lgm, -, m1, -, m3, m4⟩ := hm2.cells
            have HM2 := Lib.hid hm2
            have hlen2 := hb2.lg.len
            have hok2 := Lib.hid hb2.lg.ok
            have hP2 : P2.length ≤ 1000 := Nat.le_trans hb2.plen (by omega)
            have HLV : Hid (∀ W, Grown w2 W → Calls Try.prog 13 #[.pointer (some ⟨g, 0, none⟩)] W fun e W' => ∃ v, e = .returned v ∧ ((∃ A c, v = .slice A S2.length c) ∧ OwnL W' 0 43 9 v Ev.cells S2) ∧ Grown W W') := Lib.hid (fun W hW => (live_lg (hb2.lg.lg.on hW) hok2.out (by omega)).mono (fun e W' ⟨A, c, h1, h2, h3⟩ => ⟨_, h1, ⟨⟨A, c, rfl⟩, h2.more (Nat.zero_le _)⟩, h3⟩))
            have HCO : Hid (∀ W, Grown w2 W → Calls Try.prog 12 #[.pointer (some ⟨g, 0, none⟩)] W fun e W' => ∃ v, e = .returned v ∧ (isV (.int .i64 com2) v ∧ noR v W') ∧ Grown W W') := Lib.hid (fun W hW => (committed_any (hb2.lg.lg.on hW)).mono (fun e W' ⟨h1, h2⟩ => ⟨_, h1, ⟨rfl, trivial⟩, h2 ▸ Grown.refl _⟩))
            have HHA : Hid (∀ W, Grown w2 W → Calls Try.prog 20 #[.pointer (some ⟨g, 0, none⟩)] W fun e W' => ∃ v, e = .returned v ∧ (isV (.bool halt2) v ∧ noR v W') ∧ Grown W W') := Lib.hid (fun W hW => (halted_any (hb2.lg.lg.on hW)).mono (fun e W' ⟨h1, h2⟩ => ⟨_, h1, ⟨rfl, trivial⟩, h2 ▸ Grown.refl _⟩))
            have HTO : Hid (∀ W, Grown w2 W → Calls Try.prog 21 #[.pointer (some ⟨g, 0, none⟩), .int .i64 ask] W fun e W' => ∃ v, e = .returned v ∧ ((∃ A n c, v = .slice A n c) ∧ OwnL W' 0 43 9 v Ev.cells (toldAt T2 ask)) ∧ Grown W W') := Lib.hid (fun W hW => (told_any (hb2.lg.lg.on hW) hb2.lg.told ask HASK.out).mono (fun e W' ⟨A, c, h1, h2, h3⟩ => ⟨_, h1, ⟨⟨A, _, c, rfl⟩, h2.more (Nat.zero_le _)⟩, h3⟩))
            have HMT : Hid (∀ W, Grown w2 W → Calls Try.prog 22 #[.pointer (some ⟨gm, 0, none⟩), .int .i64 ask] W fun e W' => ∃ v, e = .returned v ∧ ((∃ A n c, v = .slice A n c) ∧ OwnL W' 0 43 9 v Ev.cells (toldAt T2 ask)) ∧ Grown W W') := Lib.hid (fun W hW => (rtold_any (hm2.on hW) ask hP2).mono (fun e W' ⟨A, n, c, h1, h2, h3⟩ => ⟨_, h1, ⟨⟨A, n, c, rfl⟩, by rw [hb2.told ask]; exact h2⟩, h3⟩))
            have hte := (toldAt_ok hb2.lg.told ask).2
            have hgt : decide (size < (S2.length : Int)) = false := decide_eq_false (by omega)
            clear hb2 HB4 HDO HRG hb4 hm2
            simp only [Act.put, List.setIfInBounds_toArray, List.set_cons_zero, List.set_cons_succ]
            repeat (refine mixU_pure rfl rfl rfl (fun K hK => ?_); go_big_quiet_op; refine hK _ ?_; clear hK K)
            refine mixU_act rfl rfl (fun _ h => h) (fun v => ∃ A c, v = .slice A S2.length c) (fun v W => OwnL W 0 43 9 v Ev.cells S2) (fun W hW => by
              have HS := Lib.hid (HLV.out W hW)
              go_simp
              exact HS.out) ?_
            rintro v ⟨A5, c5, rfl⟩
            simp only [Act.put, List.setIfInBounds_toArray, List.set_cons_zero, List.set_cons_succ]
            repeat (first | (refine mixU_pure rfl rfl rfl (fun K hK => ?_); go_big_quiet_op; refine hK _ ?_; clear hK K) | (refine mixU_held rfl rfl rfl (by first | exact fun _ h => h | exact fun _ h => h.2) (fun K hK => ?_); go_big_quiet_op; refine hK _ ?_; clear hK K))
            refine mixU_act rfl rfl (fun _ h => h.2) (isV (.bool true)) noR (fun W hW => by
              have HS : Hid (Calls Try.prog 15 #[.slice A5 S2.length c5, .slice AL S2.length cL] W fun e W' => ∃ v, e = .returned v ∧ (isV (.bool true) v ∧ noR v W') ∧ Grown W W') := Lib.hid ((same_ev A5 AL S2.length S2.length c5 cL S2 hW.1 (HM2.out.on hW.2).live (by omega)).mono (fun e W' ⟨h1, h2⟩ => ⟨_, h1, ⟨rfl, trivial⟩, h2⟩))
              go_simp
              exact HS.out) ?_
            rintro v hv
            obtain rfl : v = .bool true := hv
            simp only [Act.put, List.setIfInBounds_toArray, List.set_cons_zero, List.set_cons_succ]
            repeat (first | (refine mixU_pure rfl rfl rfl (fun K hK => ?_); go_big_quiet_op; refine hK _ ?_; clear hK K) | (refine mixU_held rfl rfl rfl (by first | exact fun _ h => h | exact fun _ h => h.2) (fun K hK => ?_); go_big_quiet_op; refine hK _ ?_; clear hK K))
            refine mixU_act rfl rfl (fun _ h => h.2) (isV (.int .i64 com2)) (noR) (fun W hW => by
              have HS := Lib.hid (HCO.out W hW.2)
              go_simp
              exact HS.out) ?_
            rintro v hv
            obtain rfl : v = .int .i64 com2 := hv
            simp only [Act.put, List.setIfInBounds_toArray, List.set_cons_zero, List.set_cons_succ]
            repeat (first | (refine mixU_pure rfl rfl rfl (fun K hK => ?_); go_big_quiet_op; refine hK _ ?_; clear hK K) | (refine mixU_held rfl rfl rfl (by first | exact fun _ h => h | exact fun _ h => h.2) (fun K hK => ?_); go_big_quiet_op; refine hK _ ?_; clear hK K))
            refine mixU_act rfl rfl (fun _ h => h.2) (isV (.bool halt2)) (noR) (fun W hW => by
              have HS := Lib.hid (HHA.out W hW.2)
              go_simp
              exact HS.out) ?_
            rintro v hv
            obtain rfl : v = .bool halt2 := hv
            simp only [Act.put, List.setIfInBounds_toArray, List.set_cons_zero, List.set_cons_succ]
            repeat (first | (refine mixU_pure rfl rfl rfl (fun K hK => ?_); go_big_quiet_op; refine hK _ ?_; clear hK K) | (refine mixU_held rfl rfl rfl (by first | exact fun _ h => h | exact fun _ h => h.2) (fun K hK => ?_); go_big_quiet_op; refine hK _ ?_; clear hK K))
            refine mixU_act rfl rfl (fun _ h => h.2) (fun v => ∃ A n c, v = .slice A n c) (fun v W => OwnL W 0 43 9 v Ev.cells (toldAt T2 ask)) (fun W hW => by
              have HS := Lib.hid (HTO.out W hW.2)
              go_simp
              exact HS.out) ?_
            rintro v ⟨A6, n6, c6, rfl⟩
            simp only [Act.put, List.setIfInBounds_toArray, List.set_cons_zero, List.set_cons_succ]
            repeat (first | (refine mixU_pure rfl rfl rfl (fun K hK => ?_); go_big_quiet_op; refine hK _ ?_; clear hK K) | (refine mixU_held rfl rfl rfl (by first | exact fun _ h => h | exact fun _ h => h.2) (fun K hK => ?_); go_big_quiet_op; refine hK _ ?_; clear hK K))
            refine mixU_act rfl rfl (fun _ h => h.2) (fun v => ∃ A n c, v = .slice A n c) (fun v W => OwnL W 0 43 9 v Ev.cells (toldAt T2 ask) ∧ OwnL W 0 43 9 (.slice A6 n6 c6) Ev.cells (toldAt T2 ask)) (fun W hW => by
              have HS : Hid (Calls Try.prog 22 #[.pointer (some ⟨gm, 0, none⟩), .int .i64 ask] W fun e W' => ∃ v, e = .returned v ∧ ((∃ A n c, v = .slice A n c) ∧ OwnL W' 0 43 9 v Ev.cells (toldAt T2 ask) ∧ OwnL W' 0 43 9 (.slice A6 n6 c6) Ev.cells (toldAt T2 ask)) ∧ Grown W W') := Lib.hid ((HMT.out W hW.2).mono (fun e W' ⟨v, h1, ⟨h2, h3⟩, h4⟩ => ⟨v, h1, ⟨h2, h3, hW.1.below h4⟩, h4⟩))
              go_simp
              exact HS.out) ?_
            rintro v ⟨A7, n7, c7, rfl⟩
            simp only [Act.put, List.setIfInBounds_toArray, List.set_cons_zero, List.set_cons_succ]
            repeat (first | (refine mixU_pure rfl rfl rfl (fun K hK => ?_); go_big_quiet_op; refine hK _ ?_; clear hK K) | (refine mixU_held rfl rfl rfl (by first | exact fun _ h => h | exact fun _ h => h.2) (fun K hK => ?_); go_big_quiet_op; refine hK _ ?_; clear hK K))
            refine mixU_act rfl rfl (fun _ h => h.2) (isV (.bool true)) noR (fun W hW => by
              have HS : Hid (Calls Try.prog 15 #[.slice A6 n6 c6, .slice A7 n7 c7] W fun e W' => ∃ v, e = .returned v ∧ (isV (.bool true) v ∧ noR v W') ∧ Grown W W') := Lib.hid ((same_ev A6 A7 n6 n7 c6 c7 (toldAt T2 ask) hW.1.2 hW.1.1 (by omega)).mono (fun e W' ⟨h1, h2⟩ => ⟨_, h1, ⟨rfl, trivial⟩, h2⟩))
              go_simp
              exact HS.out) ?_
            rintro v hv
            obtain rfl : v = .bool true := hv
            simp only [Act.put, List.setIfInBounds_toArray, List.set_cons_zero, List.set_cons_succ]
            repeat (first | (refine mixU_pure rfl rfl rfl (fun K hK => ?_); go_big_quiet_op; refine hK _ ?_; clear hK K) | (refine mixU_held rfl rfl rfl (by first | exact fun _ h => h | exact fun _ h => h.2) (fun K hK => ?_); go_big_quiet_op; refine hK _ ?_; clear hK K))
            refine mixU_act rfl rfl (fun _ h => h.2) (fun v => ∃ A c, v = .slice A S2.length c) (fun v W => OwnL W 0 43 9 v Ev.cells S2) (fun W hW => by
              have HS := Lib.hid (HLV.out W hW.2)
              go_simp
              exact HS.out) ?_
            rintro v ⟨A8, c8, rfl⟩
            simp only [Act.put, List.setIfInBounds_toArray, List.set_cons_zero, List.set_cons_succ]
            repeat (first | (refine mixU_pure rfl rfl rfl (fun K hK => ?_); go_big_quiet_op; refine hK _ ?_; clear hK K) | (refine mixU_held rfl rfl rfl (by first | exact fun _ h => h | exact fun _ h => h.2) (fun K hK => ?_); go_big_quiet_op; refine hK _ ?_; clear hK K))
            refine mixU_run (.int .i64 S2.length) rfl rfl (fun W => runs_lenS (.tmp 95) 28 43 rfl Try.underlying28 A8 S2.length c8 rfl W) ?_
            simp only [Act.put, List.setIfInBounds_toArray, List.set_cons_zero, List.set_cons_succ]
            repeat (first | (refine mixU_pure rfl rfl rfl (fun K hK => ?_); go_big_quiet_op; refine hK _ ?_; clear hK K) | (refine mixU_held rfl rfl rfl (by first | exact fun _ h => h | exact fun _ h => h.2) (fun K hK => ?_); go_big_quiet_op; refine hK _ ?_; clear hK K))
            refine mixU_nil ?_
            rintro W5 ⟨-, hb5⟩
            have HB5 := Lib.hid (HB2.out.on hb5)
            clear HB2 HM2 HLV HCO HHA HTO HMT m1 m3 m4 lgm hb5
            go_wp2
            go_roundw
            case rel => exact ⟨i + 1, _, _, _, _, _, by omega, by omega, by go_num, HB5⟩
            case measure => simp [intOf]; omega
          · go_wp2_with (first | (go_at_call 10; refine HF.out.mono ?_; rintro e w4 ⟨rfl, hb4⟩; have HB4 := Lib.hid (HB.out.on hb4).step; clear hb4))
            go_roundw
            case rel => exact ⟨i + 1, _, _, _, _, _, by omega, by omega, by go_num, HB4⟩
            case measure => simp [intOf]; omega
        · go_wp2
          go_ret
          exact ⟨rfl, HB.out.lg.below⟩
      · go_wp2
        go_ret
        exact ⟨rfl, HB.out.lg.below⟩
  · go_enter Try.func5, Try.ntmps5
    have hbs : size < 1 ∨ 256 < size := by omega
    by_cases h1 : size < 1
    · go_wp2_with (first
        | (go_at_call 8; refine (awake_any _).mono ?_; rintro e w1 ⟨rfl, hb1⟩; have HB1 := Lib.hid hb1; clear hb1)
        | (go_at_call 9; refine (new_bad size _ hbs).mono ?_; rintro e w2 ⟨rfl, rfl⟩))
      go_ret
      exact ⟨rfl, HB1.out⟩
    · have h2 : 256 < size := by omega
      go_wp2_with (first
        | (go_at_call 8; refine (awake_any _).mono ?_; rintro e w1 ⟨rfl, hb1⟩; have HB1 := Lib.hid hb1; clear hb1)
        | (go_at_call 9; refine (new_bad size _ hbs).mono ?_; rintro e w2 ⟨rfl, rfl⟩))
      go_ret
      exact ⟨rfl, HB1.out⟩
end Go.Proofs.Yteccmklacgpodaa
