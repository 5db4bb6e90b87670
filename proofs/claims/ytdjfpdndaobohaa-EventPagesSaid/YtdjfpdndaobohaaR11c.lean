/-
  The document's events: one added to those of a frame.
-/
import Derived.Test.YtdjfpdndaobohaaR11b
import Derived.Test.YtdjfpdndaobohaaMix
import Derived.Test.YtdjfpdndaobohaaName
namespace Go.Proofs.Ytdjfpdndaobohaa
open Go.RowKit
set_option maxRecDepth 100000
set_option linter.unusedSimpArgs false
theorem cntE_take (L : List Ev) (em kd : Int) (i : Nat) (hi : i < L.length) : cntE (L.take (i + 1)) em kd = cntE (L.take i) em kd + if sameK em kd L[i] then 1 else 0 := by
  unfold cntE
  rw [List.take_succ_eq_append_getElem hi, List.filter_append, List.length_append]
  congr 1
  cases h : sameK em kd L[i] <;> simp [h]
theorem cntE_take_le (L : List Ev) (em kd : Int) (i : Nat) : cntE (L.take i) em kd ≤ i := Nat.le_trans (cntE_le _ _ _) (by rw [List.length_take]; omega)
/-- What can be said of an event that is added: may it be, is there room? -/
def addR (F : Int) (L : List Ev) (x : Ev) : Int := if evOk (x.at_ F 0) = false then 1 else if 64 ≤ L.length ∨ 15 < cntE L x.emitter x.kind then 8 else 0
def putTold (w : World) (M : List Ev) : Told := ⟨fun v => ∃ A c n, v = .slice A n c, fun v W => OwnL W w.heap.size 25 9 v Ev.cells M⟩
theorem putTold_st {w : World} {M : List Ev} : ∀ v W U, (putTold w M).R v W → Grown W U → (putTold w M).R v U := fun _ _ _ h k => h.below k
theorem put_told {w W : World} (hW : Grown w W) (A : Option Addr) (c n : Nat) (L : List Ev) (x : Ev) (hn : n = L.length) (hl : L.length ≤ 1000000) (hr : Rd w w.heap.size A (L.flatMap Ev.cells)) :
    Calls Try.prog 36 #[.slice A n c, x.val] W fun e w' => ∃ v, e = .returned v ∧ ((putTold w (putE L x)).S v ∧ (putTold w (putE L x)).R v w') ∧ Grown W w' := by
  subst hn
  refine (r11Put_any A c L x W hl ((hr.below hW (Nat.le_refl _)).more (Below.size hW))).mono ?_
  rintro e w' ⟨A', c', n', rfl, ho, hb⟩
  exact ⟨_, rfl, ⟨⟨A', c', n', rfl⟩, ho.more (Below.size hW)⟩, hb⟩
set_option maxHeartbeats 4000000 in
theorem r11Add_bad (A : Option Addr) (n c : Nat) (F : Int) (x : Ev) (w : World) (h : evOk (x.at_ F 0) = false) :
    Calls Try.prog 13 #[.slice A n c, .int .i64 F, x.val] w fun e w' => e = .returned (.tuple #[.slice A n c, .agg #[.int .i64 0, .int .i64 0, .int .i64 0, .int .i64 0], .int .i64 1]) ∧ Below w.heap.size w w' := by
  have HRT : Hid (∀ W, Calls Try.prog 22 #[.agg #[.int .i64 F, .int .i64 x.emitter, .int .i64 x.kind, .int .i64 0, .int .i64 x.asset, .int .i64 x.gain, .int .i64 x.pan, .int .i64 x.prio, .int .i64 x.len]] W fun e w' => e = .returned (.bool false) ∧ Below W.heap.size W w') := Lib.hid (fun W => (r11Right_any (x.at_ F 0) W).mono fun e w' ⟨he, hb⟩ => ⟨by rw [he, h], hb⟩)
  clear h
  unfold Ev.val
  go_enter Try.func13, Try.ntmps13
  go_upto_region 1 with fail
  refine named2 (F := fun W => Code.wp _ _ _ _ W) ?_
  intro w1 k0 k1 hb1 hz1
  have hl0 := k0.lt
  have q0 := k0.cell 0
  have q3 := k0.cell 3
  have g0 := k0.frozen 0
  have g3 := k0.frozen 3
  simp only [List.getElem?_toArray, List.getElem?_cons_zero, List.getElem?_cons_succ] at q0 q3
  go_upto_region 3 with fail
  obtain ⟨w2, hw2⟩ : ∃ w2, (w1.setCell ⟨w.heap.size, 0, none⟩ (.int .i64 F)).setCell ⟨w.heap.size, 3, none⟩ (.int .i64 0) = w2 := ⟨_, rfl⟩
  have j0 : Blk w2 w.heap.size 25 #[.int .i64 F, .int .i64 x.emitter, .int .i64 x.kind, .int .i64 0, .int .i64 x.asset, .int .i64 x.gain, .int .i64 x.pan, .int .i64 x.prio, .int .i64 x.len] := by rw [← hw2]; exact (k0.set 0 (.int .i64 F)).set 3 (.int .i64 0)
  have j1 : Blk w2 (w.heap.size + 1) 23 #[.int .i64 0, .int .i64 0, .int .i64 0, .int .i64 0] := by rw [← hw2]; exact (k1.farG (by omega) _ _).farG (by omega) _ _
  have jb : Below w.heap.size w w2 := by rw [← hw2]; exact bSetG (bSetG hb1 (Nat.le_refl _) _ _) (Nat.le_refl _) _ _
  rw [hw2]
  clear hw2 k0 k1 hb1 hz1 hl0 q0 q3 g0 g3
  obtain ⟨e0, e1, e2, e3, e4, e5, e6, e7, e8⟩ := Blk.ev j0
  have J0 := Lib.hid j0
  have J1 := Lib.hid j1
  have JB := Lib.hid jb
  have hl0 := j0.lt
  clear j0 j1 jb
  go_upto_region 4 with (first | (go_at_call 22; refine (HRT.out _).mono ?_; rintro e w3 ⟨rfl, hb3⟩; have G0 := Lib.hid (J0.out.on hb3); have G1 := Lib.hid (J1.out.on hb3); have GB := Lib.hid (bTrans JB.out hb3); clear hb3))
  have hl1 := G1.out.lt
  obtain ⟨y0, y1, y2, y3⟩ := Blk.key G1.out
  have z0 := G1.out.frozen 0
  have z1 := G1.out.frozen 1
  have z2 := G1.out.frozen 2
  have z3 := G1.out.frozen 3
  go_wp2_with fail
  refine bodyPost_ret (v := .tuple #[.slice A n c, .agg #[.int .i64 0, .int .i64 0, .int .i64 0, .int .i64 0], .int .i64 1]) (by simp [results, Try.results13, go_sem, y0, y1, y2, y3]) rfl ⟨rfl, ?_⟩
  exact bSetG (bSetG (bSetG (bSetG GB.out (by omega) _ _) (by omega) _ _) (by omega) _ _) (by omega) _ _
/-- What the document's addition of an event that may be answers. -/
def AddPost (w : World) (A : Option Addr) (n c : Nat) (F : Int) (L : List Ev) (x : Ev) (e : Ending) (w' : World) : Prop :=
  if 64 ≤ L.length ∨ 15 < cntE L x.emitter x.kind then e = .returned (.tuple #[.slice A n c, .agg #[.int .i64 0, .int .i64 0, .int .i64 0, .int .i64 0], .int .i64 8]) ∧ Below w.heap.size w w'
  else ∃ A' c' n', e = .returned (.tuple #[.slice A' n' c', .agg #[.int .i64 F, .int .i64 x.emitter, .int .i64 x.kind, .int .i64 (cntE L x.emitter x.kind)], .int .i64 0]) ∧ OwnL w' w.heap.size 25 9 (.slice A' n' c') Ev.cells (putE L (numE F L x)) ∧ Below w.heap.size w w'
set_option maxHeartbeats 8000000 in
theorem r11Add_good (A : Option Addr) (c : Nat) (F : Int) (L : List Ev) (x : Ev) (w : World) (h : evOk (x.at_ F 0) = true) (hl : L.length ≤ 1000000) (hr : Rd w w.heap.size A (L.flatMap Ev.cells)) :
    Calls Try.prog 13 #[.slice A L.length c, .int .i64 F, x.val] w (AddPost w A L.length c F L x) := by
  have HRT : Hid (∀ W, Calls Try.prog 22 #[.agg #[.int .i64 F, .int .i64 x.emitter, .int .i64 x.kind, .int .i64 0, .int .i64 x.asset, .int .i64 x.gain, .int .i64 x.pan, .int .i64 x.prio, .int .i64 x.len]] W fun e w' => e = .returned (.bool true) ∧ Below W.heap.size W w') := Lib.hid (fun W => (r11Right_any (x.at_ F 0) W).mono fun e w' ⟨he, hb⟩ => ⟨by rw [he, h], hb⟩)
  obtain ⟨n, hn⟩ : ∃ n, L.length = n := ⟨_, rfl⟩
  rw [hn] at hl ⊢
  have HN := Lib.hid hn
  have HR := Lib.hid hr
  clear h hn hr
  unfold Ev.val
  go_enter Try.func13, Try.ntmps13
  go_upto_region 1 with fail
  refine named2 (F := fun W => Code.wp _ _ _ _ W) ?_
  intro w1 k0 k1 hb1 hz1
  have hl0 := k0.lt
  have q0 := k0.cell 0
  have q3 := k0.cell 3
  have g0 := k0.frozen 0
  have g3 := k0.frozen 3
  simp only [List.getElem?_toArray, List.getElem?_cons_zero, List.getElem?_cons_succ] at q0 q3
  go_upto_region 3 with fail
  obtain ⟨w2, hw2⟩ : ∃ w2, (w1.setCell ⟨w.heap.size, 0, none⟩ (.int .i64 F)).setCell ⟨w.heap.size, 3, none⟩ (.int .i64 0) = w2 := ⟨_, rfl⟩
  have j0 : Blk w2 w.heap.size 25 #[.int .i64 F, .int .i64 x.emitter, .int .i64 x.kind, .int .i64 0, .int .i64 x.asset, .int .i64 x.gain, .int .i64 x.pan, .int .i64 x.prio, .int .i64 x.len] := by rw [← hw2]; exact (k0.set 0 (.int .i64 F)).set 3 (.int .i64 0)
  have j1 : Blk w2 (w.heap.size + 1) 23 #[.int .i64 0, .int .i64 0, .int .i64 0, .int .i64 0] := by rw [← hw2]; exact (k1.farG (by omega) _ _).farG (by omega) _ _
  have jb : Below w.heap.size w w2 := by rw [← hw2]; exact bSetG (bSetG hb1 (Nat.le_refl _) _ _) (Nat.le_refl _) _ _
  rw [hw2]
  clear hw2 k0 k1 hb1 hz1 hl0 q0 q3 g0 g3
  obtain ⟨e0, e1, e2, e3, e4, e5, e6, e7, e8⟩ := Blk.ev j0
  have J0 := Lib.hid j0
  have J1 := Lib.hid j1
  have JB := Lib.hid jb
  have hl0 := j0.lt
  clear j0 j1 jb
  go_upto_region 4 with (first | (go_at_call 22; refine (HRT.out _).mono ?_; rintro e w3 ⟨rfl, hb3⟩; have G0 := Lib.hid (J0.out.on hb3); have G1 := Lib.hid (J1.out.on hb3); have GB := Lib.hid (bTrans JB.out hb3); clear hb3))
  go_wp2_with fail
  go_loopw [9] (fun v wr => ∃ i : Nat, i ≤ n ∧ v = .int .i64 i ∧ Hid (Blk wr w.heap.size 25 #[.int .i64 F, .int .i64 x.emitter, .int .i64 x.kind, .int .i64 (cntE (L.take i) x.emitter x.kind : Nat), .int .i64 x.asset, .int .i64 x.gain, .int .i64 x.pan, .int .i64 x.prio, .int .i64 x.len]) ∧ Hid (Blk wr (w.heap.size + 1) 23 #[.int .i64 0, .int .i64 0, .int .i64 0, .int .i64 0]) ∧ Hid (Below w.heap.size w wr)) (fun v _ => n - (intOf v).toNat)
  case atStart => exact ⟨0, Nat.zero_le _, rfl, by simpa [cntE] using G0, G1, GB⟩
  case round =>
    obtain ⟨i, hi, rfl, HE, HK, HB⟩ := hrel
    clear G0 G1 GB J0 J1 JB hl0 e0 e1 e2 e3 e4 e5 e6 e7 e8
    obtain ⟨e0, e1, e2, e3, e4, e5, e6, e7, e8⟩ := Blk.ev HE.out
    have hl0 := HE.out.lt
    have g3 := HE.out.frozen 3
    have hci := cntE_take_le L x.emitter x.kind i
    by_cases hlt : i < n
    · have hiL : i < L.length := by rw [HN.out]; exact hlt
      obtain ⟨b, off, hA, hbl, x0, x1, x2, -, -, -, -, -, -⟩ := (HR.out.below HB.out (Nat.le_refl _)).ev hiL
      subst hA
      have hblw := Nat.lt_trans hbl hl0
      have HCT := Lib.hid (cntE_take L x.emitter x.kind i hiL)
      obtain ⟨y, hy⟩ : ∃ y, L[i] = y := ⟨_, rfl⟩
      rw [hy] at x0 x1 x2 HCT
      clear hy hiL
      obtain ⟨ct, hct⟩ : ∃ ct, cntE (L.take i) x.emitter x.kind = ct := ⟨_, rfl⟩
      rw [hct] at HE HCT e3 hci
      clear hct
      by_cases he : y.emitter = x.emitter
      · have h1 : (y.emitter == x.emitter) = true := by simpa using he
        by_cases hk : y.kind = x.kind
        · have h2 : (y.kind == x.kind) = true := by simpa using hk
          have HC2 : Hid (cntE (L.take (i + 1)) x.emitter x.kind = ct + 1) := Lib.hid (by rw [HCT.out, if_pos]; unfold sameK; rw [decide_eq_true he, decide_eq_true hk]; rfl)
          clear he hk HCT
          go_wp2_with fail
          go_quiet (fail)
          go_wp2_with fail
          go_roundw
          case rel => exact ⟨i + 1, by omega, by go_num, Lib.hid (by rw [HC2.out]; exact (HE.out.drewN _).set 3 _), Lib.hid ((HK.out.drewN _).farG (by omega) _ _), Lib.hid (bSetG (below_drewN HB.out _) (Nat.le_refl _) _ _)⟩
          case measure => simp [intOf]; omega
        · have h2 : (y.kind == x.kind) = false := by simpa using hk
          have HC2 : Hid (cntE (L.take (i + 1)) x.emitter x.kind = ct) := Lib.hid (by rw [HCT.out, if_neg]; rfl; unfold sameK; rw [decide_eq_false hk]; simp)
          clear he hk HCT
          go_wp2_with fail
          go_quiet (fail)
          go_wp2_with fail
          go_roundw
          case rel => exact ⟨i + 1, by omega, by go_num, Lib.hid (by rw [HC2.out]; exact HE.out.drewN _), Lib.hid (HK.out.drewN _), Lib.hid (below_drewN HB.out _)⟩
          case measure => simp [intOf]; omega
      · have h1 : (y.emitter == x.emitter) = false := by simpa using he
        have HC2 : Hid (cntE (L.take (i + 1)) x.emitter x.kind = ct) := Lib.hid (by rw [HCT.out, if_neg]; rfl; unfold sameK; rw [decide_eq_false he]; simp)
        clear he HCT
        go_wp2_with fail
        go_quiet (fail)
        go_wp2_with fail
        go_roundw
        case rel => exact ⟨i + 1, by omega, by go_num, Lib.hid (by rw [HC2.out]; exact HE.out.drewN _), Lib.hid (HK.out.drewN _), Lib.hid (below_drewN HB.out _)⟩
        case measure => simp [intOf]; omega
    · obtain rfl : i = n := by omega
      have hL : L.take i = L := by rw [← HN.out, List.take_length]
      rw [hL] at HE e3 hci
      obtain ⟨ct, hct⟩ : ∃ ct, cntE L x.emitter x.kind = ct := ⟨_, rfl⟩
      rw [hct] at HE e3 hci
      have HCT := Lib.hid hct
      clear hL hct
      have hl1 := HK.out.lt
      obtain ⟨y0, y1, y2, y3⟩ := Blk.key HK.out
      have z0 := HK.out.frozen 0
      have z1 := HK.out.frozen 1
      have z2 := HK.out.frozen 2
      have z3 := HK.out.frozen 3
      by_cases hfull : 64 ≤ i ∨ 15 < ct
      · have HP : Hid (∀ e w', e = .returned (.tuple #[.slice A i c, .agg #[.int .i64 0, .int .i64 0, .int .i64 0, .int .i64 0], .int .i64 8]) ∧ Below w.heap.size w w' → AddPost w A i c F L x e w') := Lib.hid (fun e w' h => by
          unfold AddPost
          rw [if_pos (by rw [HN.out, HCT.out]; exact hfull)]
          exact h)
        have HBX := Lib.hid (bSetG (bSetG (bSetG (bSetG HB.out (show w.heap.size ≤ w.heap.size + 1 by omega) 0 (.int .i64 0)) (show w.heap.size ≤ w.heap.size + 1 by omega) 1 (.int .i64 0)) (show w.heap.size ≤ w.heap.size + 1 by omega) 2 (.int .i64 0)) (show w.heap.size ≤ w.heap.size + 1 by omega) 3 (.int .i64 0))
        by_cases h64 : 64 ≤ i
        · have g1 : decide ((64 : Int) ≤ (i : Int)) = true := decide_eq_true (by omega)
          clear hfull
          go_wp2_with fail
          refine bodyPost_ret (v := .tuple #[.slice A i c, .agg #[.int .i64 0, .int .i64 0, .int .i64 0, .int .i64 0], .int .i64 8]) (by simp [results, Try.results13, go_sem, y0, y1, y2, y3]) rfl (HP.out _ _ ⟨rfl, HBX.out⟩)
        · have g1 : decide ((64 : Int) ≤ (i : Int)) = false := decide_eq_false (by omega)
          have g2 : decide ((15 : Int) < (ct : Int)) = true := decide_eq_true (by omega)
          clear hfull h64
          go_wp2_with fail
          refine bodyPost_ret (v := .tuple #[.slice A i c, .agg #[.int .i64 0, .int .i64 0, .int .i64 0, .int .i64 0], .int .i64 8]) (by simp [results, Try.results13, go_sem, y0, y1, y2, y3]) rfl (HP.out _ _ ⟨rfl, HBX.out⟩)
      · have HP : Hid (∀ e w', (∃ A' c' n', e = .returned (.tuple #[.slice A' n' c', .agg #[.int .i64 F, .int .i64 x.emitter, .int .i64 x.kind, .int .i64 ct], .int .i64 0]) ∧ OwnL w' w.heap.size 25 9 (.slice A' n' c') Ev.cells (putE L (numE F L x)) ∧ Below w.heap.size w w') → AddPost w A i c F L x e w') := Lib.hid (fun e w' h => by
          unfold AddPost
          rw [if_neg (by rw [HN.out, HCT.out]; exact hfull), HCT.out]
          exact h)
        have HPT : Hid (∀ W, Grown wr W → Calls Try.prog 36 #[.slice A i c, .agg #[.int .i64 F, .int .i64 x.emitter, .int .i64 x.kind, .int .i64 ct, .int .i64 x.asset, .int .i64 x.gain, .int .i64 x.pan, .int .i64 x.prio, .int .i64 x.len]] W fun e w' => ∃ v, e = .returned v ∧ ((putTold wr (putE L (numE F L x))).S v ∧ (putTold wr (putE L (numE F L x))).R v w') ∧ Grown W w') := Lib.hid (fun W hW => by
          have := put_told hW A c i L (numE F L x) HN.out.symm (by rw [HN.out]; exact hl) ((HR.out.below HB.out (Nat.le_refl _)).more HB.out.size)
          unfold numE at this ⊢
          rw [HCT.out] at this ⊢
          exact this)
        have g1 : decide ((64 : Int) ≤ (i : Int)) = false := decide_eq_false (by omega)
        have g2 : decide ((15 : Int) < (ct : Int)) = false := decide_eq_false (by omega)
        clear hfull
        go_upto_region 12 with fail
        have hKp := Keeps.base wr
        refine wp_region_mixed [.pure, .held, .make, .pure, .held, .pure, .tail, .pure] (fun _ => putTold wr (putE L (numE F L x))) (by kernel_rfl) (by kernel_rfl) ?_
        repeat (first | (refine mix_pure rfl rfl rfl (fun K hK => ?_); go_big_quiet_op; refine hK _ ?_; clear hK K) | (refine mix_held rfl rfl rfl (by assumption) (fun K hK => ?_); go_big_quiet_op; refine hK _ ?_; clear hK K))
        refine mix_make rfl rfl (by assumption) putTold_st (fun W hW => ?_) ?_
        · have HS2 := Lib.hid (HPT.out W hW)
          go_simp
          exact HS2.out
        rintro v ⟨A', c', n', rfl⟩ hKp2
        simp only [Act.put, List.setIfInBounds_toArray, List.set_cons_zero, List.set_cons_succ]
        repeat (first | (refine mix_pure rfl rfl rfl (fun K hK => ?_); go_big_quiet_op; refine hK _ ?_; clear hK K) | (refine mix_held rfl rfl rfl (by assumption) (fun K hK => ?_); go_big_quiet_op; refine hK _ ?_; clear hK K))
        refine mix_store rfl rfl 23 (.tmp 7) (.tmp 69) rfl (w.heap.size + 1) 0 #[.int .i64 F, .int .i64 x.emitter, .int .i64 x.kind, .int .i64 ct] rfl rfl (fun W hW => ?_) (by kernel_rfl) (by simp [Value.oneCell']) ?_
        · have hW : Grown wr W := hW.1
          exact Blk.there (HK.out.on hW) (by show 0 + 4 ≤ 4; decide)
        simp only [Act.put, List.setIfInBounds_toArray, List.set_cons_zero, List.set_cons_succ]
        repeat (first | (refine mix_pure rfl rfl rfl (fun K hK => ?_); go_big_quiet_op; refine hK _ ?_; clear hK K) | (refine mix_held rfl rfl rfl (by assumption) (fun K hK => ?_); go_big_quiet_op; refine hK _ ?_; clear hK K))
        refine mix_nil ?_
        rintro W' ⟨W, ⟨hg, hR⟩, rfl⟩
        have hR : OwnL W wr.heap.size 25 9 (.slice A' n' c') Ev.cells (putE L (numE F L x)) := hR
        have hkW := HK.out.on hg
        have hk' := hkW.whole [.int .i64 F, .int .i64 x.emitter, .int .i64 x.kind, .int .i64 ct] rfl
        have ho' := OwnL.kept (row := some (w.heap.size + 1)) hR (oSetCells (World.grownBy.refl W _) 0 [.int .i64 F, .int .i64 x.emitter, .int .i64 x.kind, .int .i64 ct]) (.inr (Blk.apart hkW hR (by decide)))
        have hb' := bSetCells (HB.out.trans (Below.mono hg (Nat.le_of_lt hl0))) (show w.heap.size ≤ w.heap.size + 1 by omega) 0 [.int .i64 F, .int .i64 x.emitter, .int .i64 x.kind, .int .i64 ct]
        obtain ⟨y0', y1', y2', y3'⟩ := Blk.key hk'
        clear hKp hKp2 e0 e1 e2 e3 e4 e5 e6 e7 e8 y0 y1 y2 y3 z0 z1 z2 z3 g3 hR hkW hk' hg
        obtain ⟨W5, hW5⟩ : ∃ W5, W.setCells (w.heap.size + 1) 0 [.int .i64 F, .int .i64 x.emitter, .int .i64 x.kind, .int .i64 ct] = W5 := ⟨_, rfl⟩
        rw [hW5] at ho' hb' y0' y1' y2' y3'
        rw [hW5]
        clear hW5
        have HO' := Lib.hid ho'
        have HB' := Lib.hid hb'
        clear ho' hb'
        go_wp2_with fail
        refine bodyPost_ret (v := .tuple #[.slice A' n' c', .agg #[.int .i64 F, .int .i64 x.emitter, .int .i64 x.kind, .int .i64 ct], .int .i64 0]) (by simp [results, Try.results13, go_sem, y0', y1', y2', y3']) rfl (HP.out _ _ ⟨A', c', n', rfl, HO'.out.more (Nat.le_of_lt hl0), HB'.out⟩)
end Go.Proofs.Ytdjfpdndaobohaa
