/-
  The walks beneath: R11c, Bot5, R12s, R12a, R12b, R12c, R12e, MixG.
-/
import Derived.Test.YtibeihcpehikoaaGreatNl1
namespace Go.Proofs.YtibeihcpehikoaaGreat
open Go.RowKit
set_option maxRecDepth 100000
set_option maxHeartbeats 8000000
set_option linter.unusedSimpArgs false
section
theorem cntE_take (L : List Ev) (em kd : Int) (i : Nat) (hi : i < L.length) : cntE (L.take (i + 1)) em kd = cntE (L.take i) em kd + if sameK em kd L[i] then 1 else 0 := by
 unfold cntE
 rw [List.take_succ_eq_append_getElem hi, List.filter_append, zG]
 congr 1
 cases h : sameK em kd L[i] <;> simp [h]
theorem cntE_take_le (L : List Ev) (em kd : Int) (i : Nat) : cntE (L.take i) em kd ≤ i := Nat.le_trans (cntE_le _ _ _) (by rw [List.length_take]; omega)
def putTold (w : World) (M : List Ev) : Told := ⟨fun v => ∃ A c n, v = .slice A n c, fun v W => OwnL W w.heap.size 62 9 v Ev.cells M⟩
theorem putTold_st {w : World} {M : List Ev} : ∀ v W U, (putTold w M).R v W → Grown W U → (putTold w M).R v U := fun _ _ _ h k => h.below k
theorem put_told {w W : World} (hW : Grown w W) (A : Option Addr) (c n : Nat) (L : List Ev) (x : Ev) (hn : n = L.length) (hl : L.length ≤ 1000000) (hr : Rd w w.heap.size A (L.flatMap Ev.cells)) :
  Calls Tryz.prog 82 #[.slice A n c, x.val] W fun e w' => ∃ v, e = .returned v ∧ ((putTold w (putE L x)).S v ∧ (putTold w (putE L x)).R v w') ∧ Grown W w' := by
 subst hn
 refine (r11Put_any A c L x W hl ((hr.below hW (zL _)).more (Below.size hW))).mono ?_
 rintro e w' ⟨A', c', n', rfl, ho, hb⟩
 exact ⟨_, rfl, ⟨⟨A', c', n', rfl⟩, ho.more (Below.size hW)⟩, hb⟩
def AddPost (w : World) (A : Option Addr) (n c : Nat) (F : Int) (L : List Ev) (x : Ev) (e : Ending) (w' : World) : Prop :=
 if 64 ≤ L.length ∨ 15 < cntE L x.emitter x.kind then e = .returned (.tuple #[.slice A n c, .agg #[.int .i64 0, .int .i64 0, .int .i64 0, .int .i64 0], .int .i64 8]) ∧ Below w.heap.size w w'
 else ∃ A' c' n', e = .returned (.tuple #[.slice A' n' c', .agg #[.int .i64 F, .int .i64 x.emitter, .int .i64 x.kind, .int .i64 (cntE L x.emitter x.kind)], .int .i64 0]) ∧ OwnL w' w.heap.size 62 9 (.slice A' n' c') Ev.cells (putE L (numE F L x)) ∧ Below w.heap.size w w'
theorem r11Add_good (A : Option Addr) (c : Nat) (F : Int) (L : List Ev) (x : Ev) (w : World) (h : evOk (x.at_ F 0) = true) (hl : L.length ≤ 1000000) (hr : Rd w w.heap.size A (L.flatMap Ev.cells)) :
  Calls Tryz.prog 222 #[.slice A L.length c, .int .i64 F, x.val] w (AddPost w A L.length c F L x) := by
 have HRT : Hid (∀ W, Calls Tryz.prog 263 #[.agg #[.int .i64 F, .int .i64 x.emitter, .int .i64 x.kind, .int .i64 0, .int .i64 x.asset, .int .i64 x.gain, .int .i64 x.pan, .int .i64 x.prio, .int .i64 x.len]] W fun e w' => e = .returned (.bool true) ∧ Below W.heap.size W w') := zz (fun W => (r11Right_any (x.at_ F 0) W).mono fun e w' ⟨he, hb⟩ => ⟨by rw [he, h], hb⟩)
 obtain ⟨n, hn⟩ : ∃ n, L.length = n := ⟨_, rfl⟩
 rw [hn] at hl ⊢
 have HN := zz hn
 have HR := zz hr
 clear h hn hr
 unfold Ev.val
 go_enter Tryz.func222, Tryz.ntmps222
 go_upto_region 1 with fail
 refine named2 (F := fun W => Code.wp _ _ _ _ W) ?_
 intro w1 k0 k1 hb1 hz1
 have hl0 := k0.lt
 have q0 := k0.cell 0
 have q3 := k0.cell 3
 have g0 := k0.frozen 0
 have g3 := k0.frozen 3
 simp only [zA, zB, zC] at q0 q3
 go_upto_region 3 with fail
 obtain ⟨w2, hw2⟩ : ∃ w2, (w1.setCell ⟨w.heap.size, 0, none⟩ (.int .i64 F)).setCell ⟨w.heap.size, 3, none⟩ (.int .i64 0) = w2 := ⟨_, rfl⟩
 have j0 : Blk w2 w.heap.size 62 #[.int .i64 F, .int .i64 x.emitter, .int .i64 x.kind, .int .i64 0, .int .i64 x.asset, .int .i64 x.gain, .int .i64 x.pan, .int .i64 x.prio, .int .i64 x.len] := by rw [← hw2]; exact (k0.set 0 (.int .i64 F)).set 3 (.int .i64 0)
 have j1 : Blk w2 (w.heap.size + 1) 60 #[.int .i64 0, .int .i64 0, .int .i64 0, .int .i64 0] := by rw [← hw2]; exact (k1.farG (by omega) _ _).farG (by omega) _ _
 have jb : Below w.heap.size w w2 := by rw [← hw2]; exact bSetG (bSetG hb1 (zL _) _ _) (zL _) _ _
 rw [hw2]
 clear hw2 k0 k1 hb1 hz1 hl0 q0 q3 g0 g3
 obtain ⟨e0, e1, e2, e3, e4, e5, e6, e7, e8⟩ := Blk.ev j0
 have J0 := zz j0
 have J1 := zz j1
 have JB := zz jb
 have hl0 := j0.lt
 clear j0 j1 jb
 go_upto_region 4 with (first | (go_at_call 263; refine (HRT.out _).mono ?_; rintro e w3 ⟨rfl, hb3⟩; have G0 := zz (J0.out.on hb3); have G1 := zz (J1.out.on hb3); have GB := zz (bTrans JB.out hb3); clear hb3))
 go_wp2_with fail
 go_loopw [9] (fun v wr => ∃ i : Nat, i ≤ n ∧ v = .int .i64 i ∧ Hid (Blk wr w.heap.size 62 #[.int .i64 F, .int .i64 x.emitter, .int .i64 x.kind, .int .i64 (cntE (L.take i) x.emitter x.kind : Nat), .int .i64 x.asset, .int .i64 x.gain, .int .i64 x.pan, .int .i64 x.prio, .int .i64 x.len]) ∧ Hid (Blk wr (w.heap.size + 1) 60 #[.int .i64 0, .int .i64 0, .int .i64 0, .int .i64 0]) ∧ Hid (Below w.heap.size w wr)) (fun v _ => n - (intOf v).toNat)
 case atStart => exact ⟨0, Nat.zero_le _, rfl, by simpa [cntE] using G0, G1, GB⟩
 case round =>
  obtain ⟨i, hi, rfl, HE, HK, HB⟩ := hrel
  clear G0 G1 GB J0 J1 JB hl0 e0 e1 e2 e3 e4 e5 e6 e7 e8
  obtain ⟨e0, e1, e2, e3, e4, e5, e6, e7, e8⟩ := Blk.ev HE.out
  have hl0 := HE.out.lt
  have g3 := HE.out.frozen 3
  have hci := cntE_take_le L x.emitter x.kind i
  by_cases hlt : i < n
  ·have hiL : i < L.length := by rw [HN.out]; exact hlt
   obtain ⟨b, off, hA, hbl, x0, x1, x2, -, -, -, -, -, -⟩ := (HR.out.below HB.out (zL _)).ev hiL
   subst hA
   have hblw := Nat.lt_trans hbl hl0
   have HCT := zz (cntE_take L x.emitter x.kind i hiL)
   obtain ⟨y, hy⟩ : ∃ y, L[i] = y := ⟨_, rfl⟩
   rw [hy] at x0 x1 x2 HCT
   clear hy hiL
   obtain ⟨ct, hct⟩ : ∃ ct, cntE (L.take i) x.emitter x.kind = ct := ⟨_, rfl⟩
   rw [hct] at HE HCT e3 hci
   clear hct
   by_cases he : y.emitter = x.emitter
   ·have h1 : (y.emitter == x.emitter) = true := by simpa using he
    by_cases hk : y.kind = x.kind
    ·have h2 : (y.kind == x.kind) = true := by simpa using hk
     have HC2 : Hid (cntE (L.take (i + 1)) x.emitter x.kind = ct + 1) := zz (by rw [HCT.out, if_pos]; unfold sameK; rw [decide_eq_true he, decide_eq_true hk]; rfl)
     clear he hk HCT
     go_wp2_with fail
     go_quiet (fail)
     go_wp2_with fail
     go_roundw
     case rel => exact ⟨i + 1, by omega, by go_num, zz (by rw [HC2.out]; exact (HE.out.drewN _).set 3 _), zz ((HK.out.drewN _).farG (by omega) _ _), zz (bSetG (below_drewN HB.out _) (zL _) _ _)⟩
     case measure => simp [intOf]; omega
    ·have h2 : (y.kind == x.kind) = false := by simpa using hk
     have HC2 : Hid (cntE (L.take (i + 1)) x.emitter x.kind = ct) := zz (by rw [HCT.out, if_neg]; rfl; unfold sameK; rw [decide_eq_false hk]; simp)
     clear he hk HCT
     go_wp2_with fail
     go_quiet (fail)
     go_wp2_with fail
     go_roundw
     case rel => exact ⟨i + 1, by omega, by go_num, zz (by rw [HC2.out]; exact HE.out.drewN _), zz (HK.out.drewN _), zz (below_drewN HB.out _)⟩
     case measure => simp [intOf]; omega
   ·have h1 : (y.emitter == x.emitter) = false := by simpa using he
    have HC2 : Hid (cntE (L.take (i + 1)) x.emitter x.kind = ct) := zz (by rw [HCT.out, if_neg]; rfl; unfold sameK; rw [decide_eq_false he]; simp)
    clear he HCT
    go_wp2_with fail
    go_quiet (fail)
    go_wp2_with fail
    go_roundw
    case rel => exact ⟨i + 1, by omega, by go_num, zz (by rw [HC2.out]; exact HE.out.drewN _), zz (HK.out.drewN _), zz (below_drewN HB.out _)⟩
    case measure => simp [intOf]; omega
  ·obtain rfl : i = n := by omega
   have hL : L.take i = L := by rw [← HN.out, List.take_length]
   rw [hL] at HE e3 hci
   obtain ⟨ct, hct⟩ : ∃ ct, cntE L x.emitter x.kind = ct := ⟨_, rfl⟩
   rw [hct] at HE e3 hci
   have HCT := zz hct
   clear hL hct
   have hl1 := HK.out.lt
   obtain ⟨y0, y1, y2, y3⟩ := Blk.key HK.out
   have z0 := HK.out.frozen 0
   have z1 := HK.out.frozen 1
   have z2 := HK.out.frozen 2
   have z3 := HK.out.frozen 3
   by_cases hfull : 64 ≤ i ∨ 15 < ct
   ·have HP : Hid (∀ e w', e = .returned (.tuple #[.slice A i c, .agg #[.int .i64 0, .int .i64 0, .int .i64 0, .int .i64 0], .int .i64 8]) ∧ Below w.heap.size w w' → AddPost w A i c F L x e w') := zz (fun e w' h => by
     unfold AddPost
     rw [if_pos (by rw [HN.out, HCT.out]; exact hfull)]
     exact h)
    have HBX := zz (bSetG (bSetG (bSetG (bSetG HB.out (show w.heap.size ≤ w.heap.size + 1 by omega) 0 (.int .i64 0)) (show w.heap.size ≤ w.heap.size + 1 by omega) 1 (.int .i64 0)) (show w.heap.size ≤ w.heap.size + 1 by omega) 2 (.int .i64 0)) (show w.heap.size ≤ w.heap.size + 1 by omega) 3 (.int .i64 0))
    by_cases h64 : 64 ≤ i
    ·have g1 : decide ((64 : Int) ≤ (i : Int)) = true := decide_eq_true (by omega)
     clear hfull
     go_wp2_with fail
     refine bodyPost_ret (v := .tuple #[.slice A i c, .agg #[.int .i64 0, .int .i64 0, .int .i64 0, .int .i64 0], .int .i64 8]) (by simp [results, Tryz.results222, go_sem, y0, y1, y2, y3]) rfl (HP.out _ _ ⟨rfl, HBX.out⟩)
    ·have g1 : decide ((64 : Int) ≤ (i : Int)) = false := decide_eq_false (by omega)
     have g2 : decide ((15 : Int) < (ct : Int)) = true := decide_eq_true (by omega)
     clear hfull h64
     go_wp2_with fail
     refine bodyPost_ret (v := .tuple #[.slice A i c, .agg #[.int .i64 0, .int .i64 0, .int .i64 0, .int .i64 0], .int .i64 8]) (by simp [results, Tryz.results222, go_sem, y0, y1, y2, y3]) rfl (HP.out _ _ ⟨rfl, HBX.out⟩)
   ·have HP : Hid (∀ e w', (∃ A' c' n', e = .returned (.tuple #[.slice A' n' c', .agg #[.int .i64 F, .int .i64 x.emitter, .int .i64 x.kind, .int .i64 ct], .int .i64 0]) ∧ OwnL w' w.heap.size 62 9 (.slice A' n' c') Ev.cells (putE L (numE F L x)) ∧ Below w.heap.size w w') → AddPost w A i c F L x e w') := zz (fun e w' h => by
     unfold AddPost
     rw [if_neg (by rw [HN.out, HCT.out]; exact hfull), HCT.out]
     exact h)
    have HPT : Hid (∀ W, Grown wr W → Calls Tryz.prog 82 #[.slice A i c, .agg #[.int .i64 F, .int .i64 x.emitter, .int .i64 x.kind, .int .i64 ct, .int .i64 x.asset, .int .i64 x.gain, .int .i64 x.pan, .int .i64 x.prio, .int .i64 x.len]] W fun e w' => ∃ v, e = .returned v ∧ ((putTold wr (putE L (numE F L x))).S v ∧ (putTold wr (putE L (numE F L x))).R v w') ∧ Grown W w') := zz (fun W hW => by
     have := put_told hW A c i L (numE F L x) HN.out.symm (by rw [HN.out]; exact hl) ((HR.out.below HB.out (zL _)).more HB.out.size)
     unfold numE at this ⊢
     rw [HCT.out] at this ⊢
     exact this)
    have g1 : decide ((64 : Int) ≤ (i : Int)) = false := decide_eq_false (by omega)
    have g2 : decide ((15 : Int) < (ct : Int)) = false := decide_eq_false (by omega)
    clear hfull
    go_upto_region 12 with fail
    have hKp := Keeps.base wr
    refine wp_region_mixed [.pure, .held, .make, .pure, .held, .pure, .tail, .pure] (fun _ => putTold wr (putE L (numE F L x))) (by kernel_rfl) (by kernel_rfl) ?_
    repeat (first | (refine mix_pure rfl rfl rfl (fun K hK => ?_); go_big_quiet_op; refine hK _ ?_; clear hK K) | (refine mix_held rfl rfl rfl (by assumption) (fun K hK => ?_); go_big_quiet_op; refine hK _ ?_; clear hK K))
    refine mix_make rfl rfl (by assumption) putTold_st (fun W hW => ?_) ?_
    ·have HS2 := zz (HPT.out W hW)
     go_simp
     exact HS2.out
    rintro v ⟨A', c', n', rfl⟩ hKp2
    simp only [Act.put, zD, zE, zF]
    repeat (first | (refine mix_pure rfl rfl rfl (fun K hK => ?_); go_big_quiet_op; refine hK _ ?_; clear hK K) | (refine mix_held rfl rfl rfl (by assumption) (fun K hK => ?_); go_big_quiet_op; refine hK _ ?_; clear hK K))
    refine mix_store rfl rfl 60 (.tmp 7) (.tmp 69) rfl (w.heap.size + 1) 0 #[.int .i64 F, .int .i64 x.emitter, .int .i64 x.kind, .int .i64 ct] rfl rfl (fun W hW => ?_) (by kernel_rfl) (by simp [Value.oneCell']) ?_
    ·have hW : Grown wr W := hW.1
     exact Blk.there (HK.out.on hW) (by show 0 + 4 ≤ 4; decide)
    simp only [Act.put, zD, zE, zF]
    repeat (first | (refine mix_pure rfl rfl rfl (fun K hK => ?_); go_big_quiet_op; refine hK _ ?_; clear hK K) | (refine mix_held rfl rfl rfl (by assumption) (fun K hK => ?_); go_big_quiet_op; refine hK _ ?_; clear hK K))
    refine mix_nil ?_
    rintro W' ⟨W, ⟨hg, hR⟩, rfl⟩
    have hR : OwnL W wr.heap.size 62 9 (.slice A' n' c') Ev.cells (putE L (numE F L x)) := hR
    have hkW := HK.out.on hg
    have hk' := hkW.whole [.int .i64 F, .int .i64 x.emitter, .int .i64 x.kind, .int .i64 ct] rfl
    have ho' := OwnL.kept (row := some (w.heap.size + 1)) hR (oSetCells (World.grownBy.refl W _) 0 [.int .i64 F, .int .i64 x.emitter, .int .i64 x.kind, .int .i64 ct]) (.inr (Blk.apart hkW hR (by decide)))
    have hb' := bSetCells (HB.out.trans (Below.mono hg (Nat.le_of_lt hl0))) (show w.heap.size ≤ w.heap.size + 1 by omega) 0 [.int .i64 F, .int .i64 x.emitter, .int .i64 x.kind, .int .i64 ct]
    obtain ⟨y0', y1', y2', y3'⟩ := Blk.key hk'
    clear hKp hKp2 e0 e1 e2 e3 e4 e5 e6 e7 e8 y0 y1 y2 y3 z0 z1 z2 z3 g3 hR hkW hk' hg
    obtain ⟨W5, hW5⟩ : ∃ W5, W.setCells (w.heap.size + 1) 0 [.int .i64 F, .int .i64 x.emitter, .int .i64 x.kind, .int .i64 ct] = W5 := ⟨_, rfl⟩
    rw [hW5] at ho' hb' y0' y1' y2' y3'
    rw [hW5]
    clear hW5
    have HO' := zz ho'
    have HB' := zz hb'
    clear ho' hb'
    go_wp2_with fail
    refine bodyPost_ret (v := .tuple #[.slice A' n' c', .agg #[.int .i64 F, .int .i64 x.emitter, .int .i64 x.kind, .int .i64 ct], .int .i64 0]) (by simp [results, Tryz.results222, go_sem, y0', y1', y2', y3']) rfl (HP.out _ _ ⟨A', c', n', rfl, HO'.out.more (Nat.le_of_lt hl0), HB'.out⟩)
end
section
theorem r12Vec_any (x y : Int) (hx : -32768 ≤ x ∧ x ≤ 32767) (hy : -32768 ≤ y ∧ y ≤ 32767) (w : World) : Calls Tryz.prog 209 #[.int .i64 x, .int .i64 y] w fun e w' => e = .returned (.agg #[.int .i32 (x * 65536), .int .i32 (y * 65536)]) ∧ Below w.heap.size w w' := by
 obtain ⟨x1, x2⟩ := hx
 obtain ⟨y1, y2⟩ := hy
 have ex : IntKind.i32.wrap (x * 65536) = x * 65536 := by rw [IntKind.wrap_i32]; omega
 have ey : IntKind.i32.wrap (y * 65536) = y * 65536 := by rw [IntKind.wrap_i32]; omega
 go_enter Tryz.func209, Tryz.ntmps209
 go_wp2
 refine bodyPost_ret (v := .agg #[.int .i32 (x * 65536), .int .i32 (y * 65536)]) (by simp [results, Tryz.results209, go_sem]) rfl ⟨rfl, (by repeat (first | exact Below.refl _ _ | (with_reducible assumption) | apply bAlloc | apply below_drewN | apply Below.drew))⟩
theorem r12Box_60 (w : World) : Calls Tryz.prog 216 #[.int .i64 60] w fun e w' => e = .returned (.agg #[.int .i32 (-3932160), .int .i32 (-3932160), .int .i32 3932160, .int .i32 3932160]) ∧ Below w.heap.size w w' := by
 have HA := zz (fun W => r12Vec_any (-60) (-60) (by decide) (by decide) W)
 have HB := zz (fun W => r12Vec_any 60 60 (by decide) (by decide) W)
 go_enter Tryz.func216, Tryz.ntmps216
 go_wp2_with fail
 refine (HA.out _).mono ?_
 rintro e w1 ⟨rfl, k1⟩
 go_wp2_with fail
 refine (HB.out _).mono ?_
 rintro e w2 ⟨rfl, k2⟩
 have hr := ((Blk.new w 273 #[.int .i32 0, .int .i32 0, .int .i32 0, .int .i32 0]).on k1).on k2
 have hb : Below w.heap.size w w2 := bTrans (bTrans (bAlloc (Below.refl _ _) _) k1) k2
 have r := hr
 have ra := r.cell 0
 have rb := r.cell 1
 have rc := r.cell 2
 have rd := r.cell 3
 have re := r.frozen 0
 have rf := r.frozen 1
 have rg := r.frozen 2
 have rh := r.frozen 3
 have rl := r.lt
 simp only [zA, zB, zC] at ra rb rc rd
 clear k1 k2 r hr
 go_wp2
 refine bodyPost_ret (v := .agg #[.int .i32 (-3932160), .int .i32 (-3932160), .int .i32 3932160, .int .i32 3932160]) (by simp [results, Tryz.results216, go_sem, ra, rb, rc, rd]) rfl ⟨rfl, (by repeat (first | exact Below.refl _ _ | (with_reducible assumption) | apply bAlloc | apply below_drewN | apply Below.drew | (refine bSetG ?_ (by first | omega | (simp; omega)) _ _) | (refine bTrans ?_ (by with_reducible assumption))))⟩
theorem r12Box_64 (w : World) : Calls Tryz.prog 216 #[.int .i64 64] w fun e w' => e = .returned (.agg #[.int .i32 (-4194304), .int .i32 (-4194304), .int .i32 4194304, .int .i32 4194304]) ∧ Below w.heap.size w w' := by
 have HA := zz (fun W => r12Vec_any (-64) (-64) (by decide) (by decide) W)
 have HB := zz (fun W => r12Vec_any 64 64 (by decide) (by decide) W)
 go_enter Tryz.func216, Tryz.ntmps216
 go_wp2_with fail
 refine (HA.out _).mono ?_
 rintro e w1 ⟨rfl, k1⟩
 go_wp2_with fail
 refine (HB.out _).mono ?_
 rintro e w2 ⟨rfl, k2⟩
 have hr := ((Blk.new w 273 #[.int .i32 0, .int .i32 0, .int .i32 0, .int .i32 0]).on k1).on k2
 have hb : Below w.heap.size w w2 := bTrans (bTrans (bAlloc (Below.refl _ _) _) k1) k2
 have r := hr
 have ra := r.cell 0
 have rb := r.cell 1
 have rc := r.cell 2
 have rd := r.cell 3
 have re := r.frozen 0
 have rf := r.frozen 1
 have rg := r.frozen 2
 have rh := r.frozen 3
 have rl := r.lt
 simp only [zA, zB, zC] at ra rb rc rd
 clear k1 k2 r hr
 go_wp2
 refine bodyPost_ret (v := .agg #[.int .i32 (-4194304), .int .i32 (-4194304), .int .i32 4194304, .int .i32 4194304]) (by simp [results, Tryz.results216, go_sem, ra, rb, rc, rd]) rfl ⟨rfl, (by repeat (first | exact Below.refl _ _ | (with_reducible assumption) | apply bAlloc | apply below_drewN | apply Below.drew | (refine bSetG ?_ (by first | omega | (simp; omega)) _ _) | (refine bTrans ?_ (by with_reducible assumption))))⟩
end
section
theorem r12Fresh_0 (w : World) : Calls Tryz.prog 147 #[.int .i64 0] w fun e w' => e = .returned (.agg #[.int .i32 (-2097152), .int .i32 0, .int .i32 0, .int .i32 0, .int .i64 0, .int .i64 3, .int .i64 0, .int .i64 0, .int .i64 0, .int .i64 0]) ∧ Below w.heap.size w w' := by
 have HV : Hid (∀ W, Calls Tryz.prog 209 #[.int .i64 (-32), .int .i64 0] W fun e w' => e = .returned (.agg #[.int .i32 (-2097152), .int .i32 0]) ∧ Below W.heap.size W w') := zz (fun W => r12Vec_any (-32) 0 (by decide) (by decide) W)
 obtain ⟨CZ, hcz⟩ : ∃ CZ : Array Value, #[.int .i32 (-2097152), .int .i32 0, .int .i32 0, .int .i32 0, .int .i64 0, .int .i64 3, .int .i64 0, .int .i64 0, .int .i64 0, .int .i64 0] = CZ := ⟨_, rfl⟩
 have hbz : Tryz.prog.built 35 [(0, .agg #[.int .i32 (-2097152), .int .i32 0]), (3, .int .i64 3)] = some #[.int .i32 (-2097152), .int .i32 0, .int .i32 0, .int .i32 0, .int .i64 0, .int .i64 3, .int .i64 0, .int .i64 0, .int .i64 0, .int .i64 0] := by kernel_rfl
 have H1C : Hid (CZ.all (·.oneCell') = true) := zz (by rw [← hcz]; kernel_rfl)
 have HSI : Hid (CZ.size = 10) := zz (by rw [← hcz]; rfl)
 rw [hcz] at hbz ⊢
 have HBZ := zz hbz
 have HSZ : Hid ((Tryz.prog.info? 35).map (·.size) = some CZ.size) := zz (by rw [HSI.out]; kernel_rfl)
 have HCL : Hid (CZ.toList.length = 10) := zz (by rw [zK]; exact HSI.out)
 clear hbz hcz
 go_enter Tryz.func147, Tryz.ntmps147
 go_upto_region 1 with fail
 refine named1 (F := fun W => Code.wp _ _ _ _ W) ?_
 intro w1 k0 hb1 hz1
 have HK0 := zz k0
 have HB1 := zz hb1
 clear k0 hb1 hz1
 go_wp2_with fail
 refine (HV.out _).mono ?_
 rintro e w2 ⟨rfl, k1⟩
 have hk := HK0.out.on k1
 have hb := bTrans HB1.out k1
 have HTH : Hid (w2.there w.heap.size 0 CZ.size) := zz (by rw [HSI.out]; exact Blk.there hk (by show 0 + 10 ≤ 10; decide))
 have hrg := World.rangeAt_setCells_same w2 w.heap.size 0 CZ.toList (by rw [HCL.out, ← HSI.out]; exact HTH.out)
 have HRES := zz (run_loadVar_mid (P := Tryz.prog) _ _ _ 35 CZ.toList _ hrg Tryz.underlying35 rfl (by rw [HCL.out]; kernel_rfl))
 have HBW := zz (bSetCells hb (zL _) 0 CZ.toList)
 obtain ⟨wz, hwz⟩ : ∃ wz, w2.setCells w.heap.size 0 CZ.toList = wz := ⟨_, rfl⟩
 rw [hwz] at HRES HBW
 have HWZ := zz hwz
 clear k1 hk hb hrg hwz
 go_wp2_with (first
  | (refine wpList_built rfl 35 [(0, .tmp 5), (3, .const (.int .i64 3))] rfl CZ _ rfl HBZ.out ?_)
  | (refine wpList_store_mid rfl 35 (.tmp 2) (.tmp 6) rfl w.heap.size 0 CZ rfl rfl HTH.out HSZ.out H1C.out ?_; rw [HWZ.out]))
 have hres := HRES.out
 refine bodyPost_ret (results_c0 (a := 2) (t := 35) rfl rfl hres) rfl ⟨rfl, HBW.out⟩
theorem r12Fresh_1 (w : World) : Calls Tryz.prog 147 #[.int .i64 1] w fun e w' => e = .returned (.agg #[.int .i32 2097152, .int .i32 0, .int .i32 0, .int .i32 0, .int .i64 32768, .int .i64 3, .int .i64 0, .int .i64 0, .int .i64 0, .int .i64 0]) ∧ Below w.heap.size w w' := by
 have HV : Hid (∀ W, Calls Tryz.prog 209 #[.int .i64 (32), .int .i64 0] W fun e w' => e = .returned (.agg #[.int .i32 2097152, .int .i32 0]) ∧ Below W.heap.size W w') := zz (fun W => r12Vec_any (32) 0 (by decide) (by decide) W)
 obtain ⟨CZ, hcz⟩ : ∃ CZ : Array Value, #[.int .i32 2097152, .int .i32 0, .int .i32 0, .int .i32 0, .int .i64 32768, .int .i64 3, .int .i64 0, .int .i64 0, .int .i64 0, .int .i64 0] = CZ := ⟨_, rfl⟩
 have hbz : Tryz.prog.built 35 [(0, .agg #[.int .i32 2097152, .int .i32 0]), (2, .int .i64 32768), (3, .int .i64 3)] = some #[.int .i32 2097152, .int .i32 0, .int .i32 0, .int .i32 0, .int .i64 32768, .int .i64 3, .int .i64 0, .int .i64 0, .int .i64 0, .int .i64 0] := by kernel_rfl
 have H1C : Hid (CZ.all (·.oneCell') = true) := zz (by rw [← hcz]; kernel_rfl)
 have HSI : Hid (CZ.size = 10) := zz (by rw [← hcz]; rfl)
 rw [hcz] at hbz ⊢
 have HBZ := zz hbz
 have HSZ : Hid ((Tryz.prog.info? 35).map (·.size) = some CZ.size) := zz (by rw [HSI.out]; kernel_rfl)
 have HCL : Hid (CZ.toList.length = 10) := zz (by rw [zK]; exact HSI.out)
 clear hbz hcz
 go_enter Tryz.func147, Tryz.ntmps147
 go_upto_region 1 with fail
 refine named1 (F := fun W => Code.wp _ _ _ _ W) ?_
 intro w1 k0 hb1 hz1
 have HK0 := zz k0
 have HB1 := zz hb1
 clear k0 hb1 hz1
 go_wp2_with fail
 refine (HV.out _).mono ?_
 rintro e w2 ⟨rfl, k1⟩
 have hk := HK0.out.on k1
 have hb := bTrans HB1.out k1
 have HTH : Hid (w2.there w.heap.size 0 CZ.size) := zz (by rw [HSI.out]; exact Blk.there hk (by show 0 + 10 ≤ 10; decide))
 have hrg := World.rangeAt_setCells_same w2 w.heap.size 0 CZ.toList (by rw [HCL.out, ← HSI.out]; exact HTH.out)
 have HRES := zz (run_loadVar_mid (P := Tryz.prog) _ _ _ 35 CZ.toList _ hrg Tryz.underlying35 rfl (by rw [HCL.out]; kernel_rfl))
 have HBW := zz (bSetCells hb (zL _) 0 CZ.toList)
 obtain ⟨wz, hwz⟩ : ∃ wz, w2.setCells w.heap.size 0 CZ.toList = wz := ⟨_, rfl⟩
 rw [hwz] at HRES HBW
 have HWZ := zz hwz
 clear k1 hk hb hrg hwz
 go_wp2_with (first
  | (refine wpList_built rfl 35 [(0, .tmp 7), (2, .const (.int .i64 32768)), (3, .const (.int .i64 3))] rfl CZ _ rfl HBZ.out ?_)
  | (refine wpList_store_mid rfl 35 (.tmp 2) (.tmp 8) rfl w.heap.size 0 CZ rfl rfl HTH.out HSZ.out H1C.out ?_; rw [HWZ.out]))
 have hres := HRES.out
 refine bodyPost_ret (results_c0 (a := 2) (t := 35) rfl rfl hres) rfl ⟨rfl, HBW.out⟩
theorem r12Begin_any (seed : Int) (w : World) : Calls Tryz.prog 72 #[.int .u32 seed] w fun e w' => e = .returned (.agg (stCells (beginS seed)).toArray) ∧ Below w.heap.size w w' := by
 obtain ⟨CZ, hcz⟩ : ∃ CZ : Array Value, (stCells (beginS seed)).toArray = CZ := ⟨_, rfl⟩
 have hbz := built_begin seed
 rw [hcz] at hbz ⊢
 obtain ⟨CB, hcb⟩ : ∃ CB : Array Value, freshBoth.toArray = CB := ⟨_, rfl⟩
 have hbb := built_both
 rw [hcb] at hbz hbb
 have HBZ := zz hbz
 have HBB := zz hbb
 have hsz : CZ.size = 60 := by rw [← hcz, zM, stCells_length]
 have H1C : Hid (CZ.all (·.oneCell') = true) := zz (by rw [← hcz]; exact all_oneCell_toArray (int_one _))
 have HSZ : Hid ((Tryz.prog.info? 41).map (·.size) = some CZ.size) := zz (by rw [hsz]; kernel_rfl)
 have hcl : CZ.toList.length = 60 := by rw [← hsz]; simp
 have HSI := zz hsz
 have HCL := zz hcl
 clear hbz hbb hcz hcb hsz hcl
 go_enter Tryz.func72, Tryz.ntmps72
 go_upto_region 1 with fail
 refine named1 (F := fun W => Code.wp _ _ _ _ W) ?_
 intro w1 k0 hb1 hz1
 have hl1 := k0.lt
 have HK0 := zz k0
 have HB1 := zz hb1
 clear k0 hb1 hz1
 go_wp2_with fail
 refine (r12Fresh_0 _).mono ?_
 rintro e w2 ⟨rfl, k2⟩
 have HB2 := zz (bTrans HB1.out k2)
 have HK2 := zz (HK0.out.on k2)
 clear k2
 go_wp2_with fail
 refine (r12Fresh_1 _).mono ?_
 rintro e w3 ⟨rfl, k3⟩
 have HB3 := zz (bTrans HB2.out k3)
 have hk3 := HK2.out.on k3
 have HTH : Hid (w3.there w.heap.size 0 CZ.size) := zz (by rw [HSI.out]; exact Blk.there hk3 (by decide))
 have hrg := World.rangeAt_setCells_same w3 w.heap.size 0 CZ.toList (by rw [HCL.out, ← HSI.out]; exact HTH.out)
 have HRES := zz (run_loadVar_mid (P := Tryz.prog) _ _ _ 41 CZ.toList _ hrg Tryz.underlying41 rfl (by rw [HCL.out]; kernel_rfl))
 have HBW := zz (bSetCells HB3.out (zL _) 0 CZ.toList)
 obtain ⟨wz, hwz⟩ : ∃ wz, w3.setCells w.heap.size 0 CZ.toList = wz := ⟨_, rfl⟩
 rw [hwz] at HRES HBW
 have HWZ := zz hwz
 clear k3 hk3 hrg hwz
 go_wp2_with (first
  | (refine wpList_built rfl 36 [(0, .tmp 4), (1, .tmp 5)] rfl CB _ rfl HBB.out ?_)
  | (refine wpList_built rfl 41 [(1, .tmp 3), (3, .const (.int .i64 600)), (4, .tmp 6)] rfl CZ _ rfl HBZ.out ?_)
  | (refine wpList_store_mid rfl 41 (.tmp 2) (.tmp 7) rfl w.heap.size 0 CZ rfl rfl HTH.out HSZ.out H1C.out ?_; rw [HWZ.out]))
 have hres := HRES.out
 refine bodyPost_ret (results_c0 (a := 2) (t := 41) rfl rfl hres) rfl ⟨rfl, HBW.out⟩
end
section
theorem putK_lb {L : List Ev} (hs : SortedE L) (y : Ev) : putK L y = lbK L y.key := by
 have hle := lbK_le L y.key
 have hpl := putK_le L y
 have hiff : ∀ j (hj : j < L.length), decide (cmpK y.key L[j].key ≤ 0) = false ↔ j < lbK L y.key := fun j hj => by
  rw [lb_iff y.key L hs j hj, cmpK_neg, decide_eq_false_iff_not, ← cmpK_pos]
  omega
 rcases Nat.lt_trichotomy (putK L y) (lbK L y.key) with h | h | h
 ·have hj : putK L y < L.length := by omega
  have h1 := (hiff _ hj).2 h
  rw [putK_at L y hj] at h1
  cases h1
 ·exact h
 ·have hj : lbK L y.key < L.length := by omega
  have := (hiff _ hj).1 (putK_lt L y _ hj h)
  omega
theorem putE_addE {F : Int} {L : List Ev} (h : SortedE L) (x : Ev) : putE L (numE F L x) = addE F L x := by
 unfold putE addE
 rw [putK_lb h]
theorem bit_mod (n : Nat) (hn : n < 64) : ((n : Int) % 2 == 1) = bit n 1 ∧ ((n : Int) / 2 % 2 == 1) = bit n 2 ∧ ((n : Int) / 4 % 2 == 1) = bit n 4 ∧ ((n : Int) / 8 % 2 == 1) = bit n 8 ∧ ((n : Int) / 16 % 2 == 1) = bit n 16 ∧ ((n : Int) / 32 % 2 == 1) = bit n 32 := by
 have : ∀ n : Fin 64, ((n.1 : Int) % 2 == 1) = bit n.1 1 ∧ ((n.1 : Int) / 2 % 2 == 1) = bit n.1 2 ∧ ((n.1 : Int) / 4 % 2 == 1) = bit n.1 4 ∧ ((n.1 : Int) / 8 % 2 == 1) = bit n.1 8 ∧ ((n.1 : Int) / 16 % 2 == 1) = bit n.1 16 ∧ ((n.1 : Int) / 32 % 2 == 1) = bit n.1 32 := by decide +kernel
 exact this ⟨n, hn⟩
theorem r12Way_any (a l : Int) (ha : 0 ≤ a ∧ a ≤ 65535) (hl : F32 l) (w : World) : Calls Tryz.prog 213 #[.int .i64 a, .int .i64 l] w fun e w' => e = .returned (.agg #[.int .i32 (hdX a l), .int .i32 (hdY a l)]) ∧ Below w.heap.size w w' := by
 have h1 := zz (show fmul (sinZ (a + 16384)) l = hdX a l from rfl)
 have h2 := zz (show fmul (sinZ a) l = hdY a l from rfl)
 have HL := zz hl
 obtain ⟨a1, a2⟩ := ha
 have el : IntKind.i32.wrap l = l := by rw [IntKind.wrap_i32]; unfold F32 at hl; omega
 clear hl
 go_enter Tryz.func213, Tryz.ntmps213
 go_upto_region 1 with fail
 refine named1 (F := fun W => Code.wp _ _ _ _ W) ?_
 intro w1 k0 hb1 hz1
 have HK0 := zz k0
 have HB1 := zz hb1
 clear k0 hb1 hz1
 go_wp2_with fail
 refine (r02Sin_any _ _).mono ?_
 rintro e w1 ⟨rfl, rfl⟩
 go_wp2_with fail
 refine (r02Sin_any _ _).mono ?_
 rintro e w1 ⟨rfl, rfl⟩
 go_wp2_with fail
 refine (r10Scale_any (sinZ_f32 _) (sinZ_f32 _) HL.out _).mono ?_
 rw [h1.out, h2.out]
 rintro e w2 ⟨rfl, k1⟩
 have hk := HK0.out.on k1
 have hb := bTrans HB1.out k1
 have r := hk
 have ra := r.cell 0
 have rb := r.cell 1
 have rc := r.frozen 0
 have rd := r.frozen 1
 have rl := r.lt
 simp only [zA, zB, zC] at ra rb
 clear r
 clear k1 hk
 go_wp2
 refine bodyPost_ret (v := .agg #[.int .i32 (hdX a l), .int .i32 (hdY a l)]) (by simp [results, Tryz.results213, go_sem, ra, rb]) rfl ⟨rfl, (by repeat (first | exact Below.refl _ _ | (with_reducible assumption) | apply bAlloc | apply below_drewN | apply Below.drew | (refine bSetG ?_ (by first | omega | (simp; omega)) _ _) | (refine bTrans ?_ (by with_reducible assumption))))⟩
theorem pan_eq {em : Int} (h : 0 < em) (x : Int) : (if x * 32768 / 4194304 < -32768 then (-32768 : Int) else if 32768 < x * 32768 / 4194304 then 32768 else x * 32768 / 4194304) = panZ em x := by
 unfold panZ
 rw [if_pos h]
 omega
theorem told_add {A : Option Addr} {n c base : Nat} {F : Int} {L : List Ev} {em kd ga pr ln x : Int} {w : World} (hw : OwnL w base 62 9 (.slice A n c) Ev.cells L) (hp : PageOk F L)
  (hok : evOk ((evT em kd kd ga pr ln x).at_ F 0) = true) (hn : L.length < 64) (hr : cntE L em kd ≤ 15) (W : World) (hW : Below w.heap.size w W) :
  Calls Tryz.prog 222 #[.slice A n c, .int .i64 F, .agg #[.int .i64 0, .int .i64 em, .int .i64 kd, .int .i64 0, .int .i64 kd, .int .i64 ga, .int .i64 (panZ em x), .int .i64 pr, .int .i64 ln]] W fun e w' => ∃ A' c' n', e = .returned (.tuple #[.slice A' n' c', .agg #[.int .i64 F, .int .i64 em, .int .i64 kd, .int .i64 (cntE L em kd)], .int .i64 0]) ∧ OwnL w' W.heap.size 62 9 (.slice A' n' c') Ev.cells (addE F L (evT em kd kd ga pr ln x)) ∧ Below W.heap.size W w' := by
 obtain rfl := hw.len
 refine (r11Add_good A c F L (evT em kd kd ga pr ln x) W hok (by omega) ((hw.below hW).rd)).mono ?_
 intro e w' h
 unfold AddPost at h
 rw [if_neg (by show ¬(64 ≤ L.length ∨ 15 < cntE L em kd); omega), putE_addE hp.sorted] at h
 exact h
theorem kd_cell {w : World} {g : Nat} (h : Blk w g 3 #[.int .i64 0, .int .i64 1, .int .i64 2, .int .i64 3, .int .i64 4, .int .i64 5, .int .i64 6, .int .i64 7, .int .i64 8, .int .i64 9]) {kd : Int} (h0 : 0 ≤ kd) (h1 : kd < 10) : w.cell? ⟨g, kd.toNat, none⟩ = some (.int .i64 kd) := by
 obtain ⟨k, rfl⟩ := Int.eq_ofNat_of_zero_le h0
 have hk : k < 10 := by omega
 rw [h.cell]
 have h10 : k = 0 ∨ k = 1 ∨ k = 2 ∨ k = 3 ∨ k = 4 ∨ k = 5 ∨ k = 6 ∨ k = 7 ∨ k = 8 ∨ k = 9 := by omega
 rcases h10 with rfl | rfl | rfl | rfl | rfl | rfl | rfl | rfl | rfl | rfl <;> rfl
theorem r12Told_any {A : Option Addr} {n c base : Nat} {F : Int} {L : List Ev} (em kd ga pr ln x : Int) {w : World} (hw : OwnL w base 62 9 (.slice A n c) Ev.cells L) (hbw : base ≤ w.heap.size) (hp : PageOk F L)
  (hok : evOk ((evT em kd kd ga pr ln x).at_ F 0) = true) (hn : L.length < 64) (hr : cntE L em kd ≤ 15) (hk : 0 ≤ kd ∧ kd < 10) (hx : F32 x) :
  Calls Tryz.prog 150 #[.slice A n c, .int .i64 F, .int .i64 em, .int .i64 kd, .int .i64 ga, .int .i64 pr, .int .i64 ln, .int .i32 x] w fun e w' => ∃ A' c' n', e = .returned (.slice A' n' c') ∧ OwnL w' base 62 9 (.slice A' n' c') Ev.cells (addE F L (evT em kd kd ga pr ln x)) ∧ Below w.heap.size w w' := by
 have HADD := zz (told_add hw hp hok hn hr)
 obtain ⟨x1, x2⟩ := hx
 obtain ⟨k0, k1⟩ := hk
 clear hw hp hok hn hr
 by_cases he : 0 < em
 ·have HFL : Hid (∀ W, Calls Tryz.prog 221 #[.int .i64 (x * 32768), .int .i64 4194304] W fun e w' => e = .returned (.int .i64 (x * 32768 / 4194304)) ∧ W = w') := zz (fun W => floor_any (x * 32768) 4194304 (by decide) (by decide) (by omega) W)
  have HBT : Hid (∀ W, Calls Tryz.prog 220 #[.int .i64 (x * 32768 / 4194304), .int .i64 (-32768), .int .i64 32768] W fun e w' => e = .returned (.int .i64 (panZ em x)) ∧ W = w') := zz (fun W => by rw [← pan_eq he x]; exact between_any _ _ _ W)
  go_enter Tryz.func150, Tryz.ntmps150
  go_upto_region 5 with (first
   | (go_at_call 221; refine (HFL.out _).mono ?_; rintro e w1 ⟨rfl, rfl⟩)
   | (go_at_call 220; refine (HBT.out _).mono ?_; rintro e w1 ⟨rfl, rfl⟩))
  refine named1 (F := fun W => Code.wp _ _ _ _ W) ?_
  intro w2 q0 hb2 hz2
  have qk := kd_cell q0 k0 k1
  have hl2 := q0.lt
  have HBB := zz hb2
  have HAD := zz (HADD.out w2 hb2)
  clear q0 hb2 hz2 HADD
  go_wp2_with (first | (go_at_call 222; refine (HAD.out).mono ?_; rintro e w3 ⟨A', c', n', rfl, ho3, hb3⟩; have HO3 := zz ho3; have HB3 := zz (bTrans HBB.out hb3); clear ho3 hb3))
  go_ret
  have hb3 := HB3.out
  exact ⟨A', c', n', rfl, (HO3.out.more (Nat.le_trans hbw HBB.out.size)).below (by repeat (first | exact Below.refl _ _ | (with_reducible assumption) | apply bAlloc | apply below_drewN | apply Below.drew)), (by repeat (first | exact Below.refl _ _ | (with_reducible assumption) | apply bAlloc | apply below_drewN | apply Below.drew | (refine bSetG ?_ (by first | omega | (simp; omega)) _ _) | (refine bTrans ?_ (by with_reducible assumption))))⟩
 ·have he' : decide (0 < em) = false := decide_eq_false he
  have hz : panZ em x = 0 := by unfold panZ; rw [if_neg he]
  rw [hz] at HADD
  clear hz he
  go_enter Tryz.func150, Tryz.ntmps150
  go_upto_region 5 with fail
  refine named1 (F := fun W => Code.wp _ _ _ _ W) ?_
  intro w2 q0 hb2 hz2
  have qk := kd_cell q0 k0 k1
  have hl2 := q0.lt
  have HBB := zz hb2
  have HAD := zz (HADD.out w2 hb2)
  clear q0 hb2 hz2 HADD
  go_wp2_with (first | (go_at_call 222; refine (HAD.out).mono ?_; rintro e w3 ⟨A', c', n', rfl, ho3, hb3⟩; have HO3 := zz ho3; have HB3 := zz (bTrans HBB.out hb3); clear ho3 hb3))
  go_ret
  have hb3 := HB3.out
  exact ⟨A', c', n', rfl, (HO3.out.more (Nat.le_trans hbw HBB.out.size)).below (by repeat (first | exact Below.refl _ _ | (with_reducible assumption) | apply bAlloc | apply below_drewN | apply Below.drew)), (by repeat (first | exact Below.refl _ _ | (with_reducible assumption) | apply bAlloc | apply below_drewN | apply Below.drew | (refine bSetG ?_ (by first | omega | (simp; omega)) _ _) | (refine bTrans ?_ (by with_reducible assumption))))⟩
end
section
structure PF (w0 w : World) (base : Nat) (S p : Nat → Int) (A : Option Addr) (n c : Nat) (F : Int) (L : List Ev) : Prop where
 st : Blk w w0.heap.size 41 (stCells S).toArray
 re : ∃ Z : Array Value, Z.size = 60 ∧ Blk w (w0.heap.size + 1) 41 Z
 pl : Blk w (w0.heap.size + 1 + 1) 35 (plCells p).toArray
 ow : OwnL w base 62 9 (.slice A n c) Ev.cells L
 ok : PageOk F L
 bw : base ≤ w0.heap.size
 bl : Below w0.heap.size w0 w
section
variable {w0 w w' : World} {base : Nat} {S p : Nat → Int} {A : Option Addr} {n c : Nat} {F : Int} {L : List Ev}
theorem PF.on (h : PF w0 w base S p A n c F L) (hb : Below w.heap.size w w') : PF w0 w' base S p A n c F L := by
 obtain ⟨Z, hZ, hr⟩ := h.re
 exact ⟨h.st.on hb, ⟨Z, hZ, hr.on hb⟩, h.pl.on hb, h.ow.below hb, h.ok, h.bw, bTrans h.bl hb⟩
theorem PF.drew (h : PF w0 w base S p A n c F L) : PF w0 w.drew base S p A n c F L := h.on (Below.refl _ _).drew
theorem PF.lt (h : PF w0 w base S p A n c F L) : w0.heap.size + 1 + 1 < w.heap.size := h.pl.lt
theorem PF.cellp (h : PF w0 w base S p A n c F L) (j : Nat) (hj : j < 10) {k : IntKind} (hk : kdP j = k) : w.cell? ⟨w0.heap.size + 1 + 1, j, none⟩ = some (.int k (p j)) := by
 rw [h.pl.cell]
 simp [plCells, rowOf, hj, hk]
theorem PF.zero (h : PF w0 w base S p A n c F L) (j : Nat) : w.frozen? ⟨w0.heap.size + 1 + 1, j, none⟩ = false := h.pl.frozen j
theorem PF.setp (h : PF w0 w base S p A n c F L) (j : Nat) (hj : j < 10) {k : IntKind} (hk : kdP j = k) (v : Int) : PF w0 (w.setCell ⟨w0.heap.size + 1 + 1, j, none⟩ (.int k v)) base S (upd p j v) A n c F L := by
 obtain ⟨Z, hZ, hr⟩ := h.re
 refine ⟨h.st.farG (by omega) _ _, ⟨Z, hZ, hr.farG (by omega) _ _⟩, ?_, h.ow.farG (Blk.apart h.pl h.ow (by decide)) _ _, h.ok, h.bw, bSetG h.bl (by omega) _ _⟩
 have := h.pl.set j (.int k v)
 rwa [pl_set p j hj hk v] at this
theorem PF.told (h : PF w0 w base S p A n c F L) {A' : Option Addr} {n' c' : Nat} {L' : List Ev} (hb : Below w.heap.size w w') (ho : OwnL w' base 62 9 (.slice A' n' c') Ev.cells L') (hp : PageOk F L') : PF w0 w' base S p A' n' c' F L' := by
 have k := h.on hb
 exact ⟨k.st, k.re, k.pl, ho, hp, h.bw, k.bl⟩
theorem PF.apart (h : PF w0 w base S p A n c F L) {g : Nat} (hg : w.heap.size ≤ g) : w0.heap.size + 1 + 1 < g ∧ (Value.slice A n c).ownBlock ≠ some g := by
 have hlt := h.lt
 refine ⟨by omega, fun e => ?_⟩
 have := h.ow.block_lt g e
 omega
theorem PF.farC (h : PF w0 w base S p A n c F L) {g : Nat} (hg : w0.heap.size + 1 + 1 < g ∧ (Value.slice A n c).ownBlock ≠ some g) (vs : List Value) : PF w0 (w.setCells g 0 vs) base S p A n c F L := by
 have hbw := h.bw
 obtain ⟨Z, hZ, hr⟩ := h.re
 obtain ⟨hg2, hgo⟩ := hg
 exact ⟨h.st.farC (by omega) 0 vs, ⟨Z, hZ, hr.farC (by omega) 0 vs⟩, h.pl.farC (by omega) 0 vs, OwnL.kept (row := some g) h.ow (oSetCells (World.grownBy.refl w _) 0 vs) (.inr hgo), h.ok, h.bw, bSetCells h.bl (by omega) 0 vs⟩
theorem PF.tell (em kd ga pr ln x : Int) (h : PF w0 w base S p A n c F L) (hF : 0 ≤ F ∧ F ≤ 1073741824) (hL : L.length ≤ 15) (h1 : 0 ≤ em ∧ em ≤ 2) (h2 : 1 ≤ kd ∧ kd ≤ 9) (h4 : 0 ≤ ga ∧ ga ≤ 32768) (h5 : 0 ≤ pr ∧ pr ≤ 15) (h6 : 0 ≤ ln ∧ ln ≤ 600) (hx : F32 x) :
  Calls Tryz.prog 150 #[.slice A n c, .int .i64 F, .int .i64 em, .int .i64 kd, .int .i64 ga, .int .i64 pr, .int .i64 ln, .int .i32 x] w fun e w' => ∃ A' c' n', e = .returned (.slice A' n' c') ∧ PF w0 w' base S p A' n' c' F (addE F L (evT em kd kd ga pr ln x)) := by
 have hlt := h.lt
 have hbw := h.bw
 refine (r12Told_any em kd ga pr ln x h.ow (by omega) h.ok (evT_ok F _ _ _ _ _ _ _ hF h1 h2 (by omega) h4 h5 h6 0 (by decide)) (by omega) (Nat.le_trans (cntE_le _ _ _) hL) (by omega) hx).mono ?_
 rintro e w' ⟨A', c', n', rfl, ho, hb⟩
 refine ⟨A', c', n', rfl, h.told hb ho (h.ok.add _ ?_)⟩
 have hc := cntE_le L em kd
 refine evOk_ord (evT_ok F _ _ _ _ _ _ _ hF h1 h2 (by omega) h4 h5 h6 0 (by decide)) ⟨by omega, ?_⟩
 show ((cntE L em kd : Nat) : Int) ≤ 15
 omega
end
end
section
theorem upd_of_put (S : Nat → Int) (i j : Nat) (v : Int) (hj : j < 10) : upd S (4 + i * 10 + j) v = putP S i (upd (getP S i) j v) := by
 have := upd_putP S i (getP S i) j v hj
 rwa [putP_get] at this
section
variable {base : Nat} {S : Nat → Int} {A : Option Addr} {n c i b : Nat} {F : Int} {L : List Ev} {w : World}
theorem r12Player_down (hi : i < 2) (ho : OwnL w base 62 9 (.slice A n c) Ev.cells L) (hbw : base ≤ w.heap.size) (hp : PageOk F L) (hS : S 0 = F) (h8 : 1 < getP S i 8) (hd : getP S i 8 ≤ 30) :
  Calls Tryz.prog 148 #[.agg (stCells S).toArray, .slice A n c, .int .i64 i, .int .i64 b] w fun e w' => e = .returned (.tuple #[.agg (stCells (putP S i (upd (getP S i) 8 (getP S i 8 - 1)))).toArray, .slice A n c]) ∧ OwnL w' base 62 9 (.slice A n c) Ev.cells L ∧ Below w.heap.size w w' := by
 have HOW := zz ho
 have HPO := zz hp
 have hi2 : (i : Int) < 2 := by omega
 obtain ⟨T, hT⟩ : ∃ T, putP S i (upd (getP S i) 8 (getP S i 8 - 1)) = T := ⟨_, rfl⟩
 rw [hT]
 have HT := zz hT
 clear ho hp hT
 go_enter Tryz.func148, Tryz.ntmps148
 go_upto_region 1 with fail
 refine named2 (F := fun W => Code.wp _ _ _ _ W) ?_
 intro w1 k0 k1 hb1 hz1
 have HK0 := zz k0
 have HK1 := zz k1
 have HB1 := zz hb1
 have HZ1 := zz hz1
 have HT1 : Hid ((w1.alloc (.cells (plCells (fun _ => 0)).toArray 35)).there w1.heap.size 0 (plCells (getP S i)).toArray.size) := zz (there_new _ _ _ rfl)
 clear k0 k1 hb1 hz1
 go_upto_region 2 with (first | (refine wpList_load_mid rfl 35 (.tmp 21) rfl w.heap.size (4 + i * 10) rfl (plCells (getP S i)) _ (pl_range HK0.out hi) Tryz.underlying35 rfl (by kernel_rfl) ?_) | (refine wpList_store_mid rfl 35 (.tmp 10) (.tmp 22) rfl w1.heap.size 0 (plCells (getP S i)).toArray rfl rfl HT1.out (by kernel_rfl) (all_oneCell_toArray (pl_one _)) ?_))
 refine named_put (F := fun W => Code.wp _ _ _ _ W) (by rw [zK, zM, plCells_length]; rfl) ?_
 intro w2 hk2 hb2 hz2
 rw [HZ1.out] at hk2 ⊢
 rw [zJ] at hk2
 have HPF : Hid (PF w w2 base S (getP S i) A n c F L) := zz ⟨HK0.out.on hb2, ⟨_, by rfl, HK1.out.on hb2⟩, hk2, HOW.out.below (bTrans HB1.out hb2), HPO.out, hbw, bTrans HB1.out hb2⟩
 clear hk2 hb2 hz2 HK0 HK1 HB1 HZ1 HT1
 have e0 : w2.cell? ⟨w.heap.size, 0, none⟩ = some (.int .i64 (S 0)) := st_cell HPF.out.st 0 (by decide)
 have e8 : w2.cell? ⟨w.heap.size, 4 + i * 10 + 8, none⟩ = some (.int .i64 (S (4 + i * 10 + 8))) := by
  have := st_cell HPF.out.st (4 + i * 10 + 8) (by omega)
  rwa [kdS_p i 8 hi (by decide)] at this
 have z8 : w2.frozen? ⟨w.heap.size, 4 + i * 10 + 8, none⟩ = false := HPF.out.st.frozen _
 have c8 := HPF.out.cellp 8 (by decide) (k := .i64) rfl
 have hlt := HPF.out.lt
 have HS3 : Hid (Blk (w2.setCell ⟨w.heap.size, 4 + i * 10 + 8, none⟩ (.int .i64 (getP S i 8 - 1))) w.heap.size 41 (stCells T).toArray) := zz (by
  rw [← HT.out, ← upd_of_put S i 8 _ (by decide)]
  exact st_set HPF.out.st _ (by omega) (kdS_p i 8 hi (by decide)) _)
 have HZ3 : Hid (∃ Z : Array Value, Z.size = 60 ∧ Blk (w2.setCell ⟨w.heap.size, 4 + i * 10 + 8, none⟩ (.int .i64 (getP S i 8 - 1))) (w.heap.size + 1) 41 Z) := zz (by
  obtain ⟨Z, hZ, hr⟩ := HPF.out.re
  exact ⟨Z, hZ, hr.farG (by omega) _ _⟩)
 have HO3 := zz (HPF.out.ow.farG (Blk.apart HPF.out.st HPF.out.ow (by decide)) (4 + i * 10 + 8) (.int .i64 (getP S i 8 - 1)))
 have HB3 := zz (bSetG HPF.out.bl (zL _) (4 + i * 10 + 8) (.int .i64 (getP S i 8 - 1)))
 go_upto_region 5 with fail
 obtain ⟨w3, hw3⟩ : ∃ w3, w2.setCell ⟨w.heap.size, 4 + i * 10 + 8, none⟩ (.int .i64 (getP S i 8 - 1)) = w3 := ⟨_, rfl⟩
 rw [hw3] at HS3 HZ3 HO3 HB3 ⊢
 clear hw3 HPF e0 e8 z8 c8
 obtain ⟨Z, hZ, hBZ⟩ := (HZ3).out
 have HTH : Hid (w3.there (w.heap.size + 1) 0 (stCells T).toArray.size) := zz (by rw [show (stCells T).toArray.size = 60 from by rw [zM, stCells_length]]; exact Blk.there hBZ (by rw [hZ]; decide))
 have hrg := World.rangeAt_setCells_same w3 (w.heap.size + 1) 0 (stCells T) (by rw [stCells_length]; have := HTH.out; rwa [show (stCells T).toArray.size = 60 from by rw [zM, stCells_length]] at this)
 have HRES := zz (run_loadVar_mid (P := Tryz.prog) _ _ _ 41 (stCells T) _ hrg Tryz.underlying41 rfl (by kernel_rfl))
 have HBX := zz (bSetCells (HB3).out (show w.heap.size ≤ w.heap.size + 1 by omega) 0 (stCells T))
 have HOX := zz (OwnL.kept (row := some (w.heap.size + 1)) (HO3).out (oSetCells (World.grownBy.refl w3 _) 0 (stCells T)) (.inr (Blk.apart hBZ (HO3).out (by decide))))
 obtain ⟨wx, hwx⟩ : ∃ wx, w3.setCells (w.heap.size + 1) 0 (stCells T) = wx := ⟨_, rfl⟩
 rw [hwx] at HRES HBX HOX
 have HWX : Hid (w3.setCells (w.heap.size + 1) 0 (stCells T).toArray.toList = wx) := zz hwx
 have hls := (HS3).out.lt
 have hlz := hBZ.lt
 clear hZ hBZ hrg hwx
 go_wp2_with (first
  | (refine wpList_load_mid rfl 41 (.tmp 4) rfl w.heap.size 0 rfl (stCells T) _ (Blk.range (HS3).out) Tryz.underlying41 rfl (by kernel_rfl) ?_)
  | (refine wpList_store_mid rfl 41 (.tmp 8) (.tmp 35) rfl (w.heap.size + 1) 0 (stCells T).toArray rfl rfl HTH.out (by kernel_rfl) (all_oneCell_toArray (int_one T)) ?_; rw [HWX.out]))
 refine bodyPost_ret (results_c1 (a := 8) (t := 41) (x := 9) rfl rfl HRES.out) rfl ⟨rfl, HOX.out, HBX.out⟩
theorem corn_cell {w : World} {g : Nat} (h : Blk w g 33 #[.int .i32 (-2621440), .int .i32 (-2621440), .int .i32 2621440, .int .i32 (-2621440), .int .i32 (-2621440), .int .i32 2621440, .int .i32 2621440, .int .i32 2621440]) {m : Nat} (hm : m < 4) : w.cell? ⟨g, m * 2, none⟩ = some (.int .i32 (cornX m)) ∧ w.cell? ⟨g, m * 2 + 1, none⟩ = some (.int .i32 (cornY m)) := by
 have h4 : m = 0 ∨ m = 1 ∨ m = 2 ∨ m = 3 := by omega
 rcases h4 with rfl | rfl | rfl | rfl
 ·exact ⟨h.cell 0, h.cell 1⟩
 ·exact ⟨h.cell 2, h.cell 3⟩
 ·exact ⟨h.cell 4, h.cell 5⟩
 ·exact ⟨h.cell 6, h.cell 7⟩
theorem back_cells (p : Nat → Int) (k : Int) : plCells (pBack p k) = [.int .i32 (cornX k), .int .i32 (cornY k), .int .i32 0, .int .i32 0, .int .i64 0, .int .i64 3, .int .i64 0, .int .i64 0, .int .i64 0, .int .i64 (p 9)] := by rfl
def evTold (base : Nat) (M : List Ev) : Told := ⟨fun v => ∃ A c n, v = .slice A n c, fun v W => OwnL W base 62 9 v Ev.cells M⟩
theorem evTold_st {base : Nat} {M : List Ev} : ∀ v W U, (evTold base M).R v W → Grown W U → (evTold base M).R v U := fun _ _ _ h k => h.below k
theorem ev_told {w W : World} (hW : Grown w W) (em kd ga pr ln x : Int) (ho : OwnL w base 62 9 (.slice A n c) Ev.cells L) (hbw : base ≤ w.heap.size) (hp : PageOk F L) (hF : 0 ≤ F ∧ F ≤ 1073741824) (hL : L.length ≤ 15) (h1 : 0 ≤ em ∧ em ≤ 2) (h2 : 1 ≤ kd ∧ kd ≤ 9) (h4 : 0 ≤ ga ∧ ga ≤ 32768) (h5 : 0 ≤ pr ∧ pr ≤ 15) (h6 : 0 ≤ ln ∧ ln ≤ 600) (hx : F32 x) :
  Calls Tryz.prog 150 #[.slice A n c, .int .i64 F, .int .i64 em, .int .i64 kd, .int .i64 ga, .int .i64 pr, .int .i64 ln, .int .i32 x] W fun e w' => ∃ v, e = .returned v ∧ ((evTold base (addE F L (evT em kd kd ga pr ln x))).S v ∧ (evTold base (addE F L (evT em kd kd ga pr ln x))).R v w') ∧ Grown W w' := by
 refine (r12Told_any em kd ga pr ln x (ho.below hW) (Nat.le_trans hbw (Below.size hW)) hp (evT_ok F _ _ _ _ _ _ _ hF h1 h2 (by omega) h4 h5 h6 0 (by decide)) (by omega) (Nat.le_trans (cntE_le _ _ _) hL) (by omega) hx).mono ?_
 rintro e w' ⟨A', c', n', rfl, ho', hb'⟩
 exact ⟨_, rfl, ⟨⟨A', c', n', rfl⟩, ho'⟩, hb'⟩
theorem em_bd {i : Nat} (hi : i < 2) : 0 ≤ (i : Int) + 1 ∧ (i : Int) + 1 ≤ 2 := by omega
theorem r12Player_back (hi : i < 2) (ho : OwnL w base 62 9 (.slice A n c) Ev.cells L) (hbw : base ≤ w.heap.size) (hp : PageOk F L) (hS : S 0 = F) (hF : 0 ≤ F ∧ F ≤ 1073741824) (hL : L.length ≤ 14) (h8 : getP S i 8 = 1) (hu : U32 (S 1)) {m : Nat} (hm : m < 4) (hk : throwZ (S 1) 4 = m) :
  Calls Tryz.prog 148 #[.agg (stCells S).toArray, .slice A n c, .int .i64 i, .int .i64 b] w fun e w' => ∃ A' n' c', e = .returned (.tuple #[.agg (stCells (putP (upd S 1 (nextZ (S 1))) i (pBack (getP S i) m))).toArray, .slice A' n' c']) ∧ OwnL w' base 62 9 (.slice A' n' c') Ev.cells (addE F L (evT ((i : Int) + 1) 6 6 16384 9 0 (cornX m))) ∧ Below w.heap.size w w' := by
 have HOW := zz ho
 have HPO := zz hp
 have hi2 : (i : Int) < 2 := by omega
 have hm4 : (m : Int) < 4 := by omega
 obtain ⟨T, hT⟩ : ∃ T, putP (upd S 1 (nextZ (S 1))) i (pBack (getP S i) m) = T := ⟨_, rfl⟩
 rw [hT]
 have HT := zz hT
 have HS := zz hS
 have HH8 := zz h8
 obtain ⟨d, hd⟩ : ∃ d, nextZ (S 1) = d := ⟨_, rfl⟩
 have HD := zz hd
 have HTH : Hid (∀ W, Calls Tryz.prog 210 #[.int .u32 (S 1), .int .i64 4] W fun e w' => e = .returned (.tuple #[.int .u32 d, .int .i64 m]) ∧ W = w') := zz (fun W => by rw [← hd, ← hk]; exact r09Throw_any _ _ _ hu (by decide) (by decide))
 have HVA : Hid (∀ W, Calls Tryz.prog 209 #[.int .i64 (-40), .int .i64 (-40)] W fun e w' => e = .returned (.agg #[.int .i32 (-2621440), .int .i32 (-2621440)]) ∧ Below W.heap.size W w') := zz (fun W => r12Vec_any (-40) (-40) (by decide) (by decide) W)
 have HVB : Hid (∀ W, Calls Tryz.prog 209 #[.int .i64 40, .int .i64 (-40)] W fun e w' => e = .returned (.agg #[.int .i32 2621440, .int .i32 (-2621440)]) ∧ Below W.heap.size W w') := zz (fun W => r12Vec_any 40 (-40) (by decide) (by decide) W)
 have HVC : Hid (∀ W, Calls Tryz.prog 209 #[.int .i64 (-40), .int .i64 40] W fun e w' => e = .returned (.agg #[.int .i32 (-2621440), .int .i32 2621440]) ∧ Below W.heap.size W w') := zz (fun W => r12Vec_any (-40) 40 (by decide) (by decide) W)
 have HVD : Hid (∀ W, Calls Tryz.prog 209 #[.int .i64 40, .int .i64 40] W fun e w' => e = .returned (.agg #[.int .i32 2621440, .int .i32 2621440]) ∧ Below W.heap.size W w') := zz (fun W => r12Vec_any 40 40 (by decide) (by decide) W)
 clear ho hp hT hS h8 hu hk hd
 go_enter Tryz.func148, Tryz.ntmps148
 go_upto_region 1 with fail
 refine named2 (F := fun W => Code.wp _ _ _ _ W) ?_
 intro w1 k0 k1 hb1 hz1
 have HK0 := zz k0
 have HK1 := zz k1
 have HB1 := zz hb1
 have HZ1 := zz hz1
 have HT1 : Hid ((w1.alloc (.cells (plCells (fun _ => 0)).toArray 35)).there w1.heap.size 0 (plCells (getP S i)).toArray.size) := zz (there_new _ _ _ rfl)
 clear k0 k1 hb1 hz1
 go_upto_region 2 with (first | (refine wpList_load_mid rfl 35 (.tmp 21) rfl w.heap.size (4 + i * 10) rfl (plCells (getP S i)) _ (pl_range HK0.out hi) Tryz.underlying35 rfl (by kernel_rfl) ?_) | (refine wpList_store_mid rfl 35 (.tmp 10) (.tmp 22) rfl w1.heap.size 0 (plCells (getP S i)).toArray rfl rfl HT1.out (by kernel_rfl) (all_oneCell_toArray (pl_one _)) ?_))
 refine named_put (F := fun W => Code.wp _ _ _ _ W) (by rw [zK, zM, plCells_length]; rfl) ?_
 intro w2 hk2 hb2 hz2
 rw [HZ1.out] at hk2 ⊢
 rw [zJ] at hk2
 have HPF : Hid (PF w w2 base S (getP S i) A n c F L) := zz ⟨HK0.out.on hb2, ⟨_, by rfl, HK1.out.on hb2⟩, hk2, HOW.out.below (bTrans HB1.out hb2), HPO.out, hbw, bTrans HB1.out hb2⟩
 clear hk2 hb2 hz2 HK0 HK1 HB1 HZ1 HT1
 have e0 : w2.cell? ⟨w.heap.size, 0, none⟩ = some (.int .i64 (S 0)) := st_cell HPF.out.st 0 (by decide)
 have e1 : w2.cell? ⟨w.heap.size, 1, none⟩ = some (.int .u32 (S 1)) := st_cell HPF.out.st 1 (by decide)
 have z1 : w2.frozen? ⟨w.heap.size, 1, none⟩ = false := HPF.out.st.frozen _
 have c8 : w2.cell? ⟨w.heap.size + 1 + 1, 8, none⟩ = some (.int .i64 1) := by rw [← HH8.out]; exact HPF.out.cellp 8 (by decide) (k := .i64) rfl
 have hlt := HPF.out.lt
 have HS3 : Hid (Blk (w2.setCell ⟨w.heap.size, 1, none⟩ (.int .u32 d)) w.heap.size 41 (stCells (upd S 1 d)).toArray) := zz (st_set HPF.out.st 1 (by decide) rfl _)
 have HZ3 : Hid (∃ Z : Array Value, Z.size = 60 ∧ Blk (w2.setCell ⟨w.heap.size, 1, none⟩ (.int .u32 d)) (w.heap.size + 1) 41 Z) := zz (by
  obtain ⟨Z, hZ, hr⟩ := HPF.out.re
  exact ⟨Z, hZ, hr.farG (by omega) _ _⟩)
 have HP3 := zz (HPF.out.pl.farG (show w.heap.size + 1 + 1 ≠ w.heap.size by omega) 1 (.int .u32 d))
 have HO3 := zz (HPF.out.ow.farG (Blk.apart HPF.out.st HPF.out.ow (by decide)) 1 (.int .u32 d))
 have HB3 := zz (bSetG HPF.out.bl (zL _) 1 (.int .u32 d))
 go_upto_region 9 with (first | (go_at_call 210; refine (HTH.out _).mono ?_; rintro e w1 ⟨rfl, rfl⟩))
 obtain ⟨w3, hw3⟩ : ∃ w3, w2.setCell ⟨w.heap.size, 1, none⟩ (.int .u32 d) = w3 := ⟨_, rfl⟩
 rw [hw3] at HS3 HZ3 HO3 HB3 HP3 ⊢
 clear hw3 HPF e0 e1 z1 c8 HTH
 go_upto_region 10 with (first
  | (go_at_call 209; refine (HVA.out _).mono ?_; rintro e w4 ⟨rfl, hb4⟩; clear HVA; have HB4 := zz hb4; clear hb4)
  | (go_at_call 209; refine (HVB.out _).mono ?_; rintro e w5 ⟨rfl, hb5⟩; clear HVB; have HB5 := zz hb5; clear hb5)
  | (go_at_call 209; refine (HVC.out _).mono ?_; rintro e w6 ⟨rfl, hb6⟩; clear HVC; have HB6 := zz hb6; clear hb6)
  | (go_at_call 209; refine (HVD.out _).mono ?_; rintro e w7 ⟨rfl, hb7⟩; clear HVD; have HB7 := zz hb7; clear hb7))
 refine named1 (F := fun W => Code.wp _ _ _ _ W) ?_
 intro w8 k8 hb8 hz8
 have hb38 : Below w3.heap.size w3 w8 := bTrans (bTrans (bTrans (bTrans HB4.out HB5.out) HB6.out) HB7.out) hb8
 have HS8 := zz (HS3.out.on hb38)
 have HZ8 : Hid (∃ Z : Array Value, Z.size = 60 ∧ Blk w8 (w.heap.size + 1) 41 Z) := zz (by
  obtain ⟨Z, hZ, hr⟩ := HZ3.out
  exact ⟨Z, hZ, hr.on hb38⟩)
 have HP8 := zz (HP3.out.on hb38)
 have HO8 := zz (HO3.out.below hb38)
 have HB8 := zz (bTrans HB3.out hb38)
 obtain ⟨v0, v1⟩ := corn_cell k8 hm
 have hl8 := k8.lt
 have HK8 := zz k8
 have hlv : w.heap.size < w7.heap.size := by have h1 := HS3.out.lt; have h4 := HB4.out.size; have h5 := HB5.out.size; have h6 := HB6.out.size; have h7 := HB7.out.size; omega
 have c9 : w8.cell? ⟨w.heap.size + 1 + 1, 9, none⟩ = some (.int .i64 (getP S i 9)) := by
  rw [HP8.out.cell]
  simp [plCells, rowOf, kdP]
 have hls := HS8.out.lt
 have hlp := HP8.out.lt
 have HPC := zz (back_cells (getP S i) m)
 obtain ⟨s9, hs9⟩ : ∃ s9, getP S i 9 = s9 := ⟨_, rfl⟩
 rw [hs9] at c9 HPC
 clear hs9 k8 hb8 hz8 hb38 HS3 HZ3 HP3 HO3 HB3 HB4 HB5 HB6 HB7
 have hKp := Keeps.base w8
 refine wp_region_mixed [.pure, .pure, .pure, .pure, .held, .pure, .held, .pure, .pure, .pure, .tail] (fun _ => evTold base []) (by kernel_rfl) (by kernel_rfl) ?_
 repeat (first | (refine mix_pure rfl rfl rfl (fun K hK => ?_); go_big_quiet_op; refine hK _ ?_; clear hK K) | (refine mix_held rfl rfl rfl (by assumption) (fun K hK => ?_); go_big_quiet_op; refine hK _ ?_; clear hK K))
 refine mix_store rfl rfl 35 (.tmp 62) (.tmp 60) rfl w.heap.size (4 + i * 10) #[.int .i32 (cornX m), .int .i32 (cornY m), .int .i32 0, .int .i32 0, .int .i64 0, .int .i64 3, .int .i64 0, .int .i64 0, .int .i64 0, .int .i64 s9] rfl rfl (fun W hW => Blk.there (HS8.out.on hW) (by show 4 + i * 10 + 10 ≤ _; rw [zM, stCells_length]; omega)) (by kernel_rfl) (by simp [Value.oneCell']) ?_
 simp only [Act.put, zD, zE, zF]
 repeat (first | (refine mix_pure rfl rfl rfl (fun K hK => ?_); go_big_quiet_op; refine hK _ ?_; clear hK K) | (refine mix_held rfl rfl rfl (by assumption) (fun K hK => ?_); go_big_quiet_op; refine hK _ ?_; clear hK K))
 refine mix_nil ?_
 rintro W' ⟨W, hg, rfl⟩
 have hlw : w8.heap.size ≤ W.heap.size := Below.size hg
 have hs9 := pl_put (HS8.out.on hg) hi (pBack (getP S i) m)
 rw [HPC.out] at hs9
 rw [show putP (upd S 1 d) i (pBack (getP S i) m) = T by rw [← HT.out, HD.out]] at hs9
 have HZ9 : Hid (∃ Z : Array Value, Z.size = 60 ∧ Blk (W.setCells w.heap.size (4 + i * 10) [.int .i32 (cornX m), .int .i32 (cornY m), .int .i32 0, .int .i32 0, .int .i64 0, .int .i64 3, .int .i64 0, .int .i64 0, .int .i64 0, .int .i64 s9]) (w.heap.size + 1) 41 Z) := zz (by
  obtain ⟨Z, hZ, hr⟩ := HZ8.out
  exact ⟨Z, hZ, (hr.on hg).farC (by omega) _ _⟩)
 have HO9 := zz (OwnL.kept (row := some w.heap.size) (HO8.out.below hg) (oSetCells (World.grownBy.refl W _) (4 + i * 10) [.int .i32 (cornX m), .int .i32 (cornY m), .int .i32 0, .int .i32 0, .int .i64 0, .int .i64 3, .int .i64 0, .int .i64 0, .int .i64 0, .int .i64 s9]) (.inr (Blk.apart (HS8.out.on hg) (HO8.out.below hg) (by decide))))
 have HB9 := zz (bSetCells (bTrans HB8.out hg) (zL w.heap.size) (4 + i * 10) [.int .i32 (cornX m), .int .i32 (cornY m), .int .i32 0, .int .i32 0, .int .i64 0, .int .i64 3, .int .i64 0, .int .i64 0, .int .i64 0, .int .i64 s9])
 have hv9 := (HK8.out.on hg).farC (show w7.heap.size ≠ w.heap.size by omega) (4 + i * 10) [.int .i32 (cornX m), .int .i32 (cornY m), .int .i32 0, .int .i32 0, .int .i64 0, .int .i64 3, .int .i64 0, .int .i64 0, .int .i64 0, .int .i64 s9]
 obtain ⟨w9, hw9⟩ : ∃ w9, W.setCells w.heap.size (4 + i * 10) [.int .i32 (cornX m), .int .i32 (cornY m), .int .i32 0, .int .i32 0, .int .i64 0, .int .i64 3, .int .i64 0, .int .i64 0, .int .i64 0, .int .i64 s9] = w9 := ⟨_, rfl⟩
 have hz9 : w8.heap.size ≤ w9.heap.size := by rw [← hw9, setCells_size]; exact hlw
 rw [hw9] at hs9 HZ9 HO9 HB9 hv9 ⊢
 have HS9 := zz hs9
 obtain ⟨v0', -⟩ := corn_cell hv9 hm
 have hl9 := hv9.lt
 clear hw9 hg hs9 hv9 v0 v1 c9 hl8 hls hlp hKp HS8 HZ8 HP8 HO8 HB8 HPC HK8
 have hls := HS9.out.lt
 have HTL : Hid (∀ W, Grown w9 W → Calls Tryz.prog 150 #[.slice A n c, .int .i64 (S 0), .int .i64 ((i : Int) + 1), .int .i64 6, .int .i64 16384, .int .i64 9, .int .i64 0, .int .i32 (cornX m)] W fun e w' => ∃ v, e = .returned v ∧ ((evTold base (addE F L (evT ((i : Int) + 1) 6 6 16384 9 0 (cornX m)))).S v ∧ (evTold base (addE F L (evT ((i : Int) + 1) 6 6 16384 9 0 (cornX m)))).R v w') ∧ Grown W w') := zz (fun W hW => by
  rw [HS.out]
  exact ev_told hW ((i : Int) + 1) 6 16384 9 0 (cornX m) HO9.out (by omega) HPO.out hF (by omega) (em_bd hi) (by decide) (by decide) (by decide) (by decide) (corn_f32 _).1)
 go_upto_region 11 with fail
 have hKp := Keeps.base w9
 refine wp_region_mixedT [.held, .pure, .pure, .pure, .pure, .pure, .pure, .pure, .pure, .held, .make, .tail, .pure] (fun _ => evTold base (addE F L (evT ((i : Int) + 1) 6 6 16384 9 0 (cornX m)))) (by kernel_rfl) (by kernel_rfl) ?_
 refine mix_load rfl rfl (by assumption) 41 (.tmp 4) rfl w.heap.size 0 rfl (stCells T) _ hls (Blk.range HS9.out) Tryz.underlying41 rfl (by kernel_rfl) ?_
 simp only [Act.put, zD, zE, zF]
 repeat (first | (refine mix_pure rfl rfl rfl (fun K hK => ?_); go_big_quiet_op; refine hK _ ?_; clear hK K) | (refine mix_held rfl rfl rfl (by assumption) (fun K hK => ?_); go_big_quiet_op; refine hK _ ?_; clear hK K))
 refine mix_make rfl rfl (by assumption) evTold_st (fun W hW => ?_) ?_
 ·have HS2 := zz (HTL.out W hW)
  go_simp
  exact HS2.out
 rintro v ⟨A', c', n', rfl⟩ hKp2
 simp only [Act.put, zD, zE, zF]
 refine mix_store rfl rfl 41 (.tmp 8) (.tmp 63) rfl (w.heap.size + 1) 0 (stCells T).toArray rfl rfl (fun W hW => ?_) (by kernel_rfl) (all_oneCell_toArray (int_one T)) ?_
 ·have hW : Grown w9 W := hW.1
  obtain ⟨Z, hZ, hr⟩ := HZ9.out
  exact Blk.there (hr.on hW) (by rw [zM, stCells_length, hZ]; decide)
 simp only [Act.put, zD, zE, zF]
 repeat (first | (refine mix_pure rfl rfl rfl (fun K hK => ?_); go_big_quiet_op; refine hK _ ?_; clear hK K) | (refine mix_held rfl rfl rfl (by assumption) (fun K hK => ?_); go_big_quiet_op; refine hK _ ?_; clear hK K))
 refine mix_nil ?_
 rintro W' ⟨W, ⟨hg, hR⟩, rfl⟩
 have hR : OwnL W base 62 9 (.slice A' n' c') Ev.cells (addE F L (evT ((i : Int) + 1) 6 6 16384 9 0 (cornX m))) := hR
 obtain ⟨Z, hZ, hr⟩ := HZ9.out
 have hr' := hr.on hg
 have hrg := World.rangeAt_setCells_same W (w.heap.size + 1) 0 (stCells T) (by rw [stCells_length]; exact Blk.there hr' (by rw [hZ]; decide))
 have HRES := zz (run_loadVar_mid (P := Tryz.prog) _ _ _ 41 (stCells T) _ hrg Tryz.underlying41 rfl (by kernel_rfl))
 have HBX := zz (bSetCells (bTrans HB9.out hg) (show w.heap.size ≤ w.heap.size + 1 by omega) 0 (stCells T))
 have HOX := zz (OwnL.kept (row := some (w.heap.size + 1)) hR (oSetCells (World.grownBy.refl W _) 0 (stCells T)) (.inr (Blk.apart hr' hR (by decide))))
 obtain ⟨wx, hwx⟩ : ∃ wx, W.setCells (w.heap.size + 1) 0 (stCells T) = wx := ⟨_, rfl⟩
 rw [hwx] at HRES HBX HOX
 first | rw [hwx] | rw [show (stCells T).toArray.toList = stCells T from rfl, hwx]
 clear hR hr hr' hrg hwx hg hKp hKp2 v0'
 go_wp2_with fail
 refine bodyPost_ret (results_c1 (a := 8) (t := 41) (x := 9) rfl rfl HRES.out) rfl ⟨A', n', c', rfl, HOX.out, HBX.out⟩
end
end
section
section
variable {S : Nat → Int} {F : Int} {L : List Ev} {k : Nat}
theorem flyS_zero (h : S (24 + k * 6 + 4) = 0) : flyS k F (S, L) = (S, L) := by
 unfold flyS; rw [if_pos h]
theorem flyS_gone (h4 : getS S k 4 ≠ 0) (h : getS S k 5 - 1 = 0 ∨ arenaB (shotNext (getS S k) 0) (shotNext (getS S k) 1) = false) : flyS k F (S, L) = (putS S k zeroS, L) := by
 unfold flyS
 rw [if_neg (show ¬ (S, L).1 (24 + k * 6 + 4) = 0 from h4)]
 by_cases h5 : getS S k 5 - 1 = 0
 ·rw [show flyT k F (S, L) = (false, (putS S k (upd (getS S k) 5 (getS S k 5 - 1)), L)) from if_pos h5]
  show (putS (putS S k _) k zeroS, L) = _
  rw [putS_putS]
 ·have ha : arenaB (shotNext (getS S k) 0) (shotNext (getS S k) 1) = false := h.resolve_left h5
  rw [show flyT k F (S, L) = (false, (putS S k (shotNext (getS S k)), L)) from (if_neg h5).trans (if_pos ha)]
  show (putS (putS S k _) k zeroS, L) = _
  rw [putS_putS]
theorem flyS_on (h4 : getS S k 4 ≠ 0) (h5 : ¬ getS S k 5 - 1 = 0) (ha : arenaB (shotNext (getS S k) 0) (shotNext (getS S k) 1) = true) (hh : hitB S (shotNext (getS S k)) (otherOf (getS S k 4)) = false) : flyS k F (S, L) = (putS S k (shotNext (getS S k)), L) := by
 unfold flyS
 rw [if_neg (show ¬ (S, L).1 (24 + k * 6 + 4) = 0 from h4), show flyT k F (S, L) = (true, (putS S k (shotNext (getS S k)), L)) from (if_neg h5).trans ((if_neg (by rw [ha]; decide)).trans (if_neg (by rw [hh]; decide)))]
 rfl
theorem flyS_hit (h4 : getS S k 4 ≠ 0) (h5 : ¬ getS S k 5 - 1 = 0) (ha : arenaB (shotNext (getS S k) 0) (shotNext (getS S k) 1) = true) (hh : hitB S (shotNext (getS S k)) (otherOf (getS S k 4)) = true) {o : Nat} (ho : otherOf (getS S k 4) = o) (ho2 : o < 2) (hp : 0 < getP S o 5 - 1) :
  flyS k F (S, L) = (putP (putS S k zeroS) o (upd (getP S o) 5 (getP S o 5 - 1)), addE F L (evT ((o : Int) + 1) 2 2 32768 8 0 (getP S o 0))) := by
 rw [ho] at hh
 have e : ∀ j, j < 10 → getP (putS S k (shotNext (getS S k))) o j = getP S o j := fun j hj => getP_putS S o k ho2 _ j hj
 unfold flyS
 rw [if_neg (show ¬ (S, L).1 (24 + k * 6 + 4) = 0 from h4), show flyT k F (S, L) = (false, hitS o F (putS S k (shotNext (getS S k)), L)) from (if_neg h5).trans ((if_neg (by rw [ha]; decide)).trans ((if_pos (by rw [ho]; exact hh)).trans (by rw [ho])))]
 show (putS (hitS o F (putS S k (shotNext (getS S k)), L)).1 k zeroS, (hitS o F (putS S k (shotNext (getS S k)), L)).2) = _
 unfold hitS
 dsimp only
 rw [e 5 (by decide), e 0 (by decide), if_pos hp]
 dsimp only
 rw [putS_putP _ _ _ ho2, putS_putS]
 rw [putP_congr _ _ _ (upd (getP S o) 5 (getP S o 5 - 1)) (fun j hj => by unfold upd; rw [e j hj])]
theorem flyS_kill (h4 : getS S k 4 ≠ 0) (h5 : ¬ getS S k 5 - 1 = 0) (ha : arenaB (shotNext (getS S k) 0) (shotNext (getS S k) 1) = true) (hh : hitB S (shotNext (getS S k)) (otherOf (getS S k 4)) = true) {o : Nat} (ho : otherOf (getS S k 4) = o) (ho2 : o < 2) (hp : ¬ 0 < getP S o 5 - 1) :
  flyS k F (S, L) = (putP (upd (putS S k zeroS) (4 + (1 - o) * 10 + 9) (S (4 + (1 - o) * 10 + 9) + 1)) o (upd (upd (getP S o) 5 (getP S o 5 - 1)) 8 30), addE F (addE F L (evT ((o : Int) + 1) 2 2 32768 8 0 (getP S o 0))) (evT ((o : Int) + 1) 5 5 32768 10 0 (getP S o 0))) := by
 rw [ho] at hh
 have e : ∀ j, j < 10 → getP (putS S k (shotNext (getS S k))) o j = getP S o j := fun j hj => getP_putS S o k ho2 _ j hj
 unfold flyS
 rw [if_neg (show ¬ (S, L).1 (24 + k * 6 + 4) = 0 from h4), show flyT k F (S, L) = (false, hitS o F (putS S k (shotNext (getS S k)), L)) from (if_neg h5).trans ((if_neg (by rw [ha]; decide)).trans ((if_pos (by rw [ho]; exact hh)).trans (by rw [ho])))]
 show (putS (hitS o F (putS S k (shotNext (getS S k)), L)).1 k zeroS, (hitS o F (putS S k (shotNext (getS S k)), L)).2) = _
 unfold hitS
 dsimp only
 rw [e 5 (by decide), e 0 (by decide), if_neg hp]
 dsimp only
 rw [putS_other S k _ (4 + (1 - o) * 10 + 9) (by omega)]
 rw [putP_congr _ _ _ (upd (upd (getP S o) 5 (getP S o 5 - 1)) 8 30) (fun j hj => by unfold upd; rw [e j hj])]
 congr 1
 funext m
 generalize upd (upd (getP S o) 5 (getP S o 5 - 1)) 8 30 = q
 generalize S (4 + (1 - o) * 10 + 9) + 1 = v
 unfold putS putP upd
 dsimp only
 by_cases h1 : 24 + k * 6 ≤ m ∧ m < 24 + k * 6 + 6
 ·rw [if_pos h1, if_neg (by omega), if_neg (by omega), if_pos h1]
 ·rw [if_neg h1]
  by_cases h2 : 4 + o * 10 ≤ m ∧ m < 4 + o * 10 + 10
  ·rw [if_pos h2, if_neg (by omega), if_pos h2]
  ·rw [if_neg h2, if_neg h2]
   by_cases h3 : m = 4 + (1 - o) * 10 + 9
   ·rw [if_pos h3, if_pos h3]
   ·rw [if_neg h3, if_neg h3, if_neg h1, if_neg h1]
end
def shCells (x : Nat → Int) : List Value := [.int .i32 (x 0), .int .i32 (x 1), .int .i32 (x 2), .int .i32 (x 3), .int .i64 (x 4), .int .i64 (x 5)]
def kdX (j : Nat) : IntKind := if j < 4 then .i32 else .i64
theorem sh_six (p : Nat → Int) (i : Nat) : shCells (shotOf p i) = [.int .i32 (padd (p 0) (hdX (p 4) 262144)), .int .i32 (padd (p 1) (hdY (p 4) 262144)), .int .i32 (hdX (p 4) 196608), .int .i32 (hdY (p 4) 196608), .int .i64 ((i : Int) + 1), .int .i64 40] := by
 simp [shCells, shotOf]
theorem sh_at (x : Nat → Int) (j : Nat) (hj : j < 6) : (shCells x)[j]? = some (.int (kdX j) (x j)) := by
 obtain rfl | rfl | rfl | rfl | rfl | rfl : j = 0 ∨ j = 1 ∨ j = 2 ∨ j = 3 ∨ j = 4 ∨ j = 5 := by omega
 all_goals rfl
theorem sh_put {w : World} {g : Nat} {S : Nat → Int} (h : Blk w g 41 (stCells S).toArray) {k : Nat} (hk : k < 6) (x : Nat → Int) : Blk (w.setCells g (24 + k * 6) (shCells x)) g 41 (stCells (putS S k x)).toArray := by
 refine st_setRange h (24 + k * 6) (shCells x) _ (by show 24 + k * 6 + 6 ≤ 60; omega) (fun j hj => ?_) (fun j hj => ?_)
 ·have hj : j < 6 := hj
  rw [putS_at S k x j hj, kdS_s k j hj]
  obtain rfl | rfl | rfl | rfl | rfl | rfl : j = 0 ∨ j = 1 ∨ j = 2 ∨ j = 3 ∨ j = 4 ∨ j = 5 := by omega
  all_goals rfl
 ·exact putS_other S k x j hj
theorem sh_range {w : World} {g : Nat} {S : Nat → Int} (h : Blk w g 41 (stCells S).toArray) {k : Nat} (hk : k < 6) : w.rangeAt g (24 + k * 6) (shCells (getS S k)) := fun j v hv => by
 have hj : j < 6 := (List.getElem?_eq_some_iff.1 hv).1
 have := st_cell h (24 + k * 6 + j) (by omega)
 rw [this, ← hv, kdS_s k j hj]
 obtain rfl | rfl | rfl | rfl | rfl | rfl : j = 0 ∨ j = 1 ∨ j = 2 ∨ j = 3 ∨ j = 4 ∨ j = 5 := by omega
 all_goals rfl
theorem sh_one (x : Nat → Int) : ∀ v ∈ shCells x, v.oneCell' = true := fun v hv => by
 simp only [shCells, List.mem_cons, List.not_mem_nil, or_false] at hv
 rcases hv with rfl | rfl | rfl | rfl | rfl | rfl <;> rfl
theorem sh_set (x : Nat → Int) (j : Nat) (hj : j < 6) {k : IntKind} (hk : kdX j = k) (v : Int) : ((shCells x).toArray).setIfInBounds j (.int k v) = (shCells (upd x j v)).toArray := by
 subst hk
 obtain rfl | rfl | rfl | rfl | rfl | rfl : j = 0 ∨ j = 1 ∨ j = 2 ∨ j = 3 ∨ j = 4 ∨ j = 5 := by omega
 all_goals simp [shCells, upd, kdX]
structure SF (w0 w : World) (base : Nat) (S x : Nat → Int) (A : Option Addr) (n c : Nat) (F : Int) (L : List Ev) : Prop where
 st : Blk w w0.heap.size 41 (stCells S).toArray
 re : ∃ Z : Array Value, Z.size = 60 ∧ Blk w (w0.heap.size + 1) 41 Z
 sh : Blk w (w0.heap.size + 1 + 1) 38 (shCells x).toArray
 ow : OwnL w base 62 9 (.slice A n c) Ev.cells L
 ok : PageOk F L
 bw : base ≤ w0.heap.size
 bl : Below w0.heap.size w0 w
section
variable {w0 w w' : World} {base : Nat} {S x : Nat → Int} {A : Option Addr} {n c : Nat} {F : Int} {L : List Ev}
theorem SF.on (h : SF w0 w base S x A n c F L) (hb : Below w.heap.size w w') : SF w0 w' base S x A n c F L := by
 obtain ⟨Z, hZ, hr⟩ := h.re
 exact ⟨h.st.on hb, ⟨Z, hZ, hr.on hb⟩, h.sh.on hb, h.ow.below hb, h.ok, h.bw, bTrans h.bl hb⟩
theorem SF.lt (h : SF w0 w base S x A n c F L) : w0.heap.size + 1 + 1 < w.heap.size := h.sh.lt
theorem SF.cellx (h : SF w0 w base S x A n c F L) (j : Nat) (hj : j < 6) {k : IntKind} (hk : kdX j = k) : w.cell? ⟨w0.heap.size + 1 + 1, j, none⟩ = some (.int k (x j)) := by
 rw [h.sh.cell, ← hk]
 simpa using sh_at x j hj
theorem SF.zero (h : SF w0 w base S x A n c F L) (j : Nat) : w.frozen? ⟨w0.heap.size + 1 + 1, j, none⟩ = false := h.sh.frozen j
theorem SF.setx (h : SF w0 w base S x A n c F L) (j : Nat) (hj : j < 6) {k : IntKind} (hk : kdX j = k) (v : Int) : SF w0 (w.setCell ⟨w0.heap.size + 1 + 1, j, none⟩ (.int k v)) base S (upd x j v) A n c F L := by
 obtain ⟨Z, hZ, hr⟩ := h.re
 refine ⟨h.st.farG (by omega) _ _, ⟨Z, hZ, hr.farG (by omega) _ _⟩, ?_, h.ow.farG (Blk.apart h.sh h.ow (by decide)) _ _, h.ok, h.bw, bSetG h.bl (by omega) _ _⟩
 have := h.sh.set j (.int k v)
 rwa [sh_set x j hj hk v] at this
theorem SF.put (h : SF w0 w base S x A n c F L) {k : Nat} (hk : k < 6) (y : Nat → Int) : SF w0 (w.setCells w0.heap.size (24 + k * 6) (shCells y)) base (putS S k y) x A n c F L := by
 obtain ⟨Z, hZ, hr⟩ := h.re
 exact ⟨sh_put h.st hk y, ⟨Z, hZ, hr.farC (by omega) _ _⟩, h.sh.farC (by omega) _ _, OwnL.kept (row := some w0.heap.size) h.ow (oSetCells (World.grownBy.refl w _) _ _) (.inr (Blk.apart h.st h.ow (by decide))), h.ok, h.bw, bSetCells h.bl (zL _) _ _⟩
theorem SF.putp (h : SF w0 w base S x A n c F L) {i : Nat} (hi : i < 2) (p : Nat → Int) : SF w0 (w.setCells w0.heap.size (4 + i * 10) (plCells p)) base (putP S i p) x A n c F L := by
 obtain ⟨Z, hZ, hr⟩ := h.re
 exact ⟨pl_put h.st hi p, ⟨Z, hZ, hr.farC (by omega) _ _⟩, h.sh.farC (by omega) _ _, OwnL.kept (row := some w0.heap.size) h.ow (oSetCells (World.grownBy.refl w _) _ _) (.inr (Blk.apart h.st h.ow (by decide))), h.ok, h.bw, bSetCells h.bl (zL _) _ _⟩
theorem SF.setS (h : SF w0 w base S x A n c F L) (j : Nat) (hj : j < 60) {k : IntKind} (hk : kdS j = k) (v : Int) : SF w0 (w.setCell ⟨w0.heap.size, j, none⟩ (.int k v)) base (upd S j v) x A n c F L := by
 obtain ⟨Z, hZ, hr⟩ := h.re
 exact ⟨st_set h.st j hj hk v, ⟨Z, hZ, hr.farG (by omega) _ _⟩, h.sh.farG (by omega) _ _, h.ow.farG (Blk.apart h.st h.ow (by decide)) _ _, h.ok, h.bw, bSetG h.bl (zL _) _ _⟩
theorem SF.told (h : SF w0 w base S x A n c F L) {A' : Option Addr} {n' c' : Nat} {L' : List Ev} (hb : Below w.heap.size w w') (ho : OwnL w' base 62 9 (.slice A' n' c') Ev.cells L') (hp : PageOk F L') : SF w0 w' base S x A' n' c' F L' := by
 have k := h.on hb
 exact ⟨k.st, k.re, k.sh, ho, hp, h.bw, k.bl⟩
structure SP (w0 w : World) (base gp : Nat) (S x p : Nat → Int) (A : Option Addr) (n c : Nat) (F : Int) (L : List Ev) : Prop where
 sf : SF w0 w base S x A n c F L
 pl : Blk w gp 35 (plCells p).toArray
 far : w0.heap.size + 1 + 1 < gp
variable {gp : Nat} {p : Nat → Int}
theorem SP.on (h : SP w0 w base gp S x p A n c F L) (hb : Below w.heap.size w w') : SP w0 w' base gp S x p A n c F L := ⟨h.sf.on hb, h.pl.on hb, h.far⟩
theorem SP.cellp (h : SP w0 w base gp S x p A n c F L) (j : Nat) (hj : j < 10) {k : IntKind} (hk : kdP j = k) : w.cell? ⟨gp, j, none⟩ = some (.int k (p j)) := by
 rw [h.pl.cell]
 simp [plCells, rowOf, hj, hk]
theorem SP.zero (h : SP w0 w base gp S x p A n c F L) (j : Nat) : w.frozen? ⟨gp, j, none⟩ = false := h.pl.frozen j
theorem SP.setp (h : SP w0 w base gp S x p A n c F L) (j : Nat) (hj : j < 10) {k : IntKind} (hk : kdP j = k) (v : Int) : SP w0 (w.setCell ⟨gp, j, none⟩ (.int k v)) base gp S x (upd p j v) A n c F L := by
 obtain ⟨Z, hZ, hr⟩ := h.sf.re
 have hfar := h.far
 have hbw := h.sf.bw
 refine ⟨⟨h.sf.st.farG (by omega) _ _, ⟨Z, hZ, hr.farG (by omega) _ _⟩, h.sf.sh.farG (by omega) _ _, h.sf.ow.farG (Blk.apart h.pl h.sf.ow (by decide)) _ _, h.sf.ok, h.sf.bw, bSetG h.sf.bl (by omega) _ _⟩, ?_, h.far⟩
 have := h.pl.set j (.int k v)
 rwa [pl_set p j hj hk v] at this
theorem SP.setS (h : SP w0 w base gp S x p A n c F L) (j : Nat) (hj : j < 60) {k : IntKind} (hk : kdS j = k) (v : Int) : SP w0 (w.setCell ⟨w0.heap.size, j, none⟩ (.int k v)) base gp (upd S j v) x p A n c F L :=
 ⟨h.sf.setS j hj hk v, h.pl.farG (by have := h.far; omega) _ _, h.far⟩
theorem SP.tell (em kd ga pr ln y : Int) (h : SP w0 w base gp S x p A n c F L) (hF : 0 ≤ F ∧ F ≤ 1073741824) (hL : L.length < 64) (hc : cntE L em kd ≤ 15) (h1 : 0 ≤ em ∧ em ≤ 2) (h2 : 1 ≤ kd ∧ kd ≤ 9) (h4 : 0 ≤ ga ∧ ga ≤ 32768) (h5 : 0 ≤ pr ∧ pr ≤ 15) (h6 : 0 ≤ ln ∧ ln ≤ 600) (hx : F32 y) :
  Calls Tryz.prog 150 #[.slice A n c, .int .i64 F, .int .i64 em, .int .i64 kd, .int .i64 ga, .int .i64 pr, .int .i64 ln, .int .i32 y] w fun e w' => ∃ A' c' n', e = .returned (.slice A' n' c') ∧ SP w0 w' base gp S x p A' n' c' F (addE F L (evT em kd kd ga pr ln y)) := by
 have hlt := h.sf.lt
 have hbw := h.sf.bw
 refine (r12Told_any em kd ga pr ln y h.sf.ow (by omega) h.sf.ok (evT_ok F _ _ _ _ _ _ _ hF h1 h2 (by omega) h4 h5 h6 0 (by decide)) hL hc (by omega) hx).mono ?_
 rintro e w' ⟨A', c', n', rfl, ho, hb⟩
 refine ⟨A', c', n', rfl, h.sf.told hb ho (h.sf.ok.add _ ?_), h.pl.on hb, h.far⟩
 refine evOk_ord (evT_ok F _ _ _ _ _ _ _ hF h1 h2 (by omega) h4 h5 h6 0 (by decide)) ⟨by omega, ?_⟩
 show ((cntE L em kd : Nat) : Int) ≤ 15
 omega
end
end
section
section
variable {P : Program} {ops : Array Oper} {md : Region.Mode} {w : World} {kd : Nat → Kd} {sp : Nat → Told} {fr ft : Nat → Bool}
def mStepG (P : Program) (ops : Array Oper) (w : World) (kd : Nat → Kd) (sp : Nat → Told) (fr ft : Nat → Bool) (o : Oper) (i : Nat) (K : Act → (World → Prop) → Prop) (a : Act) (D : World → Prop) : Prop :=
 if Region.wanted o (yielded ops a.tmps) = true then
  match kd i with
  | .pure => ∃ v, (∀ W, RunsTo P o a W v) ∧ K (a.put o.dst v) D
  | .held => Keeps w D ∧ ∃ v, (∀ W, Grown w W → RunsTo P o a W v) ∧ K (a.put o.dst v) D
  | .make => Keeps w D ∧ (∀ v W U, (sp i).R v W → Grown W U → (sp i).R v U) ∧ Makes P w o (sp i).S (sp i).R a ∧ ∀ v, (sp i).S v → Ne (fun W => D W ∧ (sp i).R v W) → K (a.put o.dst v) (fun W => D W ∧ (sp i).R v W)
  | .tail => ∃ (S : Value → Prop) (R : Value → World → Prop), (∃ v, S v ∧ Ne (R v)) ∧ (ft i = true → Keeps w D ∧ ∀ u, S u → Keeps w (R u)) ∧ (Dist ops fr a → ∀ W, D W → Oper.goes P o a W (fun u W' => (S u ∧ R u W') ∧ W.heap.size ≤ W'.heap.size)) ∧ ∀ v, S v → Ne (R v) → K (a.put o.dst v) (R v)
 else K (a.put o.dst undef) D
def mOpG (P : Program) (ops : Array Oper) (w : World) (kd : Nat → Kd) (sp : Nat → Told) (fr ft : Nat → Bool) (i : Nat) (K : Act → (World → Prop) → Prop) (a : Act) (D : World → Prop) : Prop :=
 match ops[i]? with
 | none => K a D
 | some o => mStepG P ops w kd sp fr ft o i K a D
theorem mStep_monoG {o : Oper} {i : Nat} {a : Act} {D : World → Prop} {K K' : Act → (World → Prop) → Prop} (hne : Ne D) (h : ∀ a D, Ne D → K a D → K' a D) (hh : mStepG P ops w kd sp fr ft o i K a D) : mStepG P ops w kd sp fr ft o i K' a D := by
 unfold mStepG at *
 split
 ·rename_i hw
  rw [if_pos hw] at hh
  cases hk : kd i <;> rw [hk] at hh <;> simp only at hh ⊢
  ·obtain ⟨v, h1, h2⟩ := hh; exact ⟨v, h1, h _ _ hne h2⟩
  ·obtain ⟨h0, v, h1, h2⟩ := hh; exact ⟨h0, v, h1, h _ _ hne h2⟩
  ·obtain ⟨h0, h1, h2, h3⟩ := hh; exact ⟨h0, h1, h2, fun v hv hn => h _ _ hn (h3 v hv hn)⟩
  ·obtain ⟨S, R, h0, hf, h1, h2⟩ := hh; exact ⟨S, R, h0, hf, h1, fun v hv hn => h _ _ hn (h2 v hv hn)⟩
 ·rename_i hw; rw [if_neg hw] at hh; exact h _ _ hne hh
theorem mStep_someG {o : Oper} {i : Nat} {a : Act} {D : World → Prop} {K : Act → (World → Prop) → Prop} (hne : Ne D) (hh : mStepG P ops w kd sp fr ft o i K a D) : ∃ a' D', Ne D' ∧ K a' D' := by
 unfold mStepG at hh
 split at hh
 ·cases hk : kd i <;> rw [hk] at hh <;> simp only at hh
  ·obtain ⟨v, -, h2⟩ := hh; exact ⟨_, _, hne, h2⟩
  ·obtain ⟨-, v, -, h2⟩ := hh; exact ⟨_, _, hne, h2⟩
  ·obtain ⟨h0, h1, h2, h3⟩ := hh
   obtain ⟨W, hW⟩ := hne
   obtain ⟨v, W', ⟨hs, hr⟩, hg⟩ := goes_some (h2 W (h0.out W hW))
   have hn : Ne (fun W => D W ∧ (sp i).R v W) := ⟨W', h0.grow W W' hW hg, hr⟩
   exact ⟨_, _, hn, h3 v hs hn⟩
  ·obtain ⟨S, R, ⟨v, hs, hn⟩, -, -, h2⟩ := hh
   exact ⟨_, _, hn, h2 v hs hn⟩
 ·exact ⟨_, _, hne, hh⟩
def swapG (kd : Nat → Kd) (ft : Nat → Bool) (i j : Nat) : Bool := swapOk (kd i) (kd j) || (decide (kd i = .held) && (decide (kd j = .tail) && ft j))
theorem mStep_swapG {i j : Nat} {oi oj : Oper} (hap : oi.apart ops oj = true) (hsi : ∀ cs b, oi.op ≠ .select cs b) (hsj : ∀ cs b, oj.op ≠ .select cs b) (hk : swapG kd ft i j = true) {K : Act → (World → Prop) → Prop} {a : Act} {D : World → Prop} (hne : Ne D) (hfr : FrOk P ops w kd sp fr) (hoi : ops[i]? = some oi) (hoj : ops[j]? = some oj)
  (h : mStepG P ops w kd sp fr ft oi i (fun a1 D1 => mStepG P ops w kd sp fr ft oj j K a1 D1) a D) : mStepG P ops w kd sp fr ft oj j (fun a2 D2 => mStepG P ops w kd sp fr ft oi i K a2 D2) a D := by
 obtain ⟨h1, h2, h3⟩ := Oper.apart_spec hap
 have ei : ∀ (a : Act) u, execOp (a.put oj.dst u).eval oi = execOp a.eval oi := fun a u => execOp_put oi hsi a oj.dst u h3
 have ej : ∀ (a : Act) u, execOp (a.put oi.dst u).eval oj = execOp a.eval oj := fun a u => execOp_put oj hsj a oi.dst u h1
 have wi : ∀ (a : Act) u, Region.wanted oi (yielded ops (a.put oj.dst u).tmps) = Region.wanted oi (yielded ops a.tmps) := fun a u => wanted_put oi a oj.dst u h3
 have wj : ∀ (a : Act) u, Region.wanted oj (yielded ops (a.put oi.dst u).tmps) = Region.wanted oj (yielded ops a.tmps) := fun a u => wanted_put oj a oi.dst u h1
 have pc : ∀ (a : Act) u v, (a.put oi.dst u).put oj.dst v = (a.put oj.dst v).put oi.dst u := fun a u v => Act.put_comm a u v h2
 have ri : ∀ (a : Act) u W v, RunsTo P oi (a.put oj.dst u) W v ↔ RunsTo P oi a W v := fun a u W v => by unfold RunsTo; rw [ei]
 have rj : ∀ (a : Act) u W v, RunsTo P oj (a.put oi.dst u) W v ↔ RunsTo P oj a W v := fun a u W v => by unfold RunsTo; rw [ej]
 have gi : ∀ (a : Act) u W T, Oper.goes P oi (a.put oj.dst u) W T ↔ Oper.goes P oi a W T := fun a u W T => by unfold Oper.goes; rw [ei]
 have gj : ∀ (a : Act) u W T, Oper.goes P oj (a.put oi.dst u) W T ↔ Oper.goes P oj a W T := fun a u W T => by unfold Oper.goes; rw [ej]
 have mi : ∀ (a : Act) u S R, Makes P w oi S R (a.put oj.dst u) ↔ Makes P w oi S R a := fun a u S R => by unfold Makes; simp only [gi]
 have mj : ∀ (a : Act) u S R, Makes P w oj S R (a.put oi.dst u) ↔ Makes P w oj S R a := fun a u S R => by unfold Makes; simp only [gj]
 have dc : ∀ (A B : World → Prop), (fun W => (D W ∧ A W) ∧ B W) = (fun W => (D W ∧ B W) ∧ A W) := fun A B => by funext W; exact propext ⟨fun ⟨⟨a, b⟩, c⟩ => ⟨⟨a, c⟩, b⟩, fun ⟨⟨a, b⟩, c⟩ => ⟨⟨a, c⟩, b⟩⟩
 have di : fr i = false → ∀ (a : Act) u, Dist ops fr (a.put oi.dst u) ↔ Dist ops fr a := fun h a u => dist_put hfr hoi h a u
 have dj : fr j = false → ∀ (a : Act) u, Dist ops fr (a.put oj.dst u) ↔ Dist ops fr a := fun h a u => dist_put hfr hoj h a u
 unfold mStepG at h ⊢
 simp only [wi, wj, ri, rj, gi, gj, mi, mj] at h ⊢
 by_cases hwi : Region.wanted oi (yielded ops a.tmps) = true
 ·by_cases hwj : Region.wanted oj (yielded ops a.tmps) = true
  ·simp only [hwi, hwj, if_true] at h ⊢
   unfold swapG at hk
   cases hki : kd i <;> cases hkj : kd j <;> rw [hki, hkj] at hk <;> simp only [hki, hkj] at h ⊢
   case tail.tail => simp [swapOk] at hk
   case tail.held => simp [swapOk] at hk
   case tail.make => simp [swapOk] at hk
   case held.tail =>
    obtain ⟨hD, v, hv, S, R, h0, hf, hg, hK⟩ := h
    have hft : ft j = true := by simpa [swapOk] using hk
    have fi : fr i = false := hfr.not_of (by rw [hki]; decide)
    exact ⟨S, R, h0, hf, fun hd => hg ((di fi a v).2 hd), fun u hu hn => ⟨(hf hft).2 u hu, v, hv, by rw [← pc]; exact hK u hu hn⟩⟩
   case make.tail => simp [swapOk] at hk
   case pure.pure =>
    obtain ⟨v, hv, u, hu, hK⟩ := h
    exact ⟨u, hu, v, hv, by rw [← pc]; exact hK⟩
   case pure.held =>
    obtain ⟨v, hv, hD, u, hu, hK⟩ := h
    exact ⟨hD, u, hu, v, hv, by rw [← pc]; exact hK⟩
   case pure.make =>
    obtain ⟨v, hv, hD, hst, hM, hK⟩ := h
    exact ⟨hD, hst, hM, fun u hu hn => ⟨v, hv, by rw [← pc]; exact hK u hu hn⟩⟩
   case pure.tail =>
    obtain ⟨v, hv, S, R, h0, hf, hg, hK⟩ := h
    have fi : fr i = false := hfr.not_of (by rw [hki]; decide)
    exact ⟨S, R, h0, hf, fun hd => hg ((di fi a v).2 hd), fun u hu hn => ⟨v, hv, by rw [← pc]; exact hK u hu hn⟩⟩
   case held.pure =>
    obtain ⟨hD, v, hv, u, hu, hK⟩ := h
    exact ⟨u, hu, hD, v, hv, by rw [← pc]; exact hK⟩
   case held.held =>
    obtain ⟨hD, v, hv, -, u, hu, hK⟩ := h
    exact ⟨hD, u, hu, hD, v, hv, by rw [← pc]; exact hK⟩
   case held.make =>
    obtain ⟨hD, v, hv, -, hst, hM, hK⟩ := h
    exact ⟨hD, hst, hM, fun u hu hn => ⟨⟨fun W hW => hD.out W hW.1, fun W U hW hg => ⟨hD.grow W U hW.1 hg, hst u W U hW.2 hg⟩⟩, v, hv, by rw [← pc]; exact hK u hu hn⟩⟩
   case make.pure =>
    obtain ⟨hD, hst, hM, hK⟩ := h
    obtain ⟨W, hW⟩ := hne
    obtain ⟨v0, W', ⟨hs0, hr0⟩, hg0⟩ := goes_some (hM W (hD.out W hW))
    obtain ⟨u, hu, -⟩ := hK v0 hs0 ⟨W', hD.grow W W' hW hg0, hr0⟩
    refine ⟨u, hu, hD, hst, hM, fun v hv hn => ?_⟩
    obtain ⟨u', hu', hK'⟩ := hK v hv hn
    have : u' = u := runsTo_uniq (hu' W) (hu W)
    subst this
    rw [← pc]; exact hK'
   case make.held =>
    obtain ⟨hD, hst, hM, hK⟩ := h
    obtain ⟨W, hW⟩ := hne
    obtain ⟨v0, W', ⟨hs0, hr0⟩, hg0⟩ := goes_some (hM W (hD.out W hW))
    obtain ⟨-, u, hu, -⟩ := hK v0 hs0 ⟨W', hD.grow W W' hW hg0, hr0⟩
    refine ⟨hD, u, hu, hD, hst, hM, fun v hv hn => ?_⟩
    obtain ⟨-, u', hu', hK'⟩ := hK v hv hn
    have : u' = u := runsTo_uniq (hu' W (hD.out W hW)) (hu W (hD.out W hW))
    subst this
    rw [← pc]; exact hK'
   case make.make =>
    obtain ⟨hD, hst, hM, hK⟩ := h
    obtain ⟨W, hW⟩ := hne
    obtain ⟨v0, W', ⟨hs0, hr0⟩, hg0⟩ := goes_some (hM W (hD.out W hW))
    obtain ⟨-, hst2, hM2, -⟩ := hK v0 hs0 ⟨W', hD.grow W W' hW hg0, hr0⟩
    refine ⟨hD, hst2, hM2, fun u hu hn => ⟨⟨fun W hW => hD.out W hW.1, fun W U hW hg => ⟨hD.grow W U hW.1 hg, hst2 u W U hW.2 hg⟩⟩, hst, hM, fun v hv hn2 => ?_⟩⟩
    obtain ⟨Wx, ⟨hx1, hx2⟩, hx3⟩ := hn2
    have := (hK v hv ⟨Wx, hx1, hx3⟩).2.2.2 u hu ⟨Wx, ⟨hx1, hx3⟩, hx2⟩
    rw [← pc, ← dc]
    exact this
   case tail.pure =>
    obtain ⟨S, R, ⟨v0, hs0, hn0⟩, hf, hg, hK⟩ := h
    obtain ⟨W, hW⟩ := hne
    have fj : fr j = false := hfr.not_of (by rw [hkj]; decide)
    obtain ⟨u, hu, -⟩ := hK v0 hs0 hn0
    refine ⟨u, hu, S, R, ⟨v0, hs0, hn0⟩, hf, fun hd => hg ((dj fj a u).1 hd), fun v hv hn => ?_⟩
    obtain ⟨u', hu', hK'⟩ := hK v hv hn
    have : u' = u := runsTo_uniq (hu' W) (hu W)
    subst this
    rw [← pc]; exact hK'
  ·simp only [hwi, hwj, if_true, Bool.false_eq_true, if_false] at h ⊢
   have fj : fr j = false := hfr.not_wanted hoj (by simpa using hwj)
   cases hki : kd i <;> simp only [hki] at h ⊢
   ·obtain ⟨v, hv, hK⟩ := h; exact ⟨v, hv, by rw [← pc]; exact hK⟩
   ·obtain ⟨hD, v, hv, hK⟩ := h; exact ⟨hD, v, hv, by rw [← pc]; exact hK⟩
   ·obtain ⟨hD, hst, hM, hK⟩ := h; exact ⟨hD, hst, hM, fun v hv hn => by rw [← pc]; exact hK v hv hn⟩
   ·obtain ⟨S, R, h0, hf, hg, hK⟩ := h; exact ⟨S, R, h0, hf, fun hd => hg ((dj fj a _).1 hd), fun v hv hn => by rw [← pc]; exact hK v hv hn⟩
 ·by_cases hwj : Region.wanted oj (yielded ops a.tmps) = true
  ·simp only [hwi, hwj, if_true, Bool.false_eq_true, if_false] at h ⊢
   have fi : fr i = false := hfr.not_wanted hoi (by simpa using hwi)
   cases hkj : kd j <;> simp only [hkj] at h ⊢
   ·obtain ⟨v, hv, hK⟩ := h; exact ⟨v, hv, by rw [← pc]; exact hK⟩
   ·obtain ⟨hD, v, hv, hK⟩ := h; exact ⟨hD, v, hv, by rw [← pc]; exact hK⟩
   ·obtain ⟨hD, hst, hM, hK⟩ := h; exact ⟨hD, hst, hM, fun v hv hn => by rw [← pc]; exact hK v hv hn⟩
   ·obtain ⟨S, R, h0, hf, hg, hK⟩ := h; exact ⟨S, R, h0, hf, fun hd => hg ((di fi a _).2 hd), fun v hv hn => by rw [← pc]; exact hK v hv hn⟩
  ·simp only [hwi, hwj, Bool.false_eq_true, if_false] at h ⊢
   rw [← pc]; exact h
def wpAnyKG (P : Program) (md : Region.Mode) (ops : Array Oper) (w : World) (kd : Nat → Kd) (sp : Nat → Told) (fr ft : Nat → Bool) (E : Act → (World → Prop) → Prop) : Nat → Array Bool → Act → (World → Prop) → Prop
 | 0, listed, a, D => Region.ready md ops listed = [] ∧ E a D
 | f + 1, listed, a, D => (Region.ready md ops listed = [] → E a D) ∧ ∀ i ∈ Region.ready md ops listed, mOpG P ops w kd sp fr ft i (wpAnyKG P md ops w kd sp fr ft E f (listed.setIfInBounds i true)) a D
theorem wpOp_of_mOpG {i : Nat} {a : Act} {D : World → Prop} {K : Act → (World → Prop) → Prop} {K' : Act → World → Prop} {Q' : Exit → Act → World → Prop} {W : World} (hfr : FrOk P ops w kd sp fr) (hW : D W) (hI : Real ops fr a W)
  (h : ∀ a D W', D W' → Real ops fr a W' → K a D → K' a W') (hh : mOpG P ops w kd sp fr ft i K a D) : wpOp P ops Q' i K' a W := by
 unfold mOpG at hh
 unfold wpOp
 split
 ·rename_i ho; simp only [ho] at hh; exact h _ _ _ hW hI hh
 ·rename_i o ho
  simp only [ho] at hh
  unfold mStepG at hh
  split
  ·rename_i hw
   rw [if_pos hw] at hh
   left
   cases hk : kd i <;> rw [hk] at hh <;> simp only at hh
   ·obtain ⟨v, h1, h2⟩ := hh
    have h1 := h1 W
    unfold RunsTo at h1
    unfold Oper.wp
    rw [h1]
    exact h _ _ _ hW (hI.put hfr ho (hfr.not_of (by rw [hk]; decide)) v (zL _)) h2
   ·obtain ⟨hD, v, h1, h2⟩ := hh
    have h1 := h1 W (hD.out W hW)
    unfold RunsTo at h1
    unfold Oper.wp
    rw [h1]
    exact h _ _ _ hW (hI.put hfr ho (hfr.not_of (by rw [hk]; decide)) v (zL _)) h2
   ·obtain ⟨hD, hst, hM, hK⟩ := hh
    cases hf : fr i with
    | false => exact Oper.wp_of_goes (hM W (hD.out W hW)) fun v W' ⟨⟨hs, hr⟩, hg⟩ => h _ _ W' ⟨hD.grow W W' hW hg, hr⟩ (hI.put hfr ho hf v (Below.size hg)) (hK v hs ⟨W', hD.grow W W' hW hg, hr⟩)
    | true =>
     have hgo := hM W (hD.out W hW)
     obtain ⟨oi, T, z, hoi, hop, hz, -⟩ := hfr.alloc i hf
     obtain rfl : oi = o := Option.some.inj (hoi.symm.trans ho)
     have hr : (execOp a.eval oi).run P W = .ok (.value (.pointer (some ⟨W.heap.size, 0, none⟩))) (W.alloc (.cells z.cells T)) := by
      unfold execOp
      simp only [hop, Instr.alloc, Sem.run_bind, hz, Result.andThen_ok, newVar, newRow, newObj]
      rfl
     unfold Oper.goes at hgo
     rw [hr] at hgo
     obtain ⟨⟨hs, hr2⟩, hg⟩ := hgo
     unfold Oper.wp
     rw [hr]
     exact h _ _ _ ⟨hD.grow W _ hW hg, hr2⟩ (hI.fresh hfr ho hf (W.alloc (.cells z.cells T)) (by simp)) (hK _ hs ⟨_, hD.grow W _ hW hg, hr2⟩)
   ·obtain ⟨S, R, -, -, hg, hK⟩ := hh
    exact Oper.wp_of_goes (hg hI.1 W hW) fun v W' ⟨⟨hs, hr⟩, hz⟩ => h _ _ W' hr (hI.put hfr ho (hfr.not_of (by rw [hk]; decide)) v hz) (hK v hs ⟨W', hr⟩)
  ·rename_i hw
   rw [if_neg hw] at hh
   exact h _ _ _ hW (hI.put hfr ho (hfr.not_wanted ho (by simpa using hw)) undef (zL _)) hh
theorem wpAny_of_KG {Q : Exit → Act → World → Prop} (hfr : FrOk P ops w kd sp fr) : ∀ (f : Nat) (listed : Array Bool) (a : Act) (D : World → Prop) (W : World), D W → Real ops fr a W → wpAnyKG P md ops w kd sp fr ft (fun a D => Dist ops fr a → ∀ W, D W → Q .normal a W) f listed a D → wpAny P md ops Q f listed a W
 | 0, _, _, _, _, hW, hI, h => ⟨h.1, h.2 hI.1 _ hW⟩
 | f + 1, _, _, _, _, hW, hI, h => ⟨fun h0 => h.1 h0 hI.1 _ hW, fun i hi => wpOp_of_mOpG hfr hW hI (fun a' D' W' hW' hI' h' => wpAny_of_KG hfr f _ a' D' W' hW' hI' h') (h.2 i hi)⟩
theorem getD_set_self {listed : Array Bool} {k : Nat} (h : listed.getD k true = false) : (listed.setIfInBounds k true).getD k false = true := by
 rw [Array.getD_eq_getD_getElem?] at h ⊢
 have hk : k < listed.size := by
  rcases Nat.lt_or_ge k listed.size with h1 | h1
  ·exact h1
  ·rw [Array.getElem?_eq_none h1] at h; cases h
 simp [hk]
theorem wpAnyK_firstG (hfr : FrOk P ops w kd sp fr) {E : Act → (World → Prop) → Prop} {i : Nat} {oi : Oper} (hi : ops[i]? = some oi) (hsel : ∀ (j : Nat) (o : Oper) cs b, ops[j]? = some o → o.op ≠ .select cs b)
  (hsw : ∀ j, j < ops.size → i < j → swapG kd ft i j = false → waitsT md ops 2 j i = true ∨ waitsT md ops 2 i j = true) :
  ∀ (f : Nat) (listed : Array Bool) (a : Act) (D : World → Prop), Ne D → Closed md ops listed → (∀ m, m < i → listed.getD m false = true) →
   (∀ j oj, ops[j]? = some oj → j ≠ i → listed.getD j true = false → (∀ e ∈ oj.after, Region.binds md e = true → e.on ≠ i) → oi.apart ops oj = true) →
   i ∈ Region.ready md ops listed → mOpG P ops w kd sp fr ft i (wpAnyKG P md ops w kd sp fr ft E f (listed.setIfInBounds i true)) a D → wpAnyKG P md ops w kd sp fr ft E (f + 1) listed a D := by
 intro f
 induction f with
 | zero =>
  intro listed a D hne _ _ _ hr H
  refine ⟨fun h => (by rw [h] at hr; cases hr), fun j hj => ?_⟩
  by_cases hji : j = i
  ·subst hji; exact H
  ·unfold mOpG at H
   rw [hi] at H
   obtain ⟨a', D', -, h0, -⟩ := mStep_someG hne H
   have := ready_mono hj hji
   rw [h0] at this; cases this
 | succ f ih =>
  intro listed a D hne hcl hlow hfree hr H
  refine ⟨fun h => (by rw [h] at hr; cases hr), fun j hj => ?_⟩
  by_cases hji : j = i
  ·subst hji; exact H
  ·obtain ⟨hjun, oj, hoj, hall⟩ := mem_ready.1 hj
   have hun := (mem_ready.1 hr).1
   have hnot : ∀ e ∈ oj.after, Region.binds md e = true → e.on ≠ i := fun e he hb heq => by
    have h1 := hall e he hb
    rw [heq, getD_both hun] at h1
    cases h1
   have hap := hfree j oj hoj hji hjun hnot
   have hswap : swapG kd ft i j = true := by
    cases hs : swapG kd ft i j with
    | true => rfl
    | false =>
     have hij : i < j := by
      rcases Nat.lt_trichotomy i j with h | h | h
      ·exact h
      ·exact absurd h.symm hji
      ·have := hlow j h
       rw [getD_both hjun] at this; cases this
     rcases hsw j (Array.getElem?_eq_some_iff.1 hoj).1 hij hs with h1 | h1
     ·have h2 := waitsT_ready hcl 2 j i hj h1
      rw [getD_both hun] at h2; cases h2
     ·have h2 := waitsT_ready hcl 2 i j hr h1
      rw [getD_both hjun] at h2; cases h2
   have hfree' : ∀ k ok, ops[k]? = some ok → k ≠ i → (listed.setIfInBounds j true).getD k true = false →
     (∀ e ∈ ok.after, Region.binds md e = true → e.on ≠ i) → oi.apart ops ok = true := fun k ok hk hki hun' hno => by
    refine hfree k ok hk hki ?_ hno
    by_cases hjk : j = k
    ·subst hjk; exact hjun
    ·rw [getD_set_ne true hjk] at hun'; exact hun'
   have hri := ready_mono hr (Ne.symm hji)
   unfold mOpG at H
   rw [hi] at H
   have H2 : mStepG P ops w kd sp fr ft oi i (fun a1 D1 => mStepG P ops w kd sp fr ft oj j (wpAnyKG P md ops w kd sp fr ft E f ((listed.setIfInBounds i true).setIfInBounds j true)) a1 D1) a D :=
    mStep_monoG hne (fun a1 D1 _ hK => by
     have := hK.2 j (ready_mono hj hji)
     unfold mOpG at this
     rw [hoj] at this
     exact this) H
   have H3 := mStep_swapG hap (fun cs b => hsel i oi cs b hi) (fun cs b => hsel j oj cs b hoj) hswap hne hfr hi hoj H2
   unfold mOpG
   rw [hoj]
   refine mStep_monoG hne (fun a2 D2 hne2 h3 => ih (listed.setIfInBounds j true) a2 D2 hne2 (hcl.set hj) (fun m hm => getD_set_true (hlow m hm)) hfree' hri ?_) H3
   unfold mOpG
   rw [hi, Array.setIfInBounds_comm _ _ hji]
   exact h3
def wpMixG (P : Program) (ops : Array Oper) (w : World) (kd : Nat → Kd) (sp : Nat → Told) (fr ft : Nat → Bool) (E : Act → (World → Prop) → Prop) : List Oper → Nat → Act → (World → Prop) → Prop
 | [], _, a, D => E a D
 | o :: rest, k, a, D => mStepG P ops w kd sp fr ft o k (wpMixG P ops w kd sp fr ft E rest (k + 1)) a D
theorem wpAnyK_lexG (hfr : FrOk P ops w kd sp fr) {E : Act → (World → Prop) → Prop} (hs : Region.noSelect ops = true) (hsw : ∀ i j, i < ops.size → j < ops.size → i < j → swapG kd ft i j = false → waitsT md ops 2 j i = true ∨ waitsT md ops 2 i j = true) :
  ∀ (l : List Oper) (k : Nat) (listed : Array Bool) (a : Act) (D : World → Prop), Ne D → Closed md ops listed → (∀ m, m < k → listed.getD m false = true) → (∀ j, l[j]? = ops[k + j]?) →
  Region.lexFrom md ops l.length k listed = true → wpMixG P ops w kd sp fr ft E l k a D → wpAnyKG P md ops w kd sp fr ft E l.length listed a D
 | [], _, _, _, _, _, _, _, _, hB, h => ⟨by simpa [Region.lexFrom] using hB, h⟩
 | o :: l, k, listed, a, D, hne, hcl, hlow, hl, hB, h => by
  have h0 : ops[k]? = some o := by simpa using (hl 0).symm
  simp only [zH, Region.lexFrom, Bool.and_eq_true] at hB
  obtain ⟨⟨hr, hf⟩, hB'⟩ := hB
  have hk : k < ops.size := (Array.getElem?_eq_some_iff.1 h0).1
  refine wpAnyK_firstG hfr h0 (Region.noSelect_spec hs) (fun j hjl hj hsw' => hsw k j hk hjl hj hsw') l.length listed a D hne hcl hlow (Region.free_spec h0 hf) (by simpa using hr) ?_
  unfold mOpG
  rw [h0]
  exact mStep_monoG hne (fun a' D' hne' h' => wpAnyK_lexG hfr hs hsw l (k + 1) _ a' D' hne' (hcl.set (by simpa using hr)) (fun m hm => by
   by_cases hmk : m = k
   ·subst hmk; exact getD_set_self (mem_ready.1 (by simpa using hr)).1
   ·exact getD_set_true (hlow m (by omega))) (fun j => by have := hl (j + 1); simpa [Nat.add_assoc, Nat.add_comm 1 j] using this) hB' h') h
def mixGB (md : Region.Mode) (ops : Array Oper) (kd : Nat → Kd) (ft : Nat → Bool) : Bool :=
 Region.lexB md ops && (List.range ops.size).all fun i => (List.range ops.size).all fun j => decide (j ≤ i) || (swapG kd ft i j || (waitsT md ops 2 j i || waitsT md ops 2 i j))
theorem wp_region_mixedG {id : Nat} {Q : Exit → Act → World → Prop} {a : Act} {w : World} {l : List Oper} (kds : List Kd) (sp : Nat → Told) (fl tl : List Nat) (hm : P.follows .mixedOrders = true) (hB : mixGB .any l.toArray (fun i => kds.getD i .pure) (fun i => tl.contains i) = true)
  (hd : frDst l.toArray fl = true) (hs0 : frAct l.toArray fl a = true) (hal : ∀ i ∈ fl, ∃ oi T z, l.toArray[i]? = some oi ∧ oi.op = .alloc T ∧ (∀ W, (zeroValue T).run P W = .ok z W) ∧ oi.guard = none ∧ kds.getD i .pure = .make)
  (h : wpMixG P l.toArray w (fun i => kds.getD i .pure) sp (fun i => fl.contains i) (fun i => tl.contains i) (fun a D => Dist l.toArray (fun i => fl.contains i) a → ∀ W, D W → Q .normal a W) l 0 a (Grown w)) : (Code.region id l.toArray true).wp P Q a w := by
 have hfr : FrOk P l.toArray w (fun i => kds.getD i .pure) sp (fun i => fl.contains i) := FrOk.of hd hal
 simp only [mixGB, Bool.and_eq_true] at hB
 obtain ⟨hlex, hall⟩ := hB
 simp only [Region.lexB, Bool.and_eq_true] at hlex
 have hg0 : Grown w { w with drawn := w.drawn + 1 } := (Below.refl _ _).drew
 refine wp_region_any hm (wpAny_of_KG (w := w) (kd := fun i => kds.getD i .pure) (sp := sp) (ft := fun i => tl.contains i) hfr _ _ _ (Grown w) _ hg0 (Real.of hs0 _) ?_)
 have := wpAnyK_lexG (P := P) (md := .any) (w := w) (ft := fun i => tl.contains i) hfr (E := fun a D => Dist l.toArray (fun i => fl.contains i) a → ∀ W, D W → Q .normal a W) hlex.1 (fun i j hi hjl hj hs => by
  have h1 := List.all_eq_true.1 (List.all_eq_true.1 hall i (List.mem_range.2 hi)) j (List.mem_range.2 hjl)
  simp only [Bool.or_eq_true, decide_eq_true_eq] at h1
  rcases h1 with h1 | h1 | h1 | h1
  ·exact absurd h1 (by omega)
  ·rw [hs] at h1; cases h1
  ·exact .inl h1
  ·exact .inr h1) l 0 (Array.replicate l.toArray.size false) a (Grown w) ⟨w, Grown.refl w⟩ (Closed.none _ _ _) (fun m hm => absurd hm (Nat.not_lt_zero m)) (by simp) (by simpa using hlex.2) h
 simpa using this
section
variable {E : Act → (World → Prop) → Prop} {a : Act} {o : Oper} {rest : List Oper} {k : Nat} {D : World → Prop}
theorem mixG_pure (hw : Region.wanted o (yielded ops a.tmps) = true) (hk : kd k = .pure) (hp : valOp o.op = true)
  (h : ∀ K : Act → Prop, (∀ a, wpMixG P ops w kd sp fr ft E rest (k + 1) a D → K a) → o.quiet P a (fun _ => True) K) : wpMixG P ops w kd sp fr ft E (o :: rest) k a D := by
 unfold wpMixG mStepG
 rw [if_pos hw, hk]
 obtain ⟨v, h1, h2⟩ := h _ fun _ h => h
 exact ⟨v, fun W => runs_of_quiet hp (h1 W trivial), h2⟩
theorem mixG_load (hw : Region.wanted o (yielded ops a.tmps) = true) (hk : kd k = .held) (hD : Keeps w D) (ty : TypeId) (x : Operand) (ho : o.op = .load ty x)
  (b i : Nat) (hx : a.eval x = .pointer (some ⟨b, i, none⟩)) (cs : List Value) (d : TypeDesc) (hb : b < w.heap.size) (hc : w.rangeAt b i cs)
  (hu : P.underlying ty = some d) (hd : d.isRow = true) (hi : (P.info? ty).map (·.size) = some cs.length)
  (h : wpMixG P ops w kd sp fr ft E rest (k + 1) (a.put o.dst (.agg cs.toArray)) D) : wpMixG P ops w kd sp fr ft E (o :: rest) k a D := by
 unfold wpMixG mStepG
 rw [if_pos hw, hk]
 refine ⟨hD, _, fun W hW => ?_, h⟩
 have hc' : W.rangeAt b i cs := fun j v hv => (Below.cell (p := ⟨b, i + j, none⟩) hW hb).trans (hc j v hv)
 unfold RunsTo execOp
 simp only [ho, hx, Instr.loadAt, Instr.sureAddr, Sem.run_bind, Sem.run_pure, Result.andThen_ok, run_loadVar_mid W b i ty cs d hc' hu hd hi]
theorem mixG_make (hw : Region.wanted o (yielded ops a.tmps) = true) (hk : kd k = .make) (hD : Keeps w D) (hst : ∀ v W U, (sp k).R v W → Grown W U → (sp k).R v U) (hM : Makes P w o (sp k).S (sp k).R a)
  (h : ∀ v, (sp k).S v → Keeps w (fun W => D W ∧ (sp k).R v W) → Ne (fun W => D W ∧ (sp k).R v W) → wpMixG P ops w kd sp fr ft E rest (k + 1) (a.put o.dst v) (fun W => D W ∧ (sp k).R v W)) : wpMixG P ops w kd sp fr ft E (o :: rest) k a D := by
 unfold wpMixG mStepG
 rw [if_pos hw, hk]
 exact ⟨hD, hst, hM, fun v hv hn => h v hv (hD.and (hst v)) hn⟩
theorem mixG_tail (hft : ft k = false) (hw : Region.wanted o (yielded ops a.tmps) = true) (hk : kd k = .tail) (hne : Ne D) (T : World → World) (hT : Dist ops fr a → ∀ W, D W → (execOp a.eval o).run P W = .ok .skip (T W)) (hz : ∀ W, W.heap.size ≤ (T W).heap.size)
  (h : wpMixG P ops w kd sp fr ft E rest (k + 1) (a.put o.dst undef) (fun W' => ∃ W, D W ∧ W' = T W)) : wpMixG P ops w kd sp fr ft E (o :: rest) k a D := by
 unfold wpMixG mStepG
 rw [if_pos hw, hk]
 refine ⟨fun v => v = undef, fun _ W' => ∃ W, D W ∧ W' = T W, ?_, fun h => (by rw [hft] at h; cases h), fun hd W hW => ?_, fun v hv _ => by subst hv; exact h⟩
 ·obtain ⟨W, hW⟩ := hne
  exact ⟨undef, rfl, T W, W, hW, rfl⟩
 ·unfold Oper.goes
  rw [hT hd W hW]
  exact ⟨⟨rfl, W, hW, rfl⟩, hz W⟩
theorem mixG_store (hft : ft k = false) (hw : Region.wanted o (yielded ops a.tmps) = true) (hk : kd k = .tail) (hne : Ne D) (ty : TypeId) (x y : Operand) (ho : o.op = .store ty x y)
  (b i : Nat) (cs : Array Value) (hx : a.eval x = .pointer (some ⟨b, i, none⟩)) (hy : a.eval y = .agg cs) (ht : Dist ops fr a → ∀ W, D W → W.there b i cs.size) (hi : (P.info? ty).map (·.size) = some cs.size) (h1 : cs.all (·.oneCell') = true)
  (h : wpMixG P ops w kd sp fr ft E rest (k + 1) (a.put o.dst undef) (fun W' => ∃ W, D W ∧ W' = W.setCells b i cs.toList)) : wpMixG P ops w kd sp fr ft E (o :: rest) k a D :=
 mixG_tail hft hw hk hne (fun W => W.setCells b i cs.toList) (fun hd W hW => by
  unfold execOp
  simp only [ho, hx, hy, Instr.storeAt, Instr.sureAddr, Sem.run_bind, Sem.run_pure, Result.andThen_ok, run_storeVar_mid W b i ty cs (ht hd W hW) hi h1]) (fun W => by rw [setCells_size]; exact zL _) h
theorem mixG_new (hw : Region.wanted o (yielded ops a.tmps) = true) (hk : kd k = .tail) (hne : Ne D) (hD : Keeps w D) (ty : TypeId) (x y : Operand) (ho : o.op = .store ty x y)
  (b i : Nat) (cs : Array Value) (hx : a.eval x = .pointer (some ⟨b, i, none⟩)) (hy : a.eval y = .agg cs) (hb : w.heap.size ≤ b) (ht : Dist ops fr a → ∀ W, D W → W.there b i cs.size) (hi : (P.info? ty).map (·.size) = some cs.size) (h1 : cs.all (·.oneCell') = true)
  (h : wpMixG P ops w kd sp fr ft E rest (k + 1) (a.put o.dst undef) (fun W' => ∃ W, D W ∧ Grown (W.setCells b i cs.toList) W')) : wpMixG P ops w kd sp fr ft E (o :: rest) k a D := by
 unfold wpMixG mStepG
 rw [if_pos hw, hk]
 refine ⟨fun v => v = undef, fun _ W' => ∃ W, D W ∧ Grown (W.setCells b i cs.toList) W', ?_, fun _ => ⟨hD, fun _ _ => ⟨fun W' hW' => ?_, fun W' U hW' hU => ?_⟩⟩, fun hd W hW => ?_, fun v hv _ => by subst hv; exact h⟩
 ·obtain ⟨W, hW⟩ := hne
  exact ⟨undef, rfl, _, W, hW, Grown.refl _⟩
 ·obtain ⟨W, hW, hg⟩ := hW'
  exact bTrans (bSetCells (hD.out W hW) hb i cs.toList) hg
 ·obtain ⟨W, hW, hg⟩ := hW'
  exact ⟨W, hW, bTrans hg hU⟩
 ·have hr : (execOp a.eval o).run P W = .ok .skip (W.setCells b i cs.toList) := by
   unfold execOp
   simp only [ho, hx, hy, Instr.storeAt, Instr.sureAddr, Sem.run_bind, Sem.run_pure, Result.andThen_ok, run_storeVar_mid W b i ty cs (ht hd W hW) hi h1]
  unfold Oper.goes
  rw [hr]
  exact ⟨⟨rfl, W, hW, Grown.refl _⟩, by rw [setCells_size]; exact zL _⟩
theorem mixG_nil (h : E a D) : wpMixG P ops w kd sp fr ft E [] k a D := h
end
end
end
end Go.Proofs.YtibeihcpehikoaaGreat
