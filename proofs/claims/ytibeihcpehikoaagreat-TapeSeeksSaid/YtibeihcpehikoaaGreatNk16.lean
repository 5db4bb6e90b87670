/-
  The walks beneath: Dice, State, Game1.
-/
import Derived.Test.YtibeihcpehikoaaGreatNk8
import Derived.Test.YtibeihcpehikoaaGreatNk15
namespace Go.Proofs.YtibeihcpehikoaaGreat
open Go.RowKit
set_option maxRecDepth 100000
set_option maxHeartbeats 2000000
section
def U32 (n : Int) : Prop := 0 ≤ n ∧ n ≤ 4294967295
def nextZ (s : Int) : Int := (1664525 * s + 1013904223) % 4294967296
theorem nextZ_bd (s : Int) : U32 (nextZ s) := by unfold nextZ U32; omega
def throwZ (s n : Int) : Int := nextZ s / 65536 * n / 65536
theorem dof_any (s : Int) (w : World) (h : U32 s) : Calls Tryz.prog 308 #[.agg #[.int .u32 1664525, .int .u32 1013904223], .int .u32 s] w fun e w' => e = .returned (.int .u32 (nextZ s)) ∧ Below w.heap.size w w' := by
 obtain ⟨h1, h2⟩ := h
 go_enter Tryz.func308, Tryz.ntmps308
 go_wp2
 go_ret
 exact ⟨ret_int (by unfold nextZ; omega), (by repeat (first | exact Below.refl _ _ | (with_reducible assumption) | apply bAlloc | apply below_drewN | apply Below.drew))⟩
theorem dNext_any (s : Int) (w : World) (h : U32 s) : Calls Tryz.prog 280 #[.int .u32 s] w fun e w' => e = .returned (.int .u32 (nextZ s)) ∧ Below w.heap.size w w' := by
 go_enter Tryz.func280, Tryz.ntmps280
 go_wp2_with fail
 refine (dof_any _ _ h).mono ?_
 rintro e w1 ⟨rfl, k1⟩
 go_wp2
 go_ret
 exact ⟨rfl, k1⟩
theorem r09Next_any (s : Int) (w : World) (h : U32 s) : Calls Tryz.prog 255 #[.int .u32 s] w fun e w' => e = .returned (.int .u32 (nextZ s)) ∧ w = w' := by
 obtain ⟨h1, h2⟩ := h
 go_enter Tryz.func255, Tryz.ntmps255
 go_wp2
 go_ret
 exact ⟨ret_int (by unfold nextZ; omega), rfl⟩
theorem throw_num (s n : Int) (h0 : 1 ≤ n) (h1 : n ≤ 65536) : 0 ≤ nextZ s / 65536 * n ∧ nextZ s / 65536 * n ≤ 4294901760 ∧ 0 ≤ throwZ s n ∧ throwZ s n < n := by
 have hb := nextZ_bd s
 unfold U32 at hb
 obtain ⟨q, hq⟩ : ∃ q, nextZ s / 65536 = q := ⟨_, rfl⟩
 have h2 : 0 ≤ q ∧ q ≤ 65535 := by omega
 have h3 : 0 ≤ q * n := Int.mul_nonneg h2.1 (by omega)
 have h4 : q * n ≤ 65535 * n := Int.mul_le_mul_of_nonneg_right h2.2 (by omega)
 unfold throwZ
 rw [hq]
 refine ⟨h3, by omega, Int.ediv_nonneg h3 (by omega), ?_⟩
 omega
theorem dThrow_any (s n : Int) (w : World) (h : U32 s) (h0 : 1 ≤ n) (h1 : n ≤ 65536) : Calls Tryz.prog 238 #[.int .u32 s, .int .i64 n] w fun e w' => e = .returned (.tuple #[.int .u32 (nextZ s), .int .i64 (throwZ s n), .int .i64 0]) ∧ Below w.heap.size w w' := by
 have ht := throw_num s n h0 h1
 have hb := nextZ_bd s
 have e : throwZ s n = nextZ s / 65536 * n / 65536 := rfl
 rw [e]
 have HH := zz h
 obtain ⟨x, hx⟩ : ∃ x, nextZ s = x := ⟨_, rfl⟩
 rw [hx] at ht hb ⊢
 obtain ⟨b1, b2⟩ := hb
 obtain ⟨t1, t2, -⟩ := ht
 obtain ⟨q, hq⟩ : ∃ q, x / 65536 * n = q := ⟨_, rfl⟩
 rw [hq] at t1 t2 ⊢
 have HX := zz hx
 have hwr : IntKind.i64.wrap (x / 65536 * n) = q := by rw [hq, IntKind.wrap_i64]; omega
 have hq' : x / 65536 * n = q := hq
 clear h hx e hq
 go_enter Tryz.func238, Tryz.ntmps238
 go_wp2_with fail
 refine (dNext_any _ _ HH.out).mono ?_
 rw [HX.out]
 rintro e w1 ⟨rfl, k1⟩
 go_wp2
 go_ret3
 exact ⟨rfl, k1⟩
theorem r09Throw_any (s n : Int) (w : World) (h : U32 s) (h0 : 1 ≤ n) (h1 : n ≤ 65536) : Calls Tryz.prog 210 #[.int .u32 s, .int .i64 n] w fun e w' => e = .returned (.tuple #[.int .u32 (nextZ s), .int .i64 (throwZ s n)]) ∧ w = w' := by
 have ht := throw_num s n h0 h1
 have hb := nextZ_bd s
 have e : throwZ s n = nextZ s / 65536 * n / 65536 := rfl
 rw [e]
 have HH := zz h
 obtain ⟨x, hx⟩ : ∃ x, nextZ s = x := ⟨_, rfl⟩
 rw [hx] at ht hb ⊢
 obtain ⟨b1, b2⟩ := hb
 obtain ⟨t1, t2, -⟩ := ht
 obtain ⟨q, hq⟩ : ∃ q, x / 65536 * n = q := ⟨_, rfl⟩
 rw [hq] at t1 t2 ⊢
 have HX := zz hx
 have hwr : IntKind.u64.wrap (x / 65536 * n) = q := by rw [hq, IntKind.wrap_u64]; omega
 have hq' : x / 65536 * n = q := hq
 clear h hx e hq
 go_enter Tryz.func210, Tryz.ntmps210
 go_wp2_with fail
 refine (r09Next_any _ _ HH.out).mono ?_
 rw [HX.out]
 rintro e w1 ⟨rfl, rfl⟩
 go_wp2
 go_ret2
 exact ⟨rfl, rfl⟩
end
section
def kdS (i : Nat) : IntKind := if i = 1 then .u32 else if (4 ≤ i ∧ i < 8) ∨ (14 ≤ i ∧ i < 18) ∨ (24 ≤ i ∧ (i - 24) % 6 < 4) then .i32 else .i64
def kdP (j : Nat) : IntKind := if j < 4 then .i32 else .i64
theorem kdS_p (i j : Nat) (hi : i < 2) (hj : j < 10) : kdS (4 + i * 10 + j) = kdP j := by
 unfold kdS kdP
 rw [if_neg (by omega)]
 by_cases h : j < 4
 ·rw [if_pos (by omega), if_pos h]
 ·rw [if_neg (by omega), if_neg h]
theorem kdS_s (k j : Nat) (hj : j < 6) : kdS (24 + k * 6 + j) = kdP j := by
 unfold kdS kdP
 rw [if_neg (by omega)]
 by_cases h : j < 4
 ·rw [if_pos (by omega), if_pos h]
 ·rw [if_neg (by omega), if_neg h]
def stCells (S : Nat → Int) : List Value := rowOf 60 fun i => Value.int (kdS i) (S i)
def plCells (p : Nat → Int) : List Value := rowOf 10 fun i => Value.int (kdP i) (p i)
theorem stCells_length (S : Nat → Int) : (stCells S).length = 60 := rowOf_length _ _
theorem plCells_length (p : Nat → Int) : (plCells p).length = 10 := rowOf_length _ _
def getP (S : Nat → Int) (i : Nat) : Nat → Int := fun j => S (4 + i * 10 + j)
def putP (S : Nat → Int) (i : Nat) (p : Nat → Int) : Nat → Int := fun j => if 4 + i * 10 ≤ j ∧ j < 4 + i * 10 + 10 then p (j - (4 + i * 10)) else S j
theorem putP_at (S : Nat → Int) (i : Nat) (p : Nat → Int) (j : Nat) (hj : j < 10) : putP S i p (4 + i * 10 + j) = p j := by
 unfold putP; rw [if_pos (by omega)]; congr 1; omega
theorem putP_other (S : Nat → Int) (i : Nat) (p : Nat → Int) (j : Nat) (hj : j < 4 + i * 10 ∨ 4 + i * 10 + 10 ≤ j) : putP S i p j = S j := by
 unfold putP; rw [if_neg (by omega)]
theorem upd_putP (S : Nat → Int) (i : Nat) (p : Nat → Int) (j : Nat) (v : Int) (hj : j < 10) : upd (putP S i p) (4 + i * 10 + j) v = putP S i (upd p j v) := by
 funext k
 by_cases h : k = 4 + i * 10 + j
 ·subst h; rw [upd_same, putP_at S i _ j hj, upd_same]
 ·rw [upd_other _ _ _ _ h]
  unfold putP
  by_cases h2 : 4 + i * 10 ≤ k ∧ k < 4 + i * 10 + 10
  ·rw [if_pos h2, if_pos h2, upd_other _ _ _ _ (by omega)]
  ·rw [if_neg h2, if_neg h2]
theorem putP_get (S : Nat → Int) (i : Nat) : putP S i (getP S i) = S := by
 funext k
 unfold putP getP
 split
 ·congr 1; omega
 ·rfl
def StBlk (w : World) (g gp : Nat) (S : Nat → Int) : Prop := Blk w g 201 (stCells S ++ [Value.pointer (some ⟨gp, 0, none⟩)]).toArray
section
variable {w w' : World} {g gp : Nat} {S : Nat → Int}
theorem StBlk.cell (h : StBlk w g gp S) (i : Nat) (hi : i < 60) : w.cell? ⟨g, i, none⟩ = some (.int (kdS i) (S i)) := by
 rw [Blk.cell h i, zA, List.getElem?_append_left (by rw [stCells_length]; exact hi)]
 simp [stCells, rowOf, hi]
theorem StBlk.page (h : StBlk w g gp S) : w.cell? ⟨g, 60, none⟩ = some (.pointer (some ⟨gp, 0, none⟩)) := by
 rw [Blk.cell h 60, zA, List.getElem?_append_right (by rw [stCells_length]; exact zL _), stCells_length]; rfl
theorem StBlk.frozen (h : StBlk w g gp S) (i : Nat) : w.frozen? ⟨g, i, none⟩ = false := Blk.frozen h i
theorem StBlk.set (h : StBlk w g gp S) (i : Nat) (hi : i < 60) {k : IntKind} (hk : kdS i = k) (v : Int) : StBlk (w.setCell ⟨g, i, none⟩ (.int k v)) g gp (upd S i v) := by
 have := Blk.set h i (.int k v)
 unfold StBlk
 have e : (stCells (upd S i v) ++ [Value.pointer (some ⟨gp, 0, none⟩)]).toArray = ((stCells S ++ [Value.pointer (some ⟨gp, 0, none⟩)]).toArray).setIfInBounds i (.int k v) := by
  apply Array.ext'
  simp only [Array.toList_setIfInBounds]
  rw [List.set_append_left _ _ (by rw [stCells_length]; exact hi)]
  congr 1
  unfold stCells
  rw [rowOf_set]
  refine rowOf_congr fun j _ => ?_
  unfold upd
  by_cases hj : j = i
  ·subst hj; rw [if_pos rfl, if_pos rfl, hk]
  ·rw [if_neg hj, if_neg hj]
 rw [e]
 exact this
end
def panZ (em x : Int) : Int := if 0 < em then max (-32768) (min (x * 32768 / 4194304) 32768) else 0
theorem panZ_bd (em x : Int) : -32768 ≤ panZ em x ∧ panZ em x ≤ 32768 := by unfold panZ; split <;> omega
def evT (em kd au ga pr ln x : Int) : Ev := ⟨0, em, kd, 0, au, ga, panZ em x, pr, ln⟩
theorem inB_ok {n lo hi : Int} (h : lo ≤ n ∧ n ≤ hi) : inB n lo hi = true := decide_eq_true h
theorem evT_ok (F em kd au ga pr ln x : Int) (hF : 0 ≤ F ∧ F ≤ 1073741824) (h1 : 0 ≤ em ∧ em ≤ 2) (h2 : 1 ≤ kd ∧ kd ≤ 9) (h3 : 0 ≤ au ∧ au ≤ 31) (h4 : 0 ≤ ga ∧ ga ≤ 32768) (h5 : 0 ≤ pr ∧ pr ≤ 15) (h6 : 0 ≤ ln ∧ ln ≤ 600) (o : Int) (ho : 0 ≤ o ∧ o ≤ 15) : evOk ((evT em kd au ga pr ln x).at_ F o) = true := by
 have hp := panZ_bd em x
 unfold evOk keyOk
 simp only [Ev.at_, evT, Ev.key, inB_ok hF, inB_ok h1, inB_ok h2, inB_ok h3, inB_ok h4, inB_ok h5, inB_ok h6, inB_ok hp, inB_ok ho, Bool.and_self]
structure Stg (w : World) (g gp base : Nat) (S : Nat → Int) (F : Int) (L : List Ev) : Prop where
 st : StBlk w g gp S
 pg : ∃ A n c, Blk w gp 265 #[.int .i64 F, .slice A n c] ∧ OwnL w base 62 9 (.slice A n c) Ev.cells L ∧ n ≤ c ∧ c ≤ 9223372036854775807
 ok : PageOk F L
 bg : base ≤ g
 bp : base ≤ gp
 bw : base ≤ w.heap.size
section
variable {w w' : World} {g gp base : Nat} {S : Nat → Int} {F : Int} {L : List Ev}
theorem Stg.ne (h : Stg w g gp base S F L) : g ≠ gp := by
 rintro rfl
 obtain ⟨A, n, c, hp, -⟩ := h.pg
 have h1 := h.st
 unfold StBlk at h1
 unfold Blk at h1 hp
 rw [h1] at hp
 injection hp with hp
 injection hp with _ ht
 exact absurd ht (by decide)
theorem Stg.drew (h : Stg w g gp base S F L) : Stg w.drew g gp base S F L := ⟨h.st, h.pg, h.ok, h.bg, h.bp, h.bw⟩
theorem Stg.on (h : Stg w g gp base S F L) (hb : Below w.heap.size w w') : Stg w' g gp base S F L := by
 obtain ⟨A, n, c, h1, h2, h3⟩ := h.pg
 exact ⟨Blk.on h.st hb, ⟨A, n, c, h1.on hb, h2.below hb, h3⟩, h.ok, h.bg, h.bp, Nat.le_trans h.bw hb.size⟩
theorem Stg.alloc (h : Stg w g gp base S F L) (o : Obj) : Stg (w.alloc o) g gp base S F L := h.on (bAlloc (Below.refl _ _) _)
theorem Stg.set (h : Stg w g gp base S F L) (i : Nat) (hi : i < 60) {k : IntKind} (hk : kdS i = k) (v : Int) : Stg (w.setCell ⟨g, i, none⟩ (.int k v)) g gp base (upd S i v) F L := by
 obtain ⟨A, n, c, h1, h2, h3⟩ := h.pg
 exact ⟨h.st.set i hi hk v, ⟨A, n, c, h1.farG (fun e => h.ne e.symm) _ _, h2.farG (Blk.apart h.st h2 (by decide)) _ _, h3⟩, h.ok, h.bg, h.bp, by simpa using h.bw⟩
theorem Stg.setP {i : Nat} {p : Nat → Int} (h : Stg w g gp base (putP S i p) F L) (hi : i < 2) (j : Nat) (hj : j < 10) {k : IntKind} (hk : kdP j = k) (v : Int) : Stg (w.setCell ⟨g, 4 + i * 10 + j, none⟩ (.int k v)) g gp base (putP S i (upd p j v)) F L := by
 rw [← upd_putP S i p j v hj]
 exact h.set _ (by omega) (by rw [kdS_p i j hi hj, hk]) v
theorem Stg.cellP {i : Nat} {p : Nat → Int} (h : Stg w g gp base (putP S i p) F L) (hi : i < 2) (j : Nat) (hj : j < 10) {k : IntKind} (hk : kdP j = k) : w.cell? ⟨g, 4 + i * 10 + j, none⟩ = some (.int k (p j)) := by
 rw [h.st.cell _ (by omega), kdS_p i j hi hj, hk, putP_at S i p j hj]
theorem Stg.lt (h : Stg w g gp base S F L) : g < w.heap.size := Blk.lt h.st
end
end
section
theorem gwithin_any (n lo hi : Int) (w : World) : Calls Tryz.prog 185 #[.int .i64 n, .int .i64 lo, .int .i64 hi] w fun e w' => e = .returned (.bool (inB n lo hi)) ∧ w = w' := by
 have hz : inB n lo hi = decide (lo ≤ n ∧ n ≤ hi) := rfl
 by_cases h0 : lo ≤ n <;> by_cases h1 : n ≤ hi
 all_goals
  simp only [h0, h1, and_self, and_true, and_false, decide_true, decide_false] at hz
  have HZ := zz hz
  clear hz
  go_enter Tryz.func185, Tryz.ntmps185
  go_wp2
  go_ret
  exact ⟨ret_bool HZ.out.symm, rfl⟩
theorem garena_any (w : World) : Calls Tryz.prog 196 #[] w fun e w' => e = .returned (.agg #[.int .i32 (-4194304), .int .i32 (-4194304), .int .i32 4194304, .int .i32 4194304]) ∧ Below w.heap.size w w' := by
 go_enter Tryz.func196, Tryz.ntmps196
 go_wp2
 refine bodyPost_ret (v := .agg #[.int .i32 (-4194304), .int .i32 (-4194304), .int .i32 4194304, .int .i32 4194304]) (by simp [results, Tryz.results196, go_sem]) rfl ⟨rfl, (by repeat (first | exact Below.refl _ _ | (with_reducible assumption) | apply bAlloc | apply below_drewN | apply Below.drew))⟩
theorem yard_nums : padd (-4194304) 262144 = -3932160 ∧ psub 4194304 262144 = 3932160 ∧ rightB (padd (-4194304) 262144) (padd (-4194304) 262144) (psub 4194304 262144) (psub 4194304 262144) = true ∧ F32 (-4194304) ∧ F32 4194304 ∧ F32 262144 := by
 refine ⟨by decide, by decide, by decide, ?_, ?_, ?_⟩ <;> (unfold F32; omega)
theorem gyard_any (w : World) : Calls Tryz.prog 237 #[] w fun e w' => e = .returned (.agg #[.int .i32 (-3932160), .int .i32 (-3932160), .int .i32 3932160, .int .i32 3932160]) ∧ Below w.heap.size w w' := by
 obtain ⟨e1, e2, e3, f1, f2, f3⟩ := yard_nums
 have E1 := zz e1
 have E2 := zz e2
 have E3 := zz e3
 clear e1 e2 e3
 go_enter Tryz.func237, Tryz.ntmps237
 go_wp2_with fail
 refine (garena_any _).mono ?_
 rintro e w1 ⟨rfl, k1⟩
 have HR := zz (Blk.on (g := w.heap.size) (E := 273) (cs := #[.int .i32 0, .int .i32 0, .int .i32 0, .int .i32 0]) (by repeat (first | ((with_reducible refine blk_new_at ?_); first | rfl | (simp; done)) | (with_reducible refine Blk.alloc ?_ _) | (with_reducible refine Blk.drew ?_))) k1)
 have hb1 : Below w.heap.size w w1 := (by repeat (first | exact Below.refl _ _ | (with_reducible assumption) | apply bAlloc | apply below_drewN | apply Below.drew | (refine bSetG ?_ (by first | omega | (simp; omega)) _ _) | (refine bTrans ?_ (by with_reducible assumption))))
 have HB1 := zz hb1
 clear k1 hb1
 go_wp2_with fail
 refine (sShrink_any f1 f1 f2 f2 f3 E3.out _).mono ?_
 rw [E1.out, E2.out]
 rintro e w2 ⟨rfl, k2⟩
 have hb2 : Below w.heap.size w w2 := bTrans HB1.out k2
 have r := HR.out.on k2
 have ra := r.cell 0
 have rb := r.cell 1
 have rc := r.cell 2
 have rd := r.cell 3
 have re := r.frozen 0
 have rf := r.frozen 1
 have rg := r.frozen 2
 have rh := r.frozen 3
 have rl := r.lt
 simp only [zA, zB, zC] at ra rb rc rd
 clear r k2 HR HB1
 go_wp2
 refine bodyPost_ret (v := .agg #[.int .i32 (-3932160), .int .i32 (-3932160), .int .i32 3932160, .int .i32 3932160]) (by simp [results, Tryz.results237, go_sem, ra, rb, rc, rd, rl]) rfl ⟨rfl, (by repeat (first | exact Below.refl _ _ | (with_reducible assumption) | apply bAlloc | apply below_drewN | apply Below.drew | (refine bSetG ?_ (by first | omega | (simp; omega)) _ _) | (refine bTrans ?_ (by with_reducible assumption))))⟩
theorem gpressed_any (n : Nat) (b : Nat) (hn : n < 256) (hb : b < 256) (w : World) : Calls Tryz.prog 190 #[.int .u8 n, .int .u8 b] w fun e w' => e = .returned (.bool (n &&& b != 0)) ∧ w = w' := by
 have hbits : bits .and .u8 (n : Int) (b : Int) = ((n &&& b : Nat) : Int) := (bits_nat .u8 8 (by decide) (fun m h0 h1 => by rw [IntKind.wrap_u8]; omega) n b (by simpa using hn) (by simpa using hb)).1
 obtain ⟨q, hq⟩ : ∃ q, n &&& b = q := ⟨_, rfl⟩
 rw [hq] at hbits ⊢
 clear hq
 go_enter Tryz.func190, Tryz.ntmps190
 go_wp2
 go_ret
 refine ⟨ret_bool ?_, rfl⟩
 first
  | rfl
  | (rw [Bool.eq_iff_iff, bne_iff_ne, bne_iff_ne]; omega)
def hdX (a l : Int) : Int := fmul (sinZ (a + 16384)) l
def hdY (a l : Int) : Int := fmul (sinZ a) l
theorem hdX_bd (a l : Int) : F32 (hdX a l) := fmul_bd _ _
theorem hdY_bd (a l : Int) : F32 (hdY a l) := fmul_bd _ _
theorem gheading_any (a l : Int) (hl : F32 l) (w : World) : Calls Tryz.prog 240 #[.int .i64 a, .int .i32 l] w fun e w' => e = .returned (.agg #[.int .i32 (hdX a l), .int .i32 (hdY a l)]) ∧ Below w.heap.size w w' := by
 have h1 := zz (show fmul (sinZ (a + 16384)) l = hdX a l from rfl)
 have h2 := zz (show fmul (sinZ a) l = hdY a l from rfl)
 have HL := zz hl
 clear hl
 go_enter Tryz.func240, Tryz.ntmps240
 go_wp2_with fail
 refine (tCos_any _ _).mono ?_
 rintro e w1 ⟨rfl, rfl⟩
 go_wp2_with fail
 refine (tSin_any _ _).mono ?_
 rintro e w1 ⟨rfl, rfl⟩
 go_wp2_with fail
 refine (sScale_any (sinZ_f32 _) (sinZ_f32 _) HL.out _).mono ?_
 rw [h1.out, h2.out]
 rintro e w1 ⟨rfl, k1⟩
 have r := (Blk.on (g := w.heap.size) (E := 33) (cs := #[.int .i32 0, .int .i32 0]) (by repeat (first | ((with_reducible refine blk_new_at ?_); first | rfl | (simp; done)) | (with_reducible refine Blk.alloc ?_ _) | (with_reducible refine Blk.drew ?_))) k1)
 have ra := r.cell 0
 have rb := r.cell 1
 have rc := r.frozen 0
 have rd := r.frozen 1
 have rl := r.lt
 simp only [zA, zB, zC] at ra rb
 clear r
 go_wp2
 refine bodyPost_ret (v := .agg #[.int .i32 (hdX a l), .int .i32 (hdY a l)]) (by simp [results, Tryz.results240, go_sem, ra, rb]) rfl ⟨rfl, (by repeat (first | exact Below.refl _ _ | (with_reducible assumption) | apply bAlloc | apply below_drewN | apply Below.drew | (refine bSetG ?_ (by first | omega | (simp; omega)) _ _) | (refine bTrans ?_ (by with_reducible assumption))))⟩
theorem own_caps {α : Type} {w : World} {base : Nat} {E : TypeId} {m : Nat} {f : α → List Value} {l : List α} {g n c : Nat} (h : OwnL w base E m (.slice (some ⟨g, 0, none⟩) n c) f l) : n ≤ c ∧ c ≤ 9223372036854775807 := by
 have hl := h.len
 rcases h.2 with ⟨e, -⟩ | ⟨g', cap, cur, hv, hb, hg, hn, hc, hs, ht⟩
 ·cases e
 ·simp only [Value.slice.injEq, Option.some.injEq, Addr.mk.injEq, and_true] at hv
  obtain ⟨rfl, -, rfl⟩ := hv
  unfold maxLen at hc
  omega
theorem evOk_ord {x : Ev} {F o : Int} (h : evOk (x.at_ F 0) = true) (ho : 0 ≤ o ∧ o ≤ 15) : evOk (x.at_ F o) = true := by
 unfold evOk keyOk at h ⊢
 simp only [Ev.at_, Ev.key, Bool.and_eq_true] at h ⊢
 exact ⟨⟨⟨⟨⟨⟨⟨⟨h.1.1.1.1.1.1.1.1, h.1.1.1.1.1.1.1.2⟩, h.1.1.1.1.1.1.2⟩, inB_ok ho⟩, h.1.1.1.1.2⟩, h.1.1.1.2⟩, h.1.1.2⟩, h.1.2⟩, h.2⟩
section
variable {g gp base : Nat} {S : Nat → Int} {F : Int} {L : List Ev} (em kd au ga pr ln x : Int) {w : World}
theorem gtell_any (h : Stg w g gp base S F L) (hx : F32 x) (hok : evOk ((evT em kd au ga pr ln x).at_ F 0) = true) (hn : L.length < 64) (hr : cntE L em kd ≤ 15) :
  Calls Tryz.prog 193 #[.pointer (some ⟨g, 0, none⟩), .int .i64 em, .int .i64 kd, .int .i64 au, .int .i64 ga, .int .i64 pr, .int .i64 ln, .int .i32 x] w fun e w' => e = .returned (.tuple #[]) ∧ Stg w' g gp base S F (addE F L (evT em kd au ga pr ln x)) ∧ Below base w w' := by
 obtain ⟨A, n, c, hP, hA, hnc, hcm⟩ := h.pg
 have hln := hA.len
 have HADD : ∀ W, W = w → Calls Tryz.prog 246 #[.pointer (some ⟨gp, 0, none⟩), (evT em kd au ga pr ln x).val] W fun e w' => (∃ r, e = .returned r) ∧ Stg w' g gp base S F (addE F L (evT em kd au ga pr ln x)) ∧ Below base w w' := by
  rintro W rfl
  refine (page_add gp F A n c L (evT em kd au ga pr ln x) base W h.bw h.bp hP hA (by omega) hnc hcm h.ok hok hr).mono ?_
  rintro e w' ⟨g', c', rfl, h1, h2, h3, h4, h5⟩
  have hgo : (Value.slice A n c).ownBlock ≠ some g := Blk.apart h.st hA (by decide)
  refine ⟨⟨_, rfl⟩, ⟨(h4 g (Blk.lt h.st) h.ne hgo).trans h.st, ⟨_, _, c', h1, h2, ?_, ?_⟩, h.ok.add _ ?_, h.bg, h.bp, Nat.le_trans h.bw h3.size⟩, h3⟩
  ·exact (own_caps h2).1
  ·exact (own_caps h2).2
  ·exact evOk_ord hok ⟨by omega, by show ((cntE L em kd : Nat) : Int) ≤ 15; omega⟩
 have c60 := h.st.page
 have hlt := h.lt
 obtain ⟨x1, x2⟩ := hx
 obtain ⟨q, hq⟩ : ∃ q, x * 32768 / 4194304 = q := ⟨_, rfl⟩
 have hpan : panZ em x = if 0 < em then max (-32768) (min q 32768) else 0 := by unfold panZ; rw [hq]
 obtain ⟨X, hX⟩ : ∃ X, evT em kd au ga pr ln x = X := ⟨_, rfl⟩
 rw [hX] at HADD ⊢
 have hXv : X.val = .agg #[.int .i64 0, .int .i64 em, .int .i64 kd, .int .i64 0, .int .i64 au, .int .i64 ga, .int .i64 (panZ em x), .int .i64 pr, .int .i64 ln] := by rw [← hX]; rfl
 rw [hXv, hpan] at HADD
 clear h hP hA hnc hcm hln hok hn hr hX hXv hpan
 by_cases h0 : 0 < em
 ·rw [if_pos h0] at HADD
  have HA2 := zz HADD
  clear HADD
  go_enter Tryz.func193, Tryz.ntmps193
  go_wp2_with fail
  refine (HA2.out w rfl).mono ?_
  rintro e w2 ⟨⟨r, rfl⟩, hs, hb⟩
  have HSS := zz hs
  have HBB := zz hb
  clear hs hb
  go_wp2
  go_end0
  exact ⟨rfl, HSS.out, HBB.out⟩
 ·rw [if_neg h0] at HADD
  have h1 : em ≤ 0 := by omega
  have HA2 := zz HADD
  clear h0 HADD
  go_enter Tryz.func193, Tryz.ntmps193
  go_wp2_with fail
  refine (HA2.out w rfl).mono ?_
  rintro e w2 ⟨⟨r, rfl⟩, hs, hb⟩
  have HSS := zz hs
  have HBB := zz hb
  clear hs hb
  go_wp2
  go_end0
  exact ⟨rfl, HSS.out, HBB.out⟩
end
end
end Go.Proofs.YtibeihcpehikoaaGreat
