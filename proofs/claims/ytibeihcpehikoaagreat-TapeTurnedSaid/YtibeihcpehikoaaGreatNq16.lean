/-
  The walks beneath: Dice, State.
-/
import Derived.Laws.Bits64b
import Derived.Test.YtibeihcpehikoaaGreatNq9
import Derived.Test.YtibeihcpehikoaaGreatNq8
import Derived.Test.YtibeihcpehikoaaGreatNq5
import Derived.Test.YtibeihcpehikoaaGreatNq15
namespace Go.Proofs.YtibeihcpehikoaaGreat
open Go.RowKit
set_option maxRecDepth 100000
def U32 (n : Int) : Prop := 0 ≤ n ∧ n ≤ 4294967295
def nextZ (s : Int) : Int := (1664525 * s + 1013904223) % 4294967296
theorem nextZ_bd (s : Int) : U32 (nextZ s) := by unfold nextZ U32; omega
def throwZ (s n : Int) : Int := nextZ s / 65536 * n / 65536
set_option maxHeartbeats 1000000 in
theorem dof_any (s : Int) (w : World) (h : U32 s) : Calls Tryz.prog 308 #[.agg #[.int .u32 1664525, .int .u32 1013904223], .int .u32 s] w fun e w' => e = .returned (.int .u32 (nextZ s)) ∧ Below w.heap.size w w' := by
  obtain ⟨h1, h2⟩ := h
  go_enter Tryz.func308, Tryz.ntmps308
  go_wp2
  go_ret
  exact ⟨ret_int (by unfold nextZ; omega), (by repeat (first | exact Below.refl _ _ | (with_reducible assumption) | apply bAlloc | apply below_drewN | apply Below.drew))⟩
set_option maxHeartbeats 1000000 in
theorem dNext_any (s : Int) (w : World) (h : U32 s) : Calls Tryz.prog 280 #[.int .u32 s] w fun e w' => e = .returned (.int .u32 (nextZ s)) ∧ Below w.heap.size w w' := by
  go_enter Tryz.func280, Tryz.ntmps280
  go_wp2_with fail
  refine (dof_any _ _ h).mono ?_
  rintro e w1 ⟨rfl, k1⟩
  go_wp2
  go_ret
  exact ⟨rfl, k1⟩
set_option maxHeartbeats 1000000 in
theorem r09Next_any (s : Int) (w : World) (h : U32 s) : Calls Tryz.prog 255 #[.int .u32 s] w fun e w' => e = .returned (.int .u32 (nextZ s)) ∧ w = w' := by
  obtain ⟨h1, h2⟩ := h
  go_enter Tryz.func255, Tryz.ntmps255
  go_wp2
  go_ret
  exact ⟨ret_int (by unfold nextZ; omega), rfl⟩
theorem bits_xor_u32_nat (a b : Nat) (ha : a < 4294967296) (hb : b < 4294967296) : bits .xor .u32 (a : Int) (b : Int) = ((a ^^^ b : Nat) : Int) := by
  have h1 : (BitVec.ofInt IntKind.u32.bits (a : Int)).toNat = a := by simp [IntKind.bits]; omega
  have h2 : (BitVec.ofInt IntKind.u32.bits (b : Int)).toNat = b := by simp [IntKind.bits]; omega
  have h3 : a ^^^ b < 2 ^ 32 := Nat.xor_lt_two_pow (by simpa using ha) (by simpa using hb)
  unfold bits
  simp only
  rw [BitVec.toNat_xor, h1, h2, IntKind.wrap_u32]
  omega
theorem throw_num (s n : Int) (h0 : 1 ≤ n) (h1 : n ≤ 65536) : 0 ≤ nextZ s / 65536 * n ∧ nextZ s / 65536 * n ≤ 4294901760 ∧ 0 ≤ throwZ s n ∧ throwZ s n < n := by
  have hb := nextZ_bd s
  unfold U32 at hb
  obtain ⟨q, hq⟩ : ∃ q, nextZ s / 65536 = q := ⟨_, rfl⟩
  have h2 : 0 ≤ q ∧ q ≤ 65535 := by omega
  have h3 : 0 ≤ q * n := Int.mul_nonneg h2.1 (by omega)
  have h4 : q * n ≤ 65535 * n := Int.mul_le_mul_of_nonneg_right h2.2 (by omega)
  unfold throwZ
  rw [hq]
  refine ⟨h3, by omega, Int.ediv_nonneg h3 (by omega), ?_⟩
  omega
set_option maxHeartbeats 1000000 in
theorem dThrow_any (s n : Int) (w : World) (h : U32 s) (h0 : 1 ≤ n) (h1 : n ≤ 65536) : Calls Tryz.prog 238 #[.int .u32 s, .int .i64 n] w fun e w' => e = .returned (.tuple #[.int .u32 (nextZ s), .int .i64 (throwZ s n), .int .i64 0]) ∧ Below w.heap.size w w' := by
  have ht := throw_num s n h0 h1
  have hb := nextZ_bd s
  have e : throwZ s n = nextZ s / 65536 * n / 65536 := rfl
  rw [e]
  have HH := Lib.hid h
  obtain ⟨x, hx⟩ : ∃ x, nextZ s = x := ⟨_, rfl⟩
  rw [hx] at ht hb ⊢
  obtain ⟨b1, b2⟩ := hb
  obtain ⟨t1, t2, -⟩ := ht
  obtain ⟨q, hq⟩ : ∃ q, x / 65536 * n = q := ⟨_, rfl⟩
  rw [hq] at t1 t2 ⊢
  have HX := Lib.hid hx
  have hwr : IntKind.i64.wrap (x / 65536 * n) = q := by rw [hq, IntKind.wrap_i64]; omega
  have hq' : x / 65536 * n = q := hq
  clear h hx e hq
  go_enter Tryz.func238, Tryz.ntmps238
  go_wp2_with fail
  refine (dNext_any _ _ HH.out).mono ?_
  rw [HX.out]
  rintro e w1 ⟨rfl, k1⟩
  go_wp2
  go_ret3
  exact ⟨rfl, k1⟩
set_option maxHeartbeats 1000000 in
theorem r09Throw_any (s n : Int) (w : World) (h : U32 s) (h0 : 1 ≤ n) (h1 : n ≤ 65536) : Calls Tryz.prog 210 #[.int .u32 s, .int .i64 n] w fun e w' => e = .returned (.tuple #[.int .u32 (nextZ s), .int .i64 (throwZ s n)]) ∧ w = w' := by
  have ht := throw_num s n h0 h1
  have hb := nextZ_bd s
  have e : throwZ s n = nextZ s / 65536 * n / 65536 := rfl
  rw [e]
  have HH := Lib.hid h
  obtain ⟨x, hx⟩ : ∃ x, nextZ s = x := ⟨_, rfl⟩
  rw [hx] at ht hb ⊢
  obtain ⟨b1, b2⟩ := hb
  obtain ⟨t1, t2, -⟩ := ht
  obtain ⟨q, hq⟩ : ∃ q, x / 65536 * n = q := ⟨_, rfl⟩
  rw [hq] at t1 t2 ⊢
  have HX := Lib.hid hx
  have hwr : IntKind.u64.wrap (x / 65536 * n) = q := by rw [hq, IntKind.wrap_u64]; omega
  have hq' : x / 65536 * n = q := hq
  clear h hx e hq
  go_enter Tryz.func210, Tryz.ntmps210
  go_wp2_with fail
  refine (r09Next_any _ _ HH.out).mono ?_
  rw [HX.out]
  rintro e w1 ⟨rfl, rfl⟩
  go_wp2
  go_ret2
  exact ⟨rfl, rfl⟩
end Go.Proofs.YtibeihcpehikoaaGreat

namespace Go.Proofs.YtibeihcpehikoaaGreat
open Go.RowKit
set_option maxRecDepth 100000

/-- Frame, Dice, Round, Left; of each player (at 4 + i * 10) At, Way, Facing, Hp, Cool, Wind, Down, Score; of each shot (at 24 + k * 6) At, Way, Owner, Life. -/
def kdS (i : Nat) : IntKind := if i = 1 then .u32 else if (4 ≤ i ∧ i < 8) ∨ (14 ≤ i ∧ i < 18) ∨ (24 ≤ i ∧ (i - 24) % 6 < 4) then .i32 else .i64
def kdP (j : Nat) : IntKind := if j < 4 then .i32 else .i64
theorem kdS_p (i j : Nat) (hi : i < 2) (hj : j < 10) : kdS (4 + i * 10 + j) = kdP j := by
  unfold kdS kdP
  rw [if_neg (by omega)]
  by_cases h : j < 4
  · rw [if_pos (by omega), if_pos h]
  · rw [if_neg (by omega), if_neg h]
theorem kdS_s (k j : Nat) (hj : j < 6) : kdS (24 + k * 6 + j) = kdP j := by
  unfold kdS kdP
  rw [if_neg (by omega)]
  by_cases h : j < 4
  · rw [if_pos (by omega), if_pos h]
  · rw [if_neg (by omega), if_neg h]
def stCells (S : Nat → Int) : List Value := rowOf 60 fun i => Value.int (kdS i) (S i)
def plCells (p : Nat → Int) : List Value := rowOf 10 fun i => Value.int (kdP i) (p i)
theorem stCells_length (S : Nat → Int) : (stCells S).length = 60 := rowOf_length _ _
theorem plCells_length (p : Nat → Int) : (plCells p).length = 10 := rowOf_length _ _
def getP (S : Nat → Int) (i : Nat) : Nat → Int := fun j => S (4 + i * 10 + j)
def putP (S : Nat → Int) (i : Nat) (p : Nat → Int) : Nat → Int := fun j => if 4 + i * 10 ≤ j ∧ j < 4 + i * 10 + 10 then p (j - (4 + i * 10)) else S j
theorem putP_at (S : Nat → Int) (i : Nat) (p : Nat → Int) (j : Nat) (hj : j < 10) : putP S i p (4 + i * 10 + j) = p j := by
  unfold putP; rw [if_pos (by omega)]; congr 1; omega
theorem putP_other (S : Nat → Int) (i : Nat) (p : Nat → Int) (j : Nat) (hj : j < 4 + i * 10 ∨ 4 + i * 10 + 10 ≤ j) : putP S i p j = S j := by
  unfold putP; rw [if_neg (by omega)]
theorem upd_putP (S : Nat → Int) (i : Nat) (p : Nat → Int) (j : Nat) (v : Int) (hj : j < 10) : upd (putP S i p) (4 + i * 10 + j) v = putP S i (upd p j v) := by
  funext k
  by_cases h : k = 4 + i * 10 + j
  · subst h; rw [upd_same, putP_at S i _ j hj, upd_same]
  · rw [upd_other _ _ _ _ h]
    unfold putP
    by_cases h2 : 4 + i * 10 ≤ k ∧ k < 4 + i * 10 + 10
    · rw [if_pos h2, if_pos h2, upd_other _ _ _ _ (by omega)]
    · rw [if_neg h2, if_neg h2]
theorem putP_get (S : Nat → Int) (i : Nat) : putP S i (getP S i) = S := by
  funext k
  unfold putP getP
  split
  · congr 1; omega
  · rfl
def StBlk (w : World) (g gp : Nat) (S : Nat → Int) : Prop := Blk w g 201 (stCells S ++ [Value.pointer (some ⟨gp, 0, none⟩)]).toArray
section
variable {w w' : World} {g gp : Nat} {S : Nat → Int}
theorem StBlk.cell (h : StBlk w g gp S) (i : Nat) (hi : i < 60) : w.cell? ⟨g, i, none⟩ = some (.int (kdS i) (S i)) := by
  rw [Blk.cell h i, List.getElem?_toArray, List.getElem?_append_left (by rw [stCells_length]; exact hi)]
  simp [stCells, rowOf, hi]
theorem StBlk.page (h : StBlk w g gp S) : w.cell? ⟨g, 60, none⟩ = some (.pointer (some ⟨gp, 0, none⟩)) := by
  rw [Blk.cell h 60, List.getElem?_toArray, List.getElem?_append_right (by rw [stCells_length]; exact Nat.le_refl _), stCells_length]; rfl
theorem StBlk.frozen (h : StBlk w g gp S) (i : Nat) : w.frozen? ⟨g, i, none⟩ = false := Blk.frozen h i
theorem StBlk.set (h : StBlk w g gp S) (i : Nat) (hi : i < 60) {k : IntKind} (hk : kdS i = k) (v : Int) : StBlk (w.setCell ⟨g, i, none⟩ (.int k v)) g gp (upd S i v) := by
  have := Blk.set h i (.int k v)
  unfold StBlk
  have e : (stCells (upd S i v) ++ [Value.pointer (some ⟨gp, 0, none⟩)]).toArray = ((stCells S ++ [Value.pointer (some ⟨gp, 0, none⟩)]).toArray).setIfInBounds i (.int k v) := by
    apply Array.ext'
    simp only [Array.toList_setIfInBounds]
    rw [List.set_append_left _ _ (by rw [stCells_length]; exact hi)]
    congr 1
    unfold stCells
    rw [rowOf_set]
    refine rowOf_congr fun j _ => ?_
    unfold upd
    by_cases hj : j = i
    · subst hj; rw [if_pos rfl, if_pos rfl, hk]
    · rw [if_neg hj, if_neg hj]
  rw [e]
  exact this
end
def panZ (em x : Int) : Int := if 0 < em then max (-32768) (min (x * 32768 / 4194304) 32768) else 0
theorem panZ_bd (em x : Int) : -32768 ≤ panZ em x ∧ panZ em x ≤ 32768 := by unfold panZ; split <;> omega
/-- An event of the game, heard from where it is. -/
def evT (em kd au ga pr ln x : Int) : Ev := ⟨0, em, kd, 0, au, ga, panZ em x, pr, ln⟩
theorem inB_ok {n lo hi : Int} (h : lo ≤ n ∧ n ≤ hi) : inB n lo hi = true := decide_eq_true h
theorem evT_ok (F em kd au ga pr ln x : Int) (hF : 0 ≤ F ∧ F ≤ 1073741824) (h1 : 0 ≤ em ∧ em ≤ 2) (h2 : 1 ≤ kd ∧ kd ≤ 9) (h3 : 0 ≤ au ∧ au ≤ 31) (h4 : 0 ≤ ga ∧ ga ≤ 32768) (h5 : 0 ≤ pr ∧ pr ≤ 15) (h6 : 0 ≤ ln ∧ ln ≤ 600) (o : Int) (ho : 0 ≤ o ∧ o ≤ 15) : evOk ((evT em kd au ga pr ln x).at_ F o) = true := by
  have hp := panZ_bd em x
  unfold evOk keyOk
  simp only [Ev.at_, evT, Ev.key, inB_ok hF, inB_ok h1, inB_ok h2, inB_ok h3, inB_ok h4, inB_ok h5, inB_ok h6, inB_ok hp, inB_ok ho, Bool.and_self]
structure Stg (w : World) (g gp base : Nat) (S : Nat → Int) (F : Int) (L : List Ev) : Prop where
  st : StBlk w g gp S
  pg : ∃ A n c, Blk w gp 265 #[.int .i64 F, .slice A n c] ∧ OwnL w base 62 9 (.slice A n c) Ev.cells L ∧ n ≤ c ∧ c ≤ 9223372036854775807
  ok : PageOk F L
  bg : base ≤ g
  bp : base ≤ gp
  bw : base ≤ w.heap.size
section
variable {w w' : World} {g gp base : Nat} {S : Nat → Int} {F : Int} {L : List Ev}
theorem Stg.ne (h : Stg w g gp base S F L) : g ≠ gp := by
  rintro rfl
  obtain ⟨A, n, c, hp, -⟩ := h.pg
  have h1 := h.st
  unfold StBlk at h1
  unfold Blk at h1 hp
  rw [h1] at hp
  injection hp with hp
  injection hp with _ ht
  exact absurd ht (by decide)
theorem Stg.drew (h : Stg w g gp base S F L) : Stg w.drew g gp base S F L := ⟨h.st, h.pg, h.ok, h.bg, h.bp, h.bw⟩
theorem Stg.on (h : Stg w g gp base S F L) (hb : Below w.heap.size w w') : Stg w' g gp base S F L := by
  obtain ⟨A, n, c, h1, h2, h3⟩ := h.pg
  exact ⟨Blk.on h.st hb, ⟨A, n, c, h1.on hb, h2.below hb, h3⟩, h.ok, h.bg, h.bp, Nat.le_trans h.bw hb.size⟩
theorem Stg.alloc (h : Stg w g gp base S F L) (o : Obj) : Stg (w.alloc o) g gp base S F L := h.on (bAlloc (Below.refl _ _) _)
theorem Stg.set (h : Stg w g gp base S F L) (i : Nat) (hi : i < 60) {k : IntKind} (hk : kdS i = k) (v : Int) : Stg (w.setCell ⟨g, i, none⟩ (.int k v)) g gp base (upd S i v) F L := by
  obtain ⟨A, n, c, h1, h2, h3⟩ := h.pg
  exact ⟨h.st.set i hi hk v, ⟨A, n, c, h1.farG (fun e => h.ne e.symm) _ _, h2.farG (Blk.apart h.st h2 (by decide)) _ _, h3⟩, h.ok, h.bg, h.bp, by simpa using h.bw⟩
theorem Stg.setP {i : Nat} {p : Nat → Int} (h : Stg w g gp base (putP S i p) F L) (hi : i < 2) (j : Nat) (hj : j < 10) {k : IntKind} (hk : kdP j = k) (v : Int) : Stg (w.setCell ⟨g, 4 + i * 10 + j, none⟩ (.int k v)) g gp base (putP S i (upd p j v)) F L := by
  rw [← upd_putP S i p j v hj]
  exact h.set _ (by omega) (by rw [kdS_p i j hi hj, hk]) v
theorem Stg.cellP {i : Nat} {p : Nat → Int} (h : Stg w g gp base (putP S i p) F L) (hi : i < 2) (j : Nat) (hj : j < 10) {k : IntKind} (hk : kdP j = k) : w.cell? ⟨g, 4 + i * 10 + j, none⟩ = some (.int k (p j)) := by
  rw [h.st.cell _ (by omega), kdS_p i j hi hj, hk, putP_at S i p j hj]
theorem Stg.lt (h : Stg w g gp base S F L) : g < w.heap.size := Blk.lt h.st
end
end Go.Proofs.YtibeihcpehikoaaGreat
