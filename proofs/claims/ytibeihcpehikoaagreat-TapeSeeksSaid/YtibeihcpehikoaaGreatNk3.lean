/-
  The walks beneath: EventSearch, EventAdd.
-/
import Derived.Deep.RegionLaw
import Derived.Test.YtibeihcpehikoaaGreatNk1
namespace Go.Proofs.YtibeihcpehikoaaGreat
open Go.RowKit
set_option maxHeartbeats 1000000
section
def lbK (L : List Ev) (k : Key4) : Nat := (L.takeWhile fun x => decide (cmpK x.key k < 0)).length
theorem lbK_le (L : List Ev) (k : Key4) : lbK L k ≤ L.length := by
 unfold lbK; exact List.Sublist.length_le (List.takeWhile_sublist _)
theorem lb_iff (k : Key4) : ∀ (L : List Ev), SortedE L → ∀ j (h : j < L.length), (j < lbK L k ↔ cmpK L[j].key k < 0)
 | [], _, j, h => by simp at h
 | x :: L, hs, j, h => by
  unfold SortedE at hs
  rw [List.pairwise_cons] at hs
  unfold lbK
  by_cases hx : cmpK x.key k < 0
  ·rw [List.takeWhile_cons_of_pos (by simpa using hx)]
   cases j with
   | zero => simpa using hx
   | succ j =>
    have ih := lb_iff k L hs.2 j (by simpa using h)
    unfold lbK at ih
    simp only [zH, Nat.add_lt_add_iff_right, List.getElem_cons_succ]
    exact ih
  ·rw [List.takeWhile_cons_of_neg (by simpa using hx)]
   cases j with
   | zero => simpa using hx
   | succ j =>
    simp only [zI, Nat.not_lt_zero, List.getElem_cons_succ, false_iff]
    intro hc
    have hj : j < L.length := by simpa using h
    have h1 := hs.1 L[j] (List.getElem_mem hj)
    rw [cmpK_neg] at hc hx
    exact hx (h1.trans hc)
def foundK (L : List Ev) (k : Key4) : Bool := (L[lbK L k]?).any fun x => cmpK x.key k == 0
set_option maxRecDepth 100000 in
theorem bsK_any (A : Option Addr) (c : Nat) (L : List Ev) (k : Key4) (w : World) (hn : L.length ≤ 1000) (hr : Rd w w.heap.size A (L.flatMap Ev.cells)) (hs : SortedE L) :
  Calls Tryz.prog 319 #[.slice A L.length c, k.val, .func (.func 320) #[] #[]] w fun e w' => e = .returned (.tuple #[.int .i64 (lbK L k : Nat), .bool (foundK L k)]) ∧ Below w.heap.size w w' := by
 have HR := zz hr
 have HL := zz (lb_iff k L hs)
 have hlb := lbK_le L k
 clear hr hs
 unfold Key4.val
 go_enter Tryz.func319, Tryz.ntmps319
 go_wp2
 go_loopw [9, 10] (fun vi vj wr => ∃ i j : Nat, i ≤ lbK L k ∧ lbK L k ≤ j ∧ j ≤ L.length ∧ vi = .int .i64 i ∧ vj = .int .i64 j ∧ Blk wr w.heap.size 60 #[.int .i64 k.frame, .int .i64 k.emitter, .int .i64 k.kind, .int .i64 k.ord] ∧ Below w.heap.size w wr) (fun vi vj _ => (intOf vj - intOf vi).toNat)
 case atStart => exact ⟨0, L.length, by omega, hlb, zL _, rfl, rfl, Blk.new _ _ _, bAlloc (Below.refl _ _) _⟩
 case round =>
  obtain ⟨i, j, hi, hj, hjl, rfl, rfl, hblk, hb⟩ := hrel
  have k0 := hblk.cell 0
  have k1 := hblk.cell 1
  have k2 := hblk.cell 2
  have k3 := hblk.cell 3
  simp only [zA, zB, zC] at k0 k1 k2 k3
  by_cases hij : i < j
  ·go_wp2
   obtain ⟨h, hh⟩ : ∃ h : Nat, ((i : Int) + (j : Int)) / 2 = (h : Int) := ⟨(i + j) / 2, by omega⟩
   have h1 : i ≤ h := by omega
   have h2 : h < j := by omega
   have h3 : h < L.length := by omega
   rw [hh]
   clear hh
   obtain ⟨b, off, rfl, hB, e0, e1, e2, e3, e4, e5, e6, e7, e8⟩ := (HR.out.below hb (zL _)).ev h3
   have hl := HL.out h h3
   have HLh := zz hl
   have HBK := zz hblk
   have i1 : (0 : Int) ≤ (h : Int) := Int.natCast_nonneg _
   have i2 : (h : Int) < (L.length : Int) := by omega
   have hbs := hb.size
   have hwl := hblk.lt
   clear hl hblk
   go_region_held3 (fun w' => w'.cell? ⟨b, off + h * 9, none⟩ = some (.int .i64 L[h].frame) ∧ w'.cell? ⟨b, off + h * 9 + 1, none⟩ = some (.int .i64 L[h].emitter) ∧ w'.cell? ⟨b, off + h * 9 + 2, none⟩ = some (.int .i64 L[h].kind) ∧ w'.cell? ⟨b, off + h * 9 + 3, none⟩ = some (.int .i64 L[h].ord) ∧
     w'.cell? ⟨b, off + h * 9 + 4, none⟩ = some (.int .i64 L[h].asset) ∧ w'.cell? ⟨b, off + h * 9 + 5, none⟩ = some (.int .i64 L[h].gain) ∧ w'.cell? ⟨b, off + h * 9 + 6, none⟩ = some (.int .i64 L[h].pan) ∧ w'.cell? ⟨b, off + h * 9 + 7, none⟩ = some (.int .i64 L[h].prio) ∧ w'.cell? ⟨b, off + h * 9 + 8, none⟩ = some (.int .i64 L[h].len) ∧
     w'.cell? ⟨w.heap.size, 0, none⟩ = some (.int .i64 k.frame) ∧ w'.cell? ⟨w.heap.size, 1, none⟩ = some (.int .i64 k.emitter) ∧ w'.cell? ⟨w.heap.size, 2, none⟩ = some (.int .i64 k.kind) ∧ w'.cell? ⟨w.heap.size, 3, none⟩ = some (.int .i64 k.ord))
    (first | go_keep | (go_split_ands; refine ⟨?_, ?_, ?_, ?_, ?_, ?_, ?_, ?_, ?_, ?_, ?_, ?_, ?_⟩ <;> (rw [hb4.cell (by simp; omega)]; assumption)))
    (first
     | (go_at_call 320; refine (findC_any L[h] k _).mono ?_; rintro e w4 ⟨rfl, hb4⟩))
   have hb5 : Below w.heap.size w w4 := hb.drew.trans (hb4.mono hbs)
   have hbk5 : Hid (Blk w4 w.heap.size 60 #[.int .i64 k.frame, .int .i64 k.emitter, .int .i64 k.kind, .int .i64 k.ord]) := HBK.out.drew.on hb4
   by_cases hc : cmpK L[h].key k < 0
   ·have hlt := HLh.out.2 hc
    go_wp2
    go_roundw
    case rel => exact ⟨h + 1, j, by omega, by omega, by omega, by go_num, rfl, hbk5.out, hb5⟩
    case measure => simp [intOf]; omega
   ·have hlt : ¬ h < lbK L k := fun e => hc (HLh.out.1 e)
    go_wp2
    go_roundw
    case rel => exact ⟨i, h, by omega, by omega, by omega, rfl, rfl, hbk5.out, hb5⟩
    case measure => simp [intOf]; omega
  ·obtain rfl : i = lbK L k := by omega
   obtain rfl : j = lbK L k := by omega
   have HBK := zz hblk
   clear hblk
   by_cases hin : lbK L k < L.length
   ·obtain ⟨b, off, rfl, hB, e0, e1, e2, e3, e4, e5, e6, e7, e8⟩ := (HR.out.below hb (zL _)).ev hin
    have hf : foundK L k = (cmpK L[lbK L k].key k == 0) := by simp [foundK, List.getElem?_eq_getElem hin]
    have HF := zz hf
    clear hf
    have hd : decide (lbK L k < L.length) = true := by simpa using hin
    have i1 : (0 : Int) ≤ (lbK L k : Int) := Int.natCast_nonneg _
    have i2 : (lbK L k : Int) < (L.length : Int) := by omega
    have hbs := hb.size
    have hwl := HBK.out.lt
    go_wp2
    go_region_held3 (fun w' => w'.cell? ⟨b, off + lbK L k * 9, none⟩ = some (.int .i64 L[lbK L k].frame) ∧ w'.cell? ⟨b, off + lbK L k * 9 + 1, none⟩ = some (.int .i64 L[lbK L k].emitter) ∧ w'.cell? ⟨b, off + lbK L k * 9 + 2, none⟩ = some (.int .i64 L[lbK L k].kind) ∧ w'.cell? ⟨b, off + lbK L k * 9 + 3, none⟩ = some (.int .i64 L[lbK L k].ord) ∧
      w'.cell? ⟨b, off + lbK L k * 9 + 4, none⟩ = some (.int .i64 L[lbK L k].asset) ∧ w'.cell? ⟨b, off + lbK L k * 9 + 5, none⟩ = some (.int .i64 L[lbK L k].gain) ∧ w'.cell? ⟨b, off + lbK L k * 9 + 6, none⟩ = some (.int .i64 L[lbK L k].pan) ∧ w'.cell? ⟨b, off + lbK L k * 9 + 7, none⟩ = some (.int .i64 L[lbK L k].prio) ∧ w'.cell? ⟨b, off + lbK L k * 9 + 8, none⟩ = some (.int .i64 L[lbK L k].len) ∧
      w'.cell? ⟨w.heap.size, 0, none⟩ = some (.int .i64 k.frame) ∧ w'.cell? ⟨w.heap.size, 1, none⟩ = some (.int .i64 k.emitter) ∧ w'.cell? ⟨w.heap.size, 2, none⟩ = some (.int .i64 k.kind) ∧ w'.cell? ⟨w.heap.size, 3, none⟩ = some (.int .i64 k.ord))
     (first | go_keep | (go_split_ands; refine ⟨?_, ?_, ?_, ?_, ?_, ?_, ?_, ?_, ?_, ?_, ?_, ?_, ?_⟩ <;> (rw [hb4.cell (by simp; omega)]; assumption)))
     (first
      | (go_at_call 320; refine (findC_any L[lbK L k] k _).mono ?_; rintro e w4 ⟨rfl, hb4⟩))
    go_wp2
    go_ret2
    exact ⟨by rw [HF.out]; rfl, hb.drew.trans (hb4.mono hbs)⟩
   ·have hf : foundK L k = false := by unfold foundK; rw [List.getElem?_eq_none (by omega)]; rfl
    have HF := zz hf
    have hd : decide (lbK L k < L.length) = false := by simpa using hin
    clear hf
    go_wp2
    go_quiet (fail)
    go_wp2
    go_ret2
    exact ⟨by rw [HF.out]; rfl, below_drewN hb _⟩
set_option maxRecDepth 100000 in
theorem bsE_any (A : Option Addr) (c : Nat) (L : List Ev) (x : Ev) (w : World) (hn : L.length ≤ 1000) (hr : Rd w w.heap.size A (L.flatMap Ev.cells)) (hs : SortedE L) :
  Calls Tryz.prog 293 #[.slice A L.length c, x.val, .func (.func 294) #[] #[]] w fun e w' => e = .returned (.tuple #[.int .i64 (lbK L x.key : Nat), .bool (foundK L x.key)]) ∧ Below w.heap.size w w' := by
 have HR := zz hr
 have HL := zz (lb_iff x.key L hs)
 have hlb := lbK_le L x.key
 clear hr hs
 unfold Ev.val
 go_enter Tryz.func293, Tryz.ntmps293
 go_wp2
 go_loopw [9, 10] (fun vi vj wr => ∃ i j : Nat, i ≤ lbK L x.key ∧ lbK L x.key ≤ j ∧ j ≤ L.length ∧ vi = .int .i64 i ∧ vj = .int .i64 j ∧ Blk wr w.heap.size 62 #[.int .i64 x.frame, .int .i64 x.emitter, .int .i64 x.kind, .int .i64 x.ord, .int .i64 x.asset, .int .i64 x.gain, .int .i64 x.pan, .int .i64 x.prio, .int .i64 x.len] ∧ Below w.heap.size w wr) (fun vi vj _ => (intOf vj - intOf vi).toNat)
 case atStart => exact ⟨0, L.length, by omega, hlb, zL _, rfl, rfl, Blk.new _ _ _, bAlloc (Below.refl _ _) _⟩
 case round =>
  obtain ⟨i, j, hi, hj, hjl, rfl, rfl, hblk, hb⟩ := hrel
  have k0 := hblk.cell 0
  have k1 := hblk.cell 1
  have k2 := hblk.cell 2
  have k3 := hblk.cell 3
  have k4 := hblk.cell 4
  have k5 := hblk.cell 5
  have k6 := hblk.cell 6
  have k7 := hblk.cell 7
  have k8 := hblk.cell 8
  simp only [zA, zB, zC] at k0 k1 k2 k3 k4 k5 k6 k7 k8
  by_cases hij : i < j
  ·go_wp2
   obtain ⟨h, hh⟩ : ∃ h : Nat, ((i : Int) + (j : Int)) / 2 = (h : Int) := ⟨(i + j) / 2, by omega⟩
   have h1 : i ≤ h := by omega
   have h2 : h < j := by omega
   have h3 : h < L.length := by omega
   rw [hh]
   clear hh
   obtain ⟨b, off, rfl, hB, e0, e1, e2, e3, e4, e5, e6, e7, e8⟩ := (HR.out.below hb (zL _)).ev h3
   have hl := HL.out h h3
   have HLh := zz hl
   have HBK := zz hblk
   have i1 : (0 : Int) ≤ (h : Int) := Int.natCast_nonneg _
   have i2 : (h : Int) < (L.length : Int) := by omega
   have hbs := hb.size
   have hwl := hblk.lt
   clear hl hblk
   go_region_held3 (fun w' => w'.cell? ⟨b, off + h * 9, none⟩ = some (.int .i64 L[h].frame) ∧ w'.cell? ⟨b, off + h * 9 + 1, none⟩ = some (.int .i64 L[h].emitter) ∧ w'.cell? ⟨b, off + h * 9 + 2, none⟩ = some (.int .i64 L[h].kind) ∧ w'.cell? ⟨b, off + h * 9 + 3, none⟩ = some (.int .i64 L[h].ord) ∧
     w'.cell? ⟨b, off + h * 9 + 4, none⟩ = some (.int .i64 L[h].asset) ∧ w'.cell? ⟨b, off + h * 9 + 5, none⟩ = some (.int .i64 L[h].gain) ∧ w'.cell? ⟨b, off + h * 9 + 6, none⟩ = some (.int .i64 L[h].pan) ∧ w'.cell? ⟨b, off + h * 9 + 7, none⟩ = some (.int .i64 L[h].prio) ∧ w'.cell? ⟨b, off + h * 9 + 8, none⟩ = some (.int .i64 L[h].len) ∧
     w'.cell? ⟨w.heap.size, 0, none⟩ = some (.int .i64 x.frame) ∧ w'.cell? ⟨w.heap.size, 1, none⟩ = some (.int .i64 x.emitter) ∧ w'.cell? ⟨w.heap.size, 2, none⟩ = some (.int .i64 x.kind) ∧ w'.cell? ⟨w.heap.size, 3, none⟩ = some (.int .i64 x.ord) ∧ w'.cell? ⟨w.heap.size, 4, none⟩ = some (.int .i64 x.asset) ∧ w'.cell? ⟨w.heap.size, 5, none⟩ = some (.int .i64 x.gain) ∧ w'.cell? ⟨w.heap.size, 6, none⟩ = some (.int .i64 x.pan) ∧ w'.cell? ⟨w.heap.size, 7, none⟩ = some (.int .i64 x.prio) ∧ w'.cell? ⟨w.heap.size, 8, none⟩ = some (.int .i64 x.len))
    (first | go_keep | (go_split_ands; refine ⟨?_, ?_, ?_, ?_, ?_, ?_, ?_, ?_, ?_, ?_, ?_, ?_, ?_, ?_, ?_, ?_, ?_, ?_⟩ <;> (rw [hb4.cell (by simp; omega)]; assumption)))
    (first
     | (go_at_call 294; refine (order_any L[h] x _).mono ?_; rintro e w4 ⟨rfl, hb4⟩))
   have hb5 : Below w.heap.size w w4 := hb.drew.trans (hb4.mono hbs)
   have hbk5 : Hid (Blk w4 w.heap.size 62 #[.int .i64 x.frame, .int .i64 x.emitter, .int .i64 x.kind, .int .i64 x.ord, .int .i64 x.asset, .int .i64 x.gain, .int .i64 x.pan, .int .i64 x.prio, .int .i64 x.len]) := HBK.out.drew.on hb4
   by_cases hc : cmpK L[h].key x.key < 0
   ·have hlt := HLh.out.2 hc
    go_wp2
    go_roundw
    case rel => exact ⟨h + 1, j, by omega, by omega, by omega, by go_num, rfl, hbk5.out, hb5⟩
    case measure => simp [intOf]; omega
   ·have hlt : ¬ h < lbK L x.key := fun e => hc (HLh.out.1 e)
    go_wp2
    go_roundw
    case rel => exact ⟨i, h, by omega, by omega, by omega, rfl, rfl, hbk5.out, hb5⟩
    case measure => simp [intOf]; omega
  ·obtain rfl : i = lbK L x.key := by omega
   obtain rfl : j = lbK L x.key := by omega
   have HBK := zz hblk
   clear hblk
   by_cases hin : lbK L x.key < L.length
   ·obtain ⟨b, off, rfl, hB, e0, e1, e2, e3, e4, e5, e6, e7, e8⟩ := (HR.out.below hb (zL _)).ev hin
    have hf : foundK L x.key = (cmpK L[lbK L x.key].key x.key == 0) := by simp [foundK, List.getElem?_eq_getElem hin]
    have HF := zz hf
    clear hf
    have hd : decide (lbK L x.key < L.length) = true := by simpa using hin
    have i1 : (0 : Int) ≤ (lbK L x.key : Int) := Int.natCast_nonneg _
    have i2 : (lbK L x.key : Int) < (L.length : Int) := by omega
    have hbs := hb.size
    have hwl := HBK.out.lt
    go_wp2
    go_region_held3 (fun w' => w'.cell? ⟨b, off + lbK L x.key * 9, none⟩ = some (.int .i64 L[lbK L x.key].frame) ∧ w'.cell? ⟨b, off + lbK L x.key * 9 + 1, none⟩ = some (.int .i64 L[lbK L x.key].emitter) ∧ w'.cell? ⟨b, off + lbK L x.key * 9 + 2, none⟩ = some (.int .i64 L[lbK L x.key].kind) ∧ w'.cell? ⟨b, off + lbK L x.key * 9 + 3, none⟩ = some (.int .i64 L[lbK L x.key].ord) ∧
      w'.cell? ⟨b, off + lbK L x.key * 9 + 4, none⟩ = some (.int .i64 L[lbK L x.key].asset) ∧ w'.cell? ⟨b, off + lbK L x.key * 9 + 5, none⟩ = some (.int .i64 L[lbK L x.key].gain) ∧ w'.cell? ⟨b, off + lbK L x.key * 9 + 6, none⟩ = some (.int .i64 L[lbK L x.key].pan) ∧ w'.cell? ⟨b, off + lbK L x.key * 9 + 7, none⟩ = some (.int .i64 L[lbK L x.key].prio) ∧ w'.cell? ⟨b, off + lbK L x.key * 9 + 8, none⟩ = some (.int .i64 L[lbK L x.key].len) ∧
      w'.cell? ⟨w.heap.size, 0, none⟩ = some (.int .i64 x.frame) ∧ w'.cell? ⟨w.heap.size, 1, none⟩ = some (.int .i64 x.emitter) ∧ w'.cell? ⟨w.heap.size, 2, none⟩ = some (.int .i64 x.kind) ∧ w'.cell? ⟨w.heap.size, 3, none⟩ = some (.int .i64 x.ord) ∧ w'.cell? ⟨w.heap.size, 4, none⟩ = some (.int .i64 x.asset) ∧ w'.cell? ⟨w.heap.size, 5, none⟩ = some (.int .i64 x.gain) ∧ w'.cell? ⟨w.heap.size, 6, none⟩ = some (.int .i64 x.pan) ∧ w'.cell? ⟨w.heap.size, 7, none⟩ = some (.int .i64 x.prio) ∧ w'.cell? ⟨w.heap.size, 8, none⟩ = some (.int .i64 x.len))
     (first | go_keep | (go_split_ands; refine ⟨?_, ?_, ?_, ?_, ?_, ?_, ?_, ?_, ?_, ?_, ?_, ?_, ?_, ?_, ?_, ?_, ?_, ?_⟩ <;> (rw [hb4.cell (by simp; omega)]; assumption)))
     (first
      | (go_at_call 294; refine (order_any L[lbK L x.key] x _).mono ?_; rintro e w4 ⟨rfl, hb4⟩))
    go_wp2
    go_ret2
    exact ⟨by rw [HF.out]; rfl, hb.drew.trans (hb4.mono hbs)⟩
   ·have hf : foundK L x.key = false := by unfold foundK; rw [List.getElem?_eq_none (by omega)]; rfl
    have HF := zz hf
    have hd : decide (lbK L x.key < L.length) = false := by simpa using hin
    clear hf
    go_wp2
    go_quiet (fail)
    go_wp2
    go_ret2
    exact ⟨by rw [HF.out]; rfl, below_drewN hb _⟩
def zeroEv : Ev := ⟨0, 0, 0, 0, 0, 0, 0, 0, 0⟩
def findE (L : List Ev) (k : Key4) : Ev := if foundK L k then (L[lbK L k]?).getD zeroEv else zeroEv
set_option maxRecDepth 100000 in
theorem find_any (A : Option Addr) (c : Nat) (L : List Ev) (k : Key4) (w : World) (hn : L.length ≤ 1000) (hr : Rd w w.heap.size A (L.flatMap Ev.cells)) (hs : SortedE L) :
  Calls Tryz.prog 313 #[.slice A L.length c, k.val] w fun e w' => e = .returned (.tuple #[(findE L k).val, .bool (foundK L k)]) ∧ Below w.heap.size w w' := by
 have HR := zz hr
 have HSO := zz hs
 clear hr hs
 have hz : findE L k = if foundK L k then (L[lbK L k]?).getD zeroEv else zeroEv := rfl
 obtain ⟨w0, hw0⟩ : ∃ w0, w0 = (w.alloc (.cells #[.int .i64 k.frame, .int .i64 k.emitter, .int .i64 k.kind, .int .i64 k.ord] 60)).alloc (.cells #[.int .i64 0, .int .i64 0, .int .i64 0, .int .i64 0, .int .i64 0, .int .i64 0, .int .i64 0, .int .i64 0, .int .i64 0] 62) := ⟨_, rfl⟩
 have hb0 : Below w.heap.size w w0 := by rw [hw0]; exact bAlloc (bAlloc (Below.refl _ _) _) _
 have hk0 : Blk w0 (w.heap.size + 1) 62 #[.int .i64 0, .int .i64 0, .int .i64 0, .int .i64 0, .int .i64 0, .int .i64 0, .int .i64 0, .int .i64 0, .int .i64 0] := by
  rw [hw0]
  have := Blk.new (w.alloc (.cells #[.int .i64 k.frame, .int .i64 k.emitter, .int .i64 k.kind, .int .i64 k.ord] 60)) 62 #[.int .i64 0, .int .i64 0, .int .i64 0, .int .i64 0, .int .i64 0, .int .i64 0, .int .i64 0, .int .i64 0, .int .i64 0]
  simpa using this
 have HB0 := zz hb0
 have HK0 := zz hk0
 have HW0 := zz hw0
 have hrd := ((HR.out.below hb0 (zL _)).more hb0.size)
 have HRD := zz hrd
 clear hb0 hk0 hw0 hrd
 cases hf : foundK L k with
 | false =>
  rw [hf] at hz
  simp only [Bool.false_eq_true, if_false] at hz
  rw [hz]
  have HF := zz hf
  clear hf hz
  unfold Key4.val Ev.val zeroEv
  go_enter Tryz.func313, Tryz.ntmps313
  go_wp2_with fail
  rw [← HW0.out]
  refine (bsK_any _ _ L k _ hn HRD.out HSO.out).mono ?_
  rintro e w1 ⟨rfl, hb1⟩
  rw [HF.out]
  have hk1 := HK0.out.on hb1
  obtain ⟨z0, z1, z2, z3, z4, z5, z6, z7, z8⟩ := hk1.ev
  have hfz : ∀ j, w1.frozen? ⟨w.heap.size + 1, j, none⟩ = false := hk1.frozen
  have hl := hk1.lt
  have HK1 := zz hk1
  have HB1 := zz (bTrans HB0.out hb1)
  clear hk1 hb1
  go_wp2
  have hfin := HK1.out.set9 (u0 := .int .i64 0) (u1 := .int .i64 0) (u2 := .int .i64 0) (u3 := .int .i64 0) (u4 := .int .i64 0) (u5 := .int .i64 0) (u6 := .int .i64 0) (u7 := .int .i64 0) (u8 := .int .i64 0)
  obtain ⟨y0, y1, y2, y3, y4, y5, y6, y7, y8⟩ := hfin.ev
  refine bodyPost_ret (v := .tuple #[.agg #[.int .i64 0, .int .i64 0, .int .i64 0, .int .i64 0, .int .i64 0, .int .i64 0, .int .i64 0, .int .i64 0, .int .i64 0], .bool false]) ?_ rfl ⟨rfl, ?_⟩
  ·simp [results, Tryz.results313, go_sem, y0, y1, y2, y3, y4, y5, y6, y7, y8]
  ·have h := HB1.out
   repeat (first | with_reducible exact h | refine bSetG ?_ (by omega) _ _)
 | true =>
  have hin : lbK L k < L.length := by
   rcases Nat.lt_or_ge (lbK L k) L.length with h | h
   ·exact h
   ·rw [foundK, List.getElem?_eq_none h] at hf; cases hf
  rw [hf] at hz
  simp only [if_true, List.getElem?_eq_getElem hin, Option.getD_some] at hz
  rw [hz]
  have HF := zz hf
  clear hf hz
  unfold Key4.val Ev.val
  go_enter Tryz.func313, Tryz.ntmps313
  go_wp2_with fail
  rw [← HW0.out]
  refine (bsK_any _ _ L k _ hn HRD.out HSO.out).mono ?_
  rintro e w1 ⟨rfl, hb1⟩
  rw [HF.out]
  have hk1 := HK0.out.on hb1
  obtain ⟨z0, z1, z2, z3, z4, z5, z6, z7, z8⟩ := hk1.ev
  have hfz : ∀ j, w1.frozen? ⟨w.heap.size + 1, j, none⟩ = false := hk1.frozen
  have hl := hk1.lt
  have HK1 := zz hk1
  have HB1 := zz (bTrans HB0.out hb1)
  obtain ⟨b, off, rfl, hB, e0, e1, e2, e3, e4, e5, e6, e7, e8⟩ := (HR.out.below HB1.out (zL _)).ev hin
  have i2 : (lbK L k : Int) < (L.length : Int) := by omega
  clear hk1 hb1
  go_wp2
  have hfin := HK1.out.set9 (u0 := .int .i64 L[lbK L k].frame) (u1 := .int .i64 L[lbK L k].emitter) (u2 := .int .i64 L[lbK L k].kind) (u3 := .int .i64 L[lbK L k].ord) (u4 := .int .i64 L[lbK L k].asset) (u5 := .int .i64 L[lbK L k].gain) (u6 := .int .i64 L[lbK L k].pan) (u7 := .int .i64 L[lbK L k].prio) (u8 := .int .i64 L[lbK L k].len)
  obtain ⟨y0, y1, y2, y3, y4, y5, y6, y7, y8⟩ := hfin.ev
  refine bodyPost_ret (v := .tuple #[.agg #[.int .i64 L[lbK L k].frame, .int .i64 L[lbK L k].emitter, .int .i64 L[lbK L k].kind, .int .i64 L[lbK L k].ord, .int .i64 L[lbK L k].asset, .int .i64 L[lbK L k].gain, .int .i64 L[lbK L k].pan, .int .i64 L[lbK L k].prio, .int .i64 L[lbK L k].len], .bool true]) ?_ rfl ⟨rfl, ?_⟩
  ·simp [results, Tryz.results313, go_sem, y0, y1, y2, y3, y4, y5, y6, y7, y8]
  ·have h := HB1.out
   repeat (first | with_reducible exact h | refine bSetG ?_ (by omega) _ _)
set_option maxRecDepth 100000 in
theorem has_any (A : Option Addr) (c : Nat) (L : List Ev) (k : Key4) (w : World) (hn : L.length ≤ 1000) (hr : Rd w w.heap.size A (L.flatMap Ev.cells)) (hs : SortedE L) :
  Calls Tryz.prog 292 #[.slice A L.length c, k.val] w fun e w' => e = .returned (.bool (foundK L k)) ∧ Below w.heap.size w w' := by
 have HR := zz hr
 have HSO := zz hs
 clear hr hs
 unfold Key4.val
 have hb0 : Below w.heap.size w (w.alloc (.cells #[.int .i64 k.frame, .int .i64 k.emitter, .int .i64 k.kind, .int .i64 k.ord] 60)) := bAlloc (Below.refl _ _) _
 have HB0 := zz hb0
 clear hb0
 go_enter Tryz.func292, Tryz.ntmps292
 go_wp2_with fail
 refine (find_any _ _ L k _ hn ((HR.out.below HB0.out (zL _)).more HB0.out.size) HSO.out).mono ?_
 rintro e w1 ⟨rfl, hb1⟩
 unfold Ev.val
 go_wp2
 go_ret
 exact ⟨rfl, bAlloc (bTrans HB0.out hb1) _⟩
end
section
theorem has_at (A : Option Addr) (n c : Nat) (L : List Ev) (k : Key4) (w : World) (hl : n = L.length) (hn : n ≤ 1000) (hr : Rd w w.heap.size A (L.flatMap Ev.cells)) (hs : SortedE L) :
  Calls Tryz.prog 292 #[.slice A n c, k.val] w fun e w' => e = .returned (.bool (foundK L k)) ∧ Below w.heap.size w w' := by
 subst hl; exact has_any A c L k w hn hr hs
theorem bsE_at (A : Option Addr) (n c : Nat) (L : List Ev) (x : Ev) (w : World) (hl : n = L.length) (hn : n ≤ 1000) (hr : Rd w w.heap.size A (L.flatMap Ev.cells)) (hs : SortedE L) :
  Calls Tryz.prog 293 #[.slice A n c, x.val, .func (.func 294) #[] #[]] w fun e w' => e = .returned (.tuple #[.int .i64 (lbK L x.key : Nat), .bool (foundK L x.key)]) ∧ Below w.heap.size w w' := by
 subst hl; exact bsE_any A c L x w hn hr hs
theorem ev_oneCell (x : Ev) : ∀ u ∈ x.cells, u.oneCell' = true := by
 intro u hu
 simp only [Ev.cells, List.mem_cons, List.not_mem_nil, or_false] at hu
 rcases hu with rfl | rfl | rfl | rfl | rfl | rfl | rfl | rfl | rfl <;> rfl
set_option maxRecDepth 100000 in
theorem ins_end (A : Option Addr) (n c : Nat) (L : List Ev) (x : Ev) (gv base : Nat) (w : World) (hb : base ≤ w.heap.size) (hA : OwnL w base 62 9 (.slice A n c) Ev.cells L) (hn : n ≤ 1000) (hc : n ≤ c) (hcm : c ≤ 9223372036854775807)
  (hx : Blk w gv 62 #[.int .i64 x.frame, .int .i64 x.emitter, .int .i64 x.kind, .int .i64 x.ord, .int .i64 x.asset, .int .i64 x.gain, .int .i64 x.pan, .int .i64 x.prio, .int .i64 x.len]) :
  Calls Tryz.prog 295 #[.slice A n c, .int .i64 n, .slice (some ⟨gv, 0, none⟩) 1 1] w fun e w' => ∃ g c', e = .returned (.slice (some ⟨g, 0, none⟩) (n + 1) c') ∧ OwnL w' base 62 9 (.slice (some ⟨g, 0, none⟩) (n + 1) c') Ev.cells (L ++ [x]) ∧ w.grownBy w' (Value.slice A n c).ownBlock ∧ ((Value.slice A n c).ownBlock = some g ∨ g = w.heap.size) := by
 obtain ⟨i0, hi0, hz0, hz1, hz2⟩ := info_parts Tryz.infoEv
 have hlen := hA.len
 have hnews : ∀ j u, x.cells[j]? = some u → w.cell? ((⟨gv, 0, none⟩ : Addr).add j) = some u := fun j u hu => by
  rw [Go.WideShapes.add_plain, Nat.zero_add, hx.cell j, ← hu]
  simp [Ev.cells]
 have HA := zz hA
 have HX := zz hx
 have HN := zz hnews
 have HLN := zz hlen
 have HAr : Hid (w.ownsRow base 62 9 (.slice A n c) n (L.flatMap Ev.cells)) := by
  have h := hA
  unfold OwnL at h
  rwa [← hlen] at h
 have hcn0 : (0 : Int) ≤ (n : Int) := Int.natCast_nonneg _
 clear hA hx hnews hlen
 by_cases hcn : c = n
 ·subst hcn
  go_enter Tryz.func295, Tryz.ntmps295
  go_wp2_with (at_builtin; refine wpList_append_lies _ rfl (.tmp 23) (.tmp 24) 52 rfl base 62 i0 _ 9 72 Tryz.underlying52 hi0 hz0 hz1 hz2 rfl (by decide) (.slice A c c) c (L.flatMap Ev.cells) rfl HAr.out ⟨gv, 0, none⟩ 1 1 x.cells rfl rfl HN.out (ev_oneCell x) (by omega) (by simp [maxLen]; omega) (by omega) hb w.heap.size rfl ?_)
  ·intro g cap w1 hown hgr hat hlt
   have HO := zz hown
   have HG := zz hgr
   have HT := zz hat
   clear hown hgr hat
   go_wp2
   go_ret
   refine ⟨g, cap, rfl, ?_, HG.out, HT.out⟩
   have h := HO.out
   unfold OwnL
   rw [zG, ← HLN.out, List.flatMap_append]
   simpa using h
 ·go_enter Tryz.func295, Tryz.ntmps295
  go_wp2_with (at_builtin; refine wpList_append_lies _ rfl (.tmp 23) (.tmp 24) 52 rfl base 62 i0 _ 9 72 Tryz.underlying52 hi0 hz0 hz1 hz2 rfl (by decide) (.slice A n c) n (L.flatMap Ev.cells) rfl HAr.out ⟨gv, 0, none⟩ 1 1 x.cells rfl rfl HN.out (ev_oneCell x) (by omega) (by simp [maxLen]; omega) (by omega) hb w.heap.size rfl ?_)
  ·intro g cap w1 hown hgr hat hlt
   have HO := zz hown
   have HG := zz hgr
   have HT := zz hat
   clear hown hgr hat
   go_wp2
   go_ret
   refine ⟨g, cap, rfl, ?_, HG.out, HT.out⟩
   have h := HO.out
   unfold OwnL
   rw [zG, ← HLN.out, List.flatMap_append]
   simpa using h
set_option maxRecDepth 100000 in
theorem open_yes (F : Int) (w : World) (h0 : 0 ≤ F) (h1 : F ≤ 1073741824) :
  Calls Tryz.prog 120 #[.int .i64 F] w fun e w' => e = .returned (.tuple #[.pointer (some ⟨w.heap.size, 0, none⟩), .int .i64 0]) ∧ Blk w' w.heap.size 265 #[.int .i64 F, .slice none 0 0] ∧ Below w.heap.size w w' := by
 have HB := zz (show inB F 0 1073741824 = true by simp [inB, h0, h1])
 go_enter Tryz.func120, Tryz.ntmps120
 go_wp2_with fail
 refine (within_any _ _ _ _).mono ?_
 rintro e w1 ⟨rfl, rfl⟩
 rw [HB.out]
 go_wp2
 go_ret2
 exact ⟨rfl, Blk.new _ _ _, bAlloc (Below.refl _ _) _⟩
def Ev.at_ (x : Ev) (F o : Int) : Ev := ⟨F, x.emitter, x.kind, o, x.asset, x.gain, x.pan, x.prio, x.len⟩
end
end Go.Proofs.YtibeihcpehikoaaGreat
