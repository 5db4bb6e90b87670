/-
  The walks beneath: Guard, R11a.
-/
import Derived.Deep.MidRow
import Derived.Deep.DeepCutAuto
import Derived.Test.YtibeihcpehikoaaGreatNk22
namespace Go.Proofs.YtibeihcpehikoaaGreat
open Go.RowKit
set_option maxRecDepth 100000
set_option maxHeartbeats 4000000
section
section
variable {P : Program} {ops : Array Oper} {Q : Exit → Act → World → Prop} {a : Act} {w : World} {rest : List Oper} {o : Oper}
theorem wpList_want (hw : Region.wanted o (yielded ops a.tmps) = true) (h : ∀ K : Act → World → Prop, (∀ a w, wpList P ops Q rest a w → K a w) → o.wp P a w K Q) : wpList P ops Q (o :: rest) a w :=
 wpList_step fun K hK => by simp only [hw, if_true]; exact h K hK
theorem wpList_load_midG (hw : Region.wanted o (yielded ops a.tmps) = true) (ty : TypeId) (x : Operand) (ho : o.op = .load ty x)
  (b i : Nat) (hx : a.eval x = .pointer (some ⟨b, i, none⟩)) (cs : List Value) (d : TypeDesc) (hc : w.rangeAt b i cs)
  (hu : P.underlying ty = some d) (hd : d.isRow = true) (hi : (P.info? ty).map (·.size) = some cs.length)
  (h : wpList P ops Q rest (a.put o.dst (.agg cs.toArray)) w) : wpList P ops Q (o :: rest) a w :=
 wpList_want hw fun _ hK => wp_load_mid ty x ho b i hx cs d hc hu hd hi (hK _ _ h)
end
theorem Blk.range {w : World} {g : Nat} {E : TypeId} {cs : List Value} (h : Blk w g E cs.toArray) : w.rangeAt g 0 cs := fun j v hv => by
 rw [Nat.zero_add, h.cell j, ← hv]; simp
end
section
theorem blk_at {w : World} {g : Nat} {E : TypeId} {cs : Array Value} (h : g = w.heap.size) : Blk (w.alloc (.cells cs E)) g E cs := by subst h; exact Blk.new _ _ _
theorem bcl {W w1 : World} (hb : Below W.heap.size W w1) : (∀ b o, b < W.heap.size → w1.cell? ⟨b, o, none⟩ = W.cell? ⟨b, o, none⟩) ∧ (∀ b o, b < W.heap.size → w1.frozen? ⟨b, o, none⟩ = W.frozen? ⟨b, o, none⟩) :=
 ⟨fun b o h => hb.cell (p := ⟨b, o, none⟩) h, fun b o h => hb.frozen (p := ⟨b, o, none⟩) h⟩
theorem r11Key_any (k : Key4) (w : World) : Calls Tryz.prog 299 #[k.val] w fun e w' => e = .returned (.bool (keyOk k)) ∧ Below w.heap.size w w' := by
 unfold Key4.val
 go_enter Tryz.func299, Tryz.ntmps299
 go_wp2
 all_goals
  go_ret
  refine ⟨ret_bool ?_, (by repeat (first | exact Below.refl _ _ | (with_reducible assumption) | apply bAlloc | apply below_drewN | apply Below.drew))⟩
  unfold keyOk inB
  first
   | (simp [*]; done)
   | (simp [*]; omega)
theorem r11Right_any (x : Ev) (w : World) : Calls Tryz.prog 263 #[x.val] w fun e w' => e = .returned (.bool (evOk x)) ∧ Below w.heap.size w w' := by
 unfold Ev.val
 go_enter Tryz.func263, Tryz.ntmps263
 go_wp2_with fail
 refine (r11Key_any x.key _).mono ?_
 rintro e w1 ⟨rfl, hb1⟩
 have hbk := (Blk.new w 62 #[.int .i64 x.frame, .int .i64 x.emitter, .int .i64 x.kind, .int .i64 x.ord, .int .i64 x.asset, .int .i64 x.gain, .int .i64 x.pan, .int .i64 x.prio, .int .i64 x.len]).on hb1
 have c4 := hbk.cell 4
 have c5 := hbk.cell 5
 have c6 := hbk.cell 6
 have c7 := hbk.cell 7
 have c8 := hbk.cell 8
 simp only [zA, zB, zC] at c4 c5 c6 c7 c8
 have hbw := bTrans (bAlloc (Below.refl w.heap.size w) (.cells #[.int .i64 x.frame, .int .i64 x.emitter, .int .i64 x.kind, .int .i64 x.ord, .int .i64 x.asset, .int .i64 x.gain, .int .i64 x.pan, .int .i64 x.prio, .int .i64 x.len] 62)) hb1
 clear hbk hb1
 cases hk : keyOk x.key
 all_goals
  have HK := zz hk
  clear hk
  go_wp2
  all_goals
   go_ret
   refine ⟨ret_bool ?_, hbw⟩
   unfold evOk inB
   first
    | (simp [HK.out, *]; done)
    | (simp [HK.out, *]; omega)
def Key4.at (k : Key4) (i : Nat) : Int := if i = 0 then k.frame else if i = 1 then k.emitter else if i = 2 then k.kind else k.ord
theorem cmpK_at (a b : Key4) (k : Nat) (hk : k < 4) (h : ∀ j, j < k → a.at j = b.at j) : (a.at k < b.at k → cmpK a b = -1) ∧ (b.at k < a.at k → cmpK a b = 1) := by
 have hlt : ∀ a b : Key4, (∀ j, j < k → a.at j = b.at j) → a.at k < b.at k → a.Lt b := fun a b h hk' => by
  have h4 : k = 0 ∨ k = 1 ∨ k = 2 ∨ k = 3 := by omega
  unfold Key4.Lt
  rcases h4 with rfl | rfl | rfl | rfl
  ·have h0 : a.frame < b.frame := hk'
   omega
  ·have h0 : a.frame = b.frame := h 0 (by decide)
   have h1 : a.emitter < b.emitter := hk'
   omega
  ·have h0 : a.frame = b.frame := h 0 (by decide)
   have h1 : a.emitter = b.emitter := h 1 (by decide)
   have h2 : a.kind < b.kind := hk'
   omega
  ·have h0 : a.frame = b.frame := h 0 (by decide)
   have h1 : a.emitter = b.emitter := h 1 (by decide)
   have h2 : a.kind = b.kind := h 2 (by decide)
   have h3 : a.ord < b.ord := hk'
   omega
 have hb := cmpK_bd a b
 refine ⟨fun q => ?_, fun q => ?_⟩
 ·have := (cmpK_neg a b).2 (hlt a b h q)
  omega
 ·have := (cmpK_pos a b).2 (hlt b a (fun j hj => (h j hj).symm) q)
  omega
theorem cmpK_all (a b : Key4) (h : ∀ j, j < 4 → a.at j = b.at j) : cmpK a b = 0 := by
 rw [cmpK_zero]
 cases a; cases b
 have h0 := h 0 (by decide)
 have h1 := h 1 (by decide)
 have h2 := h 2 (by decide)
 have h3 := h 3 (by decide)
 exact Key4.mk.injEq .. ▸ ⟨h0, h1, h2, h3⟩
theorem r11Compare_any (a b : Key4) (w : World) : Calls Tryz.prog 159 #[a.val, b.val] w fun e w' => e = .returned (.int .i64 (cmpK a b)) ∧ Below w.heap.size w w' := by
 unfold Key4.val
 go_enter Tryz.func159, Tryz.ntmps159
 go_upto_region 3 with fail
 obtain ⟨W, hW⟩ : ∃ W, W = (((w.alloc (.cells #[.int .i64 a.frame, .int .i64 a.emitter, .int .i64 a.kind, .int .i64 a.ord] 60)).alloc (.cells #[.int .i64 b.frame, .int .i64 b.emitter, .int .i64 b.kind, .int .i64 b.ord] 60)).alloc (.cells #[.int .i64 a.frame, .int .i64 a.emitter, .int .i64 a.kind, .int .i64 a.ord] 3)).alloc (.cells #[.int .i64 b.frame, .int .i64 b.emitter, .int .i64 b.kind, .int .i64 b.ord] 3) := ⟨_, rfl⟩
 rw [← hW]
 have hka : Blk W (w.heap.size + 1 + 1) 3 #[.int .i64 a.frame, .int .i64 a.emitter, .int .i64 a.kind, .int .i64 a.ord] := by rw [hW]; exact (by repeat (first | ((with_reducible refine blk_at ?_); first | rfl | (simp; done)) | (with_reducible refine Blk.alloc ?_ _) | (with_reducible refine Blk.drew ?_)))
 have hkb : Blk W (w.heap.size + 1 + 1 + 1) 3 #[.int .i64 b.frame, .int .i64 b.emitter, .int .i64 b.kind, .int .i64 b.ord] := by rw [hW]; exact (by repeat (first | ((with_reducible refine blk_at ?_); first | rfl | (simp; done)) | (with_reducible refine Blk.alloc ?_ _) | (with_reducible refine Blk.drew ?_)))
 have hbw : Below w.heap.size w W := by rw [hW]; exact bAlloc (bAlloc (bAlloc (bAlloc (Below.refl _ _) _) _) _) _
 have HA : Hid (∀ j, j < 4 → W.cell? ⟨w.heap.size + 1 + 1, j, none⟩ = some (.int .i64 (a.at j))) := zz (fun j hj => by
  rw [hka.cell]
  obtain rfl | rfl | rfl | rfl : j = 0 ∨ j = 1 ∨ j = 2 ∨ j = 3 := by omega
  all_goals rfl)
 have HB : Hid (∀ j, j < 4 → W.cell? ⟨w.heap.size + 1 + 1 + 1, j, none⟩ = some (.int .i64 (b.at j))) := zz (fun j hj => by
  rw [hkb.cell]
  obtain rfl | rfl | rfl | rfl : j = 0 ∨ j = 1 ∨ j = 2 ∨ j = 3 := by omega
  all_goals rfl)
 clear hW hka hkb
 go_wp2_with fail
 go_loopw [7] (fun v wr => ∃ k : Nat, k ≤ 4 ∧ v = .int .i64 k ∧ Hid (∀ j, j < k → a.at j = b.at j) ∧ (∃ n, wr = W.drewN n)) (fun v _ => 4 - (intOf v).toNat)
 case atStart => exact ⟨0, by decide, rfl, zz (fun j hj => absurd hj (Nat.not_lt_zero j)), 0, rfl⟩
 case round =>
  obtain ⟨k, hk, rfl, HE, n, rfl⟩ := hrel
  by_cases hlt : k < 4
  ·have c1 := HA.out k hlt
   have c2 := HB.out k hlt
   obtain ⟨x, hx⟩ : ∃ x, a.at k = x := ⟨_, rfl⟩
   obtain ⟨y, hy⟩ : ∃ y, b.at k = y := ⟨_, rfl⟩
   rw [hx] at c1
   rw [hy] at c2
   have HX := zz hx
   have HY := zz hy
   have HC := zz (cmpK_at a b k hlt HE.out)
   clear hx hy
   rcases Int.lt_trichotomy x y with h | h | h
   ·have HR : Hid (cmpK a b = -1) := zz (HC.out.1 (by rw [HX.out, HY.out]; exact h))
    go_wp2_with fail
    go_quiet (fail)
    go_wp2
    go_ret
    exact ⟨ret_int HR.out.symm, (by first | exact below_drewN (below_drewN (below_drewN hbw _) _) _ | exact below_drewN (below_drewN hbw _) _ | exact below_drewN hbw _)⟩
   ·have h1 : decide (x < y) = false := decide_eq_false (by omega)
    have h2 : decide (y < x) = false := decide_eq_false (by omega)
    have HN : Hid (∀ j, j < k + 1 → a.at j = b.at j) := zz (fun j hj => by
     rcases Nat.lt_or_ge j k with q | q
     ·exact HE.out j q
     ·obtain rfl : j = k := by omega
      rw [HX.out, HY.out, h])
    clear h
    go_wp2_with fail
    go_quiet (fail)
    go_wp2_with fail
    go_quiet (fail)
    go_wp2
    go_roundw
    case rel => exact ⟨k + 1, by omega, by go_num, HN, _, rfl⟩
    case measure => simp [intOf]; omega
   ·have h1 : decide (x < y) = false := decide_eq_false (by omega)
    have HR : Hid (cmpK a b = 1) := zz (HC.out.2 (by rw [HX.out, HY.out]; exact h))
    go_wp2_with fail
    go_quiet (fail)
    go_wp2_with fail
    go_quiet (fail)
    go_wp2
    go_ret
    exact ⟨ret_int HR.out.symm, (by first | exact below_drewN (below_drewN (below_drewN hbw _) _) _ | exact below_drewN (below_drewN hbw _) _ | exact below_drewN hbw _)⟩
  ·obtain rfl : k = 4 := by omega
   have HR : Hid (cmpK a b = 0) := zz (cmpK_all a b HE.out)
   go_wp2
   go_ret
   exact ⟨ret_int HR.out.symm, (by first | exact below_drewN (below_drewN (below_drewN hbw _) _) _ | exact below_drewN (below_drewN hbw _) _ | exact below_drewN hbw _)⟩
end
end Go.Proofs.YtibeihcpehikoaaGreat
