/-
  The walks beneath: EvLf, EvRt, EventLeaf, InsP.
-/
import Derived.Deep.RegionHeld3
import Derived.Deep.RegionWith
import Derived.StillTactics
import Derived.Test.YtibeihcpehikoaaGreatNw1
namespace Go.Proofs.YtibeihcpehikoaaGreat
section
set_option maxHeartbeats 1000000
open Go.RowKit
theorem Blk.ev {w : World} {g : Nat} {E : TypeId} {v0 v1 v2 v3 v4 v5 v6 v7 v8 : Value} (h : Blk w g E #[v0, v1, v2, v3, v4, v5, v6, v7, v8]) :
  w.cell? ⟨g, 0, none⟩ = some v0 ∧ w.cell? ⟨g, 1, none⟩ = some v1 ∧ w.cell? ⟨g, 2, none⟩ = some v2 ∧ w.cell? ⟨g, 3, none⟩ = some v3 ∧ w.cell? ⟨g, 4, none⟩ = some v4 ∧ w.cell? ⟨g, 5, none⟩ = some v5 ∧ w.cell? ⟨g, 6, none⟩ = some v6 ∧ w.cell? ⟨g, 7, none⟩ = some v7 ∧ w.cell? ⟨g, 8, none⟩ = some v8 :=
 ⟨h.cell 0, h.cell 1, h.cell 2, h.cell 3, h.cell 4, h.cell 5, h.cell 6, h.cell 7, h.cell 8⟩
theorem Blk.key {w : World} {g : Nat} {E : TypeId} {v0 v1 v2 v3 : Value} (h : Blk w g E #[v0, v1, v2, v3]) :
  w.cell? ⟨g, 0, none⟩ = some v0 ∧ w.cell? ⟨g, 1, none⟩ = some v1 ∧ w.cell? ⟨g, 2, none⟩ = some v2 ∧ w.cell? ⟨g, 3, none⟩ = some v3 :=
 ⟨h.cell 0, h.cell 1, h.cell 2, h.cell 3⟩
theorem Blk.set9 {w : World} {g : Nat} {E : TypeId} {v0 v1 v2 v3 v4 v5 v6 v7 v8 u0 u1 u2 u3 u4 u5 u6 u7 u8 : Value} (h : Blk w g E #[v0, v1, v2, v3, v4, v5, v6, v7, v8]) :
  Blk (((((((((w.setCell ⟨g, 0, none⟩ u0).setCell ⟨g, 1, none⟩ u1).setCell ⟨g, 2, none⟩ u2).setCell ⟨g, 3, none⟩ u3).setCell ⟨g, 4, none⟩ u4).setCell ⟨g, 5, none⟩ u5).setCell ⟨g, 6, none⟩ u6).setCell ⟨g, 7, none⟩ u7).setCell ⟨g, 8, none⟩ u8) g E #[u0, u1, u2, u3, u4, u5, u6, u7, u8] := by
 have h0 : Blk (w.setCell ⟨g, 0, none⟩ u0) g E #[u0, v1, v2, v3, v4, v5, v6, v7, v8] := h.set 0 u0
 have h1 : Blk (World.setCell _ ⟨g, 1, none⟩ u1) g E #[u0, u1, v2, v3, v4, v5, v6, v7, v8] := h0.set 1 u1
 have h2 : Blk (World.setCell _ ⟨g, 2, none⟩ u2) g E #[u0, u1, u2, v3, v4, v5, v6, v7, v8] := h1.set 2 u2
 have h3 : Blk (World.setCell _ ⟨g, 3, none⟩ u3) g E #[u0, u1, u2, u3, v4, v5, v6, v7, v8] := h2.set 3 u3
 have h4 : Blk (World.setCell _ ⟨g, 4, none⟩ u4) g E #[u0, u1, u2, u3, u4, v5, v6, v7, v8] := h3.set 4 u4
 have h5 : Blk (World.setCell _ ⟨g, 5, none⟩ u5) g E #[u0, u1, u2, u3, u4, u5, v6, v7, v8] := h4.set 5 u5
 have h6 : Blk (World.setCell _ ⟨g, 6, none⟩ u6) g E #[u0, u1, u2, u3, u4, u5, u6, v7, v8] := h5.set 6 u6
 have h7 : Blk (World.setCell _ ⟨g, 7, none⟩ u7) g E #[u0, u1, u2, u3, u4, u5, u6, u7, v8] := h6.set 7 u7
 have h8 : Blk (World.setCell _ ⟨g, 8, none⟩ u8) g E #[u0, u1, u2, u3, u4, u5, u6, u7, u8] := h7.set 8 u8
 exact h8
theorem Blk.set4 {w : World} {g : Nat} {E : TypeId} {v0 v1 v2 v3 u0 u1 u2 u3 : Value} (h : Blk w g E #[v0, v1, v2, v3]) :
  Blk ((((w.setCell ⟨g, 0, none⟩ u0).setCell ⟨g, 1, none⟩ u1).setCell ⟨g, 2, none⟩ u2).setCell ⟨g, 3, none⟩ u3) g E #[u0, u1, u2, u3] :=
 ((((h.set 0 u0).set 1 u1).set 2 u2).set 3 u3)
theorem within_any (n lo hi : Int) (w : World) : Calls Tryz.prog 186 #[.int .i64 n, .int .i64 lo, .int .i64 hi] w fun e w' => e = .returned (.bool (inB n lo hi)) ∧ w = w' := by
 have hz : inB n lo hi = decide (lo ≤ n ∧ n ≤ hi) := rfl
 by_cases h0 : lo ≤ n <;> by_cases h1 : n ≤ hi
 all_goals
  simp only [h0, h1, and_self, and_true, and_false, decide_true, decide_false] at hz
  have HZ := zz hz
  clear hz
  go_enter Tryz.func186, Tryz.ntmps186
  go_wp2
  go_ret
  exact ⟨ret_bool HZ.out.symm, rfl⟩
theorem cmp_any (a b : Int) (w : World) : Calls Tryz.prog 158 #[.int .i64 a, .int .i64 b] w fun e w' => e = .returned (.int .i64 (cmpI a b)) ∧ w = w' := by
 rcases Int.lt_trichotomy a b with h | h | h
 ·have HZ := zz (show cmpI a b = -1 by unfold cmpI; rw [if_pos h])
  go_enter Tryz.func158, Tryz.ntmps158
  go_wp2
  go_ret
  exact ⟨ret_int HZ.out.symm, rfl⟩
 ·subst h
  have HZ := zz (show cmpI a a = 0 by unfold cmpI; rw [if_neg (by omega), if_neg (by omega)])
  go_enter Tryz.func158, Tryz.ntmps158
  go_wp2
  go_ret
  exact ⟨ret_int HZ.out.symm, rfl⟩
 ·have HZ := zz (show cmpI a b = 1 by unfold cmpI; rw [if_neg (by omega), if_pos h])
  go_enter Tryz.func158, Tryz.ntmps158
  go_wp2
  go_ret
  exact ⟨ret_int HZ.out.symm, rfl⟩
theorem or_any (A : Option Addr) (c : Nat) (l : List Int) (w : World) (hn : l.length ≤ 1000) (hr : Rd w w.heap.size A (l.map (Value.int .i64))) : Calls Tryz.prog 157 #[.slice A l.length c] w fun e w' => e = .returned (.int .i64 (orI l)) ∧ w = w' := by
 have HR := zz hr
 clear hr
 go_enter Tryz.func157, Tryz.ntmps157
 go_wp2
 go_loopw [8] (fun i wr => ∃ k : Nat, k ≤ l.length ∧ i = .int .i64 k ∧ Hid (orI l = orI (l.drop k)) ∧ wr = w) (fun i _ => l.length - (intOf i).toNat)
 case atStart => exact ⟨0, Nat.zero_le _, rfl, rfl, rfl⟩
 case round =>
  obtain ⟨k, hk, rfl, hz, rfl⟩ := hrel
  by_cases hlt : k < l.length
  ·obtain ⟨b, off, rfl, hB, hc⟩ := HR.out.one (k := k) (by simpa using hlt)
   simp only [List.getElem_map] at hc
   have hst : orI (l.drop k) = if l[k] = 0 then orI (l.drop (k + 1)) else l[k] := by rw [List.drop_eq_getElem_cons hlt, orI]
   have HS := zz hst
   clear hst
   by_cases h0 : l[k] = 0
   ·have H0 := zz h0
    have hb : (l[k] != 0) = false := by simpa using h0
    clear h0
    go_wp2
    go_roundw
    case rel => exact ⟨k + 1, by omega, by go_num, (show _ = _ by rw [hz.out, HS.out, if_pos H0.out]), trivial⟩
    case measure => simp [intOf]; omega
   ·have H0 := zz h0
    have hb : (l[k] != 0) = true := by simpa using h0
    clear h0
    go_wp2
    go_ret
    exact ⟨ret_int (by rw [hz.out, HS.out, if_neg H0.out]), rfl⟩
  ·have e1 : orI l = 0 := by rw [hz.out, List.drop_of_length_le (by omega), orI]
   have E1 := zz e1
   clear e1
   go_wp2
   go_ret
   exact ⟨ret_int E1.out.symm, rfl⟩
set_option maxRecDepth 100000 in
theorem compare_any (a b : Key4) (w : World) : Calls Tryz.prog 80 #[a.val, b.val] w fun e w' => e = .returned (.int .i64 (cmpK a b)) ∧ Below w.heap.size w w' := by
 unfold Key4.val
 go_enter Tryz.func80, Tryz.ntmps80
 go_wp2_with fail
 obtain ⟨W1, hW1⟩ : ∃ W1, W1 = (w.alloc (.cells #[.int .i64 a.frame, .int .i64 a.emitter, .int .i64 a.kind, .int .i64 a.ord] 60)).alloc (.cells #[.int .i64 b.frame, .int .i64 b.emitter, .int .i64 b.kind, .int .i64 b.ord] 60) := ⟨_, rfl⟩
 have hba : Blk W1 w.heap.size 60 #[.int .i64 a.frame, .int .i64 a.emitter, .int .i64 a.kind, .int .i64 a.ord] := by rw [hW1]; exact (Blk.new _ _ _).alloc _
 have hbb : Blk W1 (w.heap.size + 1) 60 #[.int .i64 b.frame, .int .i64 b.emitter, .int .i64 b.kind, .int .i64 b.ord] := by
  rw [hW1]
  have := Blk.new (w.alloc (.cells #[.int .i64 a.frame, .int .i64 a.emitter, .int .i64 a.kind, .int .i64 a.ord] 60)) 60 #[.int .i64 b.frame, .int .i64 b.emitter, .int .i64 b.kind, .int .i64 b.ord]
  simpa using this
 have hsz : W1.heap.size = w.heap.size + 2 := by rw [hW1]; simp
 have hbw : Below w.heap.size w W1 := by rw [hW1]; exact bAlloc (bAlloc (Below.refl _ _) _) _
 have a0 := hba.cell 0
 have a1 := hba.cell 1
 have a2 := hba.cell 2
 have a3 := hba.cell 3
 have b0 := hbb.cell 0
 have b1 := hbb.cell 1
 have b2 := hbb.cell 2
 have b3 := hbb.cell 3
 simp only [List.getElem?_toArray, List.getElem?_cons_zero, List.getElem?_cons_succ] at a0 a1 a2 a3 b0 b1 b2 b3
 rw [← hW1]
 have hs1 : w.heap.size < W1.heap.size := by omega
 have hs2 : w.heap.size + 1 < W1.heap.size := by omega
 clear hW1 hba hbb hsz
 go_region_held3 (fun w' => w'.cell? ⟨w.heap.size, 0, none⟩ = some (.int .i64 a.frame) ∧ w'.cell? ⟨w.heap.size, 1, none⟩ = some (.int .i64 a.emitter) ∧ w'.cell? ⟨w.heap.size, 2, none⟩ = some (.int .i64 a.kind) ∧ w'.cell? ⟨w.heap.size, 3, none⟩ = some (.int .i64 a.ord) ∧
   w'.cell? ⟨w.heap.size + 1, 0, none⟩ = some (.int .i64 b.frame) ∧ w'.cell? ⟨w.heap.size + 1, 1, none⟩ = some (.int .i64 b.emitter) ∧ w'.cell? ⟨w.heap.size + 1, 2, none⟩ = some (.int .i64 b.kind) ∧ w'.cell? ⟨w.heap.size + 1, 3, none⟩ = some (.int .i64 b.ord))
  (first | go_keep)
  (first
   | (go_at_call 158; refine (cmp_any _ _ _).mono ?_; rintro e w4 ⟨rfl, rfl⟩)
   | (go_at_call 157; refine (or_any _ _ [cmpI a.frame b.frame, cmpI a.emitter b.emitter, cmpI a.kind b.kind, cmpI a.ord b.ord] _ (by simp) (by exact rd_new W1 _ 3 _ rfl _ (by simp))).mono ?_; rintro e w4 ⟨rfl, rfl⟩))
 go_wp2
 go_ret
 exact ⟨rfl, (bAlloc hbw _).drew⟩
end
section
set_option maxHeartbeats 1000000
open Go.RowKit
set_option maxRecDepth 100000 in
theorem key_any (k : Key4) (w : World) : Calls Tryz.prog 306 #[k.val] w fun e w' => e = .returned (.bool (keyOk k)) ∧ Below w.heap.size w w' := by
 unfold Key4.val
 go_enter Tryz.func306, Tryz.ntmps306
 go_wp2_with (go_at_call 186; refine (within_any _ _ _ _).mono ?_; rintro e w' ⟨rfl, rfl⟩)
 all_goals
  go_ret
  refine ⟨ret_bool ?_, (by repeat (first | exact Below.refl _ _ | (with_reducible assumption) | apply bAlloc | apply below_drewN | apply Below.drew))⟩
  simp [keyOk, *]
set_option maxRecDepth 100000 in
theorem right_any (x : Ev) (w : World) : Calls Tryz.prog 291 #[x.val] w fun e w' => e = .returned (.bool (evOk x)) ∧ Below w.heap.size w w' := by
 unfold Ev.val
 go_enter Tryz.func291, Tryz.ntmps291
 go_wp2_with fail
 refine (key_any x.key _).mono ?_
 rintro e w1 ⟨rfl, hb1⟩
 have hbk := (Blk.new w 62 #[.int .i64 x.frame, .int .i64 x.emitter, .int .i64 x.kind, .int .i64 x.ord, .int .i64 x.asset, .int .i64 x.gain, .int .i64 x.pan, .int .i64 x.prio, .int .i64 x.len]).on hb1
 have c4 := hbk.cell 4
 have c5 := hbk.cell 5
 have c6 := hbk.cell 6
 have c7 := hbk.cell 7
 have c8 := hbk.cell 8
 simp only [List.getElem?_toArray, List.getElem?_cons_zero, List.getElem?_cons_succ] at c4 c5 c6 c7 c8
 have hbw := bTrans (bAlloc (Below.refl w.heap.size w) (.cells #[.int .i64 x.frame, .int .i64 x.emitter, .int .i64 x.kind, .int .i64 x.ord, .int .i64 x.asset, .int .i64 x.gain, .int .i64 x.pan, .int .i64 x.prio, .int .i64 x.len] 62)) hb1
 clear hbk hb1
 cases hk : keyOk x.key
 all_goals
  have HK := zz hk
  clear hk
  go_wp2_with (go_at_call 186; refine (within_any _ _ _ _).mono ?_; rintro e w' ⟨rfl, rfl⟩)
  all_goals
   go_ret
   refine ⟨ret_bool ?_, hbw⟩
   simp [evOk, HK.out, *]
end
section
set_option maxHeartbeats 1000000
open Go.RowKit
set_option maxRecDepth 100000 in
theorem findC_any (x : Ev) (k : Key4) (w : World) : Calls Tryz.prog 320 #[x.val, k.val] w fun e w' => e = .returned (.int .i64 (cmpK x.key k)) ∧ Below w.heap.size w w' := by
 unfold Ev.val Key4.val
 go_enter Tryz.func320, Tryz.ntmps320
 go_wp2_with fail
 refine (compare_any x.key k _).mono ?_
 rintro e w1 ⟨rfl, hb1⟩
 go_wp2
 go_ret
 exact ⟨rfl, bTrans (bAlloc (bAlloc (Below.refl _ _) _) _) hb1⟩
set_option maxRecDepth 100000 in
theorem order_any (x y : Ev) (w : World) : Calls Tryz.prog 294 #[x.val, y.val] w fun e w' => e = .returned (.int .i64 (cmpK x.key y.key)) ∧ Below w.heap.size w w' := by
 unfold Ev.val
 go_enter Tryz.func294, Tryz.ntmps294
 go_wp2_with fail
 refine (compare_any x.key y.key _).mono ?_
 rintro e w1 ⟨rfl, hb1⟩
 go_wp2
 go_ret
 exact ⟨rfl, bTrans (bAlloc (bAlloc (Below.refl _ _) _) _) hb1⟩
end
section
open Go.RowKit
set_option maxRecDepth 100000
def insL {α : Type} (L : List α) (i : Nat) (x : α) : List α := L.take i ++ x :: L.drop i
theorem insL_length {α : Type} (L : List α) (i : Nat) (x : α) : (insL L i x).length = L.length + 1 := by
 unfold insL; rw [List.length_append, List.length_cons, List.length_take, List.length_drop]; omega
theorem insL_end {α : Type} (L : List α) (x : α) : insL L L.length x = L ++ [x] := by unfold insL; simp
theorem mem_insL {α : Type} {L : List α} {i : Nat} {x e : α} : e ∈ insL L i x ↔ e = x ∨ e ∈ L := by
 unfold insL
 rw [List.mem_append, List.mem_cons]
 constructor
 ·rintro (h | h | h)
  ·exact .inr (List.mem_of_mem_take h)
  ·exact .inl h
  ·exact .inr (List.mem_of_mem_drop h)
 ·rintro (h | h)
  ·exact .inr (.inl h)
  ·rw [← List.take_append_drop i L, List.mem_append] at h
   rcases h with h | h
   ·exact .inl h
   ·exact .inr (.inr h)
def SortedE (L : List Ev) : Prop := L.Pairwise fun x y => x.key.Lt y.key
theorem Tryz.infoEv : (Tryz.prog.info? 62).map (fun i => (i.zero, i.size, i.bytes)) = some (some (.agg #[.int .i64 0, .int .i64 0, .int .i64 0, .int .i64 0, .int .i64 0, .int .i64 0, .int .i64 0, .int .i64 0, .int .i64 0]), 9, 72) := by kernel_rfl
end
end Go.Proofs.YtibeihcpehikoaaGreat
