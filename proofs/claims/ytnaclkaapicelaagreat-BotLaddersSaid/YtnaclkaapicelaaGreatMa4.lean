/-
  The walks beneath: R11a, R11b, R11c.
-/
import Derived.Deep.DeepCutAuto
import Derived.Test.YtnaclkaapicelaaGreatEventLeaf
import Derived.Test.YtnaclkaapicelaaGreatMild
import Derived.Test.YtnaclkaapicelaaGreatMa3
import Derived.Test.YtnaclkaapicelaaGreatPageP
namespace Go.Proofs.YtnaclkaapicelaaGreat
open Go.RowKit
set_option maxRecDepth 100000
theorem blk_at {w : World} {g : Nat} {E : TypeId} {cs : Array Value} (h : g = w.heap.size) : Blk (w.alloc (.cells cs E)) g E cs := by subst h; exact Blk.new _ _ _
theorem bcl {W w1 : World} (hb : Below W.heap.size W w1) : (∀ b o, b < W.heap.size → w1.cell? ⟨b, o, none⟩ = W.cell? ⟨b, o, none⟩) ∧ (∀ b o, b < W.heap.size → w1.frozen? ⟨b, o, none⟩ = W.frozen? ⟨b, o, none⟩) :=
  ⟨fun b o h => hb.cell (p := ⟨b, o, none⟩) h, fun b o h => hb.frozen (p := ⟨b, o, none⟩) h⟩
set_option maxHeartbeats 1000000 in
theorem r11Key_any (k : Key4) (w : World) : Calls Tryz.prog 137 #[k.val] w fun e w' => e = .returned (.bool (keyOk k)) ∧ Below w.heap.size w w' := by
  unfold Key4.val
  go_enter Tryz.func137, Tryz.ntmps137
  go_wp2
  all_goals
    go_ret
    refine ⟨ret_bool ?_, (by repeat (first | exact Below.refl _ _ | (with_reducible assumption) | apply bAlloc | apply below_drewN | apply Below.drew))⟩
    unfold keyOk inB
    first
      | (simp [*]; done)
      | (simp [*]; omega)
set_option maxHeartbeats 2000000 in
theorem r11Right_any (x : Ev) (w : World) : Calls Tryz.prog 118 #[x.val] w fun e w' => e = .returned (.bool (evOk x)) ∧ Below w.heap.size w w' := by
  unfold Ev.val
  go_enter Tryz.func118, Tryz.ntmps118
  go_wp2_with fail
  refine (r11Key_any x.key _).mono ?_
  rintro e w1 ⟨rfl, hb1⟩
  have hbk := (Blk.new w 65 #[.int .i64 x.frame, .int .i64 x.emitter, .int .i64 x.kind, .int .i64 x.ord, .int .i64 x.asset, .int .i64 x.gain, .int .i64 x.pan, .int .i64 x.prio, .int .i64 x.len]).on hb1
  have c4 := hbk.cell 4
  have c5 := hbk.cell 5
  have c6 := hbk.cell 6
  have c7 := hbk.cell 7
  have c8 := hbk.cell 8
  simp only [List.getElem?_toArray, List.getElem?_cons_zero, List.getElem?_cons_succ] at c4 c5 c6 c7 c8
  have hbw := bTrans (bAlloc (Below.refl w.heap.size w) (.cells #[.int .i64 x.frame, .int .i64 x.emitter, .int .i64 x.kind, .int .i64 x.ord, .int .i64 x.asset, .int .i64 x.gain, .int .i64 x.pan, .int .i64 x.prio, .int .i64 x.len] 65)) hb1
  clear hbk hb1
  cases hk : keyOk x.key
  all_goals
    have HK := Lib.hid hk
    clear hk
    go_wp2
    all_goals
      go_ret
      refine ⟨ret_bool ?_, hbw⟩
      unfold evOk inB
      first
        | (simp [HK.out, *]; done)
        | (simp [HK.out, *]; omega)
/-- The numbers of a key, by place. -/
def Key4.at (k : Key4) (i : Nat) : Int := if i = 0 then k.frame else if i = 1 then k.emitter else if i = 2 then k.kind else k.ord
theorem cmpK_at (a b : Key4) (k : Nat) (hk : k < 4) (h : ∀ j, j < k → a.at j = b.at j) : (a.at k < b.at k → cmpK a b = -1) ∧ (b.at k < a.at k → cmpK a b = 1) := by
  have hlt : ∀ a b : Key4, (∀ j, j < k → a.at j = b.at j) → a.at k < b.at k → a.Lt b := fun a b h hk' => by
    have h4 : k = 0 ∨ k = 1 ∨ k = 2 ∨ k = 3 := by omega
    unfold Key4.Lt
    rcases h4 with rfl | rfl | rfl | rfl
    · have h0 : a.frame < b.frame := hk'
      omega
    · have h0 : a.frame = b.frame := h 0 (by decide)
      have h1 : a.emitter < b.emitter := hk'
      omega
    · have h0 : a.frame = b.frame := h 0 (by decide)
      have h1 : a.emitter = b.emitter := h 1 (by decide)
      have h2 : a.kind < b.kind := hk'
      omega
    · have h0 : a.frame = b.frame := h 0 (by decide)
      have h1 : a.emitter = b.emitter := h 1 (by decide)
      have h2 : a.kind = b.kind := h 2 (by decide)
      have h3 : a.ord < b.ord := hk'
      omega
  have hb := cmpK_bd a b
  refine ⟨fun q => ?_, fun q => ?_⟩
  · have := (cmpK_neg a b).2 (hlt a b h q)
    omega
  · have := (cmpK_pos a b).2 (hlt b a (fun j hj => (h j hj).symm) q)
    omega
theorem cmpK_all (a b : Key4) (h : ∀ j, j < 4 → a.at j = b.at j) : cmpK a b = 0 := by
  rw [cmpK_zero]
  cases a; cases b
  have h0 := h 0 (by decide)
  have h1 := h 1 (by decide)
  have h2 := h 2 (by decide)
  have h3 := h 3 (by decide)
  exact Key4.mk.injEq .. ▸ ⟨h0, h1, h2, h3⟩
set_option maxHeartbeats 4000000 in
theorem r11Compare_any (a b : Key4) (w : World) : Calls Tryz.prog 138 #[a.val, b.val] w fun e w' => e = .returned (.int .i64 (cmpK a b)) ∧ Below w.heap.size w w' := by
  unfold Key4.val
  go_enter Tryz.func138, Tryz.ntmps138
  go_upto_region 3 with fail
  obtain ⟨W, hW⟩ : ∃ W, W = (((w.alloc (.cells #[.int .i64 a.frame, .int .i64 a.emitter, .int .i64 a.kind, .int .i64 a.ord] 63)).alloc (.cells #[.int .i64 b.frame, .int .i64 b.emitter, .int .i64 b.kind, .int .i64 b.ord] 63)).alloc (.cells #[.int .i64 a.frame, .int .i64 a.emitter, .int .i64 a.kind, .int .i64 a.ord] 3)).alloc (.cells #[.int .i64 b.frame, .int .i64 b.emitter, .int .i64 b.kind, .int .i64 b.ord] 3) := ⟨_, rfl⟩
  rw [← hW]
  have hka : Blk W (w.heap.size + 1 + 1) 3 #[.int .i64 a.frame, .int .i64 a.emitter, .int .i64 a.kind, .int .i64 a.ord] := by rw [hW]; exact (by repeat (first | ((with_reducible refine blk_at ?_); first | rfl | (simp; done)) | (with_reducible refine Blk.alloc ?_ _) | (with_reducible refine Blk.drew ?_)))
  have hkb : Blk W (w.heap.size + 1 + 1 + 1) 3 #[.int .i64 b.frame, .int .i64 b.emitter, .int .i64 b.kind, .int .i64 b.ord] := by rw [hW]; exact (by repeat (first | ((with_reducible refine blk_at ?_); first | rfl | (simp; done)) | (with_reducible refine Blk.alloc ?_ _) | (with_reducible refine Blk.drew ?_)))
  have hbw : Below w.heap.size w W := by rw [hW]; exact bAlloc (bAlloc (bAlloc (bAlloc (Below.refl _ _) _) _) _) _
  have HA : Hid (∀ j, j < 4 → W.cell? ⟨w.heap.size + 1 + 1, j, none⟩ = some (.int .i64 (a.at j))) := Lib.hid (fun j hj => by
    rw [hka.cell]
    obtain rfl | rfl | rfl | rfl : j = 0 ∨ j = 1 ∨ j = 2 ∨ j = 3 := by omega
    all_goals rfl)
  have HB : Hid (∀ j, j < 4 → W.cell? ⟨w.heap.size + 1 + 1 + 1, j, none⟩ = some (.int .i64 (b.at j))) := Lib.hid (fun j hj => by
    rw [hkb.cell]
    obtain rfl | rfl | rfl | rfl : j = 0 ∨ j = 1 ∨ j = 2 ∨ j = 3 := by omega
    all_goals rfl)
  clear hW hka hkb
  go_wp2_with fail
  go_loopw [7] (fun v wr => ∃ k : Nat, k ≤ 4 ∧ v = .int .i64 k ∧ Hid (∀ j, j < k → a.at j = b.at j) ∧ (∃ n, wr = W.drewN n)) (fun v _ => 4 - (intOf v).toNat)
  case atStart => exact ⟨0, by decide, rfl, Lib.hid (fun j hj => absurd hj (Nat.not_lt_zero j)), 0, rfl⟩
  case round =>
    obtain ⟨k, hk, rfl, HE, n, rfl⟩ := hrel
    by_cases hlt : k < 4
    · have c1 := HA.out k hlt
      have c2 := HB.out k hlt
      obtain ⟨x, hx⟩ : ∃ x, a.at k = x := ⟨_, rfl⟩
      obtain ⟨y, hy⟩ : ∃ y, b.at k = y := ⟨_, rfl⟩
      rw [hx] at c1
      rw [hy] at c2
      have HX := Lib.hid hx
      have HY := Lib.hid hy
      have HC := Lib.hid (cmpK_at a b k hlt HE.out)
      clear hx hy
      rcases Int.lt_trichotomy x y with h | h | h
      · have HR : Hid (cmpK a b = -1) := Lib.hid (HC.out.1 (by rw [HX.out, HY.out]; exact h))
        go_wp2_with fail
        go_quiet (fail)
        go_wp2
        go_ret
        exact ⟨ret_int HR.out.symm, (by first | exact below_drewN (below_drewN (below_drewN hbw _) _) _ | exact below_drewN (below_drewN hbw _) _ | exact below_drewN hbw _)⟩
      · have h1 : decide (x < y) = false := decide_eq_false (by omega)
        have h2 : decide (y < x) = false := decide_eq_false (by omega)
        have HN : Hid (∀ j, j < k + 1 → a.at j = b.at j) := Lib.hid (fun j hj => by
          rcases Nat.lt_or_ge j k with q | q
          · exact HE.out j q
          · obtain rfl : j = k := by omega
            rw [HX.out, HY.out, h])
        clear h
        go_wp2_with fail
        go_quiet (fail)
        go_wp2_with fail
        go_quiet (fail)
        go_wp2
        go_roundw
        case rel => exact ⟨k + 1, by omega, by go_num, HN, _, rfl⟩
        case measure => simp [intOf]; omega
      · have h1 : decide (x < y) = false := decide_eq_false (by omega)
        have HR : Hid (cmpK a b = 1) := Lib.hid (HC.out.2 (by rw [HX.out, HY.out]; exact h))
        go_wp2_with fail
        go_quiet (fail)
        go_wp2_with fail
        go_quiet (fail)
        go_wp2
        go_ret
        exact ⟨ret_int HR.out.symm, (by first | exact below_drewN (below_drewN (below_drewN hbw _) _) _ | exact below_drewN (below_drewN hbw _) _ | exact below_drewN hbw _)⟩
    · obtain rfl : k = 4 := by omega
      have HR : Hid (cmpK a b = 0) := Lib.hid (cmpK_all a b HE.out)
      go_wp2
      go_ret
      exact ⟨ret_int HR.out.symm, (by first | exact below_drewN (below_drewN (below_drewN hbw _) _) _ | exact below_drewN (below_drewN hbw _) _ | exact below_drewN hbw _)⟩
end Go.Proofs.YtnaclkaapicelaaGreat

namespace Go.Proofs.YtnaclkaapicelaaGreat
open Go.RowKit
set_option maxRecDepth 100000
theorem evs_oneCell (M : List Ev) : ∀ u ∈ M.flatMap Ev.cells, u.oneCell' = true := fun u hu => by
  obtain ⟨e, -, he⟩ := List.mem_flatMap.1 hu
  simp only [Ev.cells, List.mem_cons, List.not_mem_nil, or_false] at he
  rcases he with rfl | rfl | rfl | rfl | rfl | rfl | rfl | rfl | rfl <;> rfl
/-- 'append(s, x...)' of events: s a row of the call's own, x any slice that reads. -/
theorem wpList_app_ev {w : World} {ops : Array Oper} {rest : List Oper} {o : Oper} {a : Act} {Q : Exit → Act → World → Prop} (hgd : o.guard = none) (s x : Operand)
    (ho : o.op = .call { callee := .builtin .append, args := #[s, x], argTypes := #[36, 36] })
    (base : Nat) (u : Value) (L M : List Ev) (hown : OwnL w base 65 9 u Ev.cells L) (hs : a.eval s = u)
    (B : Nat) (A : Option Addr) (m c : Nat) (hm : m = M.length) (hx : a.eval x = .slice A m c) (hr : Rd w B A (M.flatMap Ev.cells)) (hn : L.length + M.length ≤ 1000000000) (hbase : base ≤ w.heap.size)
    (h : ∀ A' c' n' w', Hid (n' = L.length + M.length) → OwnL w' base 65 9 (.slice A' n' c') Ev.cells (L ++ M) → w.grownBy w' u.ownBlock → wpList Tryz.prog ops Q rest (a.put o.dst (.slice A' n' c')) w') : wpList Tryz.prog ops Q (o :: rest) a w := by
  subst hm
  obtain ⟨i0, hi0, hz0, hz1, hz2⟩ := info_parts Tryz.infoEv
  refine wpList_append_rd hgd s x 36 ho base 65 i0 _ 9 72 Tryz.underlying36 hi0 hz0 hz1 hz2 rfl (by decide) u L.length (L.flatMap Ev.cells) hs hown B A M.length c (M.flatMap Ev.cells) hx (length_flatMap_const _ _ Ev.cells_length _) hr (rd_none Ev.cells_length (by decide) hr) (evs_oneCell M) (by unfold maxLen; omega) (by omega) hbase ?_
  intro v' w' hw hg _
  have ho' : OwnL w' base 65 9 v' Ev.cells (L ++ M) := OwnL.app (n := L.length + M.length) rfl hw
  obtain ⟨A', c', rfl⟩ := ho'.shape
  refine h A' c' _ w' (Lib.hid (by rw [List.length_append])) ?_ hg
  exact ho'
theorem rd_ev1 (w : World) (x : Ev) : Rd (w.alloc (.cells #[.int .i64 x.frame, .int .i64 x.emitter, .int .i64 x.kind, .int .i64 x.ord, .int .i64 x.asset, .int .i64 x.gain, .int .i64 x.pan, .int .i64 x.prio, .int .i64 x.len] 65)) (w.heap.size + 1) (some ⟨w.heap.size, 0, none⟩) ([x].flatMap Ev.cells) :=
  rd_new w _ 65 _ rfl _ (Nat.lt_succ_self _)
/-- Ahead of those that are not ahead of it. -/
def putK (L : List Ev) (e : Ev) : Nat := L.findIdx fun x => decide (cmpK e.key x.key ≤ 0)
def putE (L : List Ev) (e : Ev) : List Ev := insL L (putK L e) e
theorem putK_le (L : List Ev) (e : Ev) : putK L e ≤ L.length := List.findIdx_le_length
theorem putK_lt (L : List Ev) (e : Ev) (j : Nat) (hj : j < L.length) (h : j < putK L e) : decide (cmpK e.key L[j].key ≤ 0) = false := by
  have := List.not_of_lt_findIdx (p := fun x : Ev => decide (cmpK e.key x.key ≤ 0)) (xs := L) h
  simpa using this
theorem putK_at (L : List Ev) (e : Ev) (h : putK L e < L.length) : decide (cmpK e.key (L[putK L e]'h).key ≤ 0) = true :=
  List.findIdx_getElem (p := fun x : Ev => decide (cmpK e.key x.key ≤ 0)) (w := h)
/-- What is out behind k events. -/
def putO (L : List Ev) (e : Ev) (k : Nat) : List Ev := if k ≤ putK L e then L.take k else (putE L e).take (k + 1)
theorem putO_zero (L : List Ev) (e : Ev) : putO L e 0 = [] := by unfold putO; rw [if_pos (Nat.zero_le _)]; simp
theorem putO_in (L : List Ev) (e : Ev) (k : Nat) (hk : k < L.length) (h : k < putK L e) : putO L e (k + 1) = putO L e k ++ [L[k]] := by
  unfold putO
  rw [if_pos (by omega), if_pos (by omega), List.take_succ_eq_append_getElem hk]
theorem putE_get (L : List Ev) (e : Ev) (k : Nat) (hk : k < L.length) (h : putK L e ≤ k) : (putE L e)[k + 1]? = some L[k] := by
  have hp := putK_le L e
  have ht : (L.take (putK L e)).length = putK L e := by rw [List.length_take]; omega
  unfold putE insL
  rw [List.getElem?_append_right (by omega), ht, show k + 1 - putK L e = (k - putK L e) + 1 by omega, List.getElem?_cons_succ, List.getElem?_drop, show putK L e + (k - putK L e) = k by omega, List.getElem?_eq_getElem hk]
theorem putE_length (L : List Ev) (e : Ev) : (putE L e).length = L.length + 1 := insL_length _ _ _
theorem putO_out (L : List Ev) (e : Ev) (k : Nat) (hk : k < L.length) (h : putK L e < k) : putO L e (k + 1) = putO L e k ++ [L[k]] := by
  have hl := putE_length L e
  unfold putO
  rw [if_neg (by omega), if_neg (by omega), List.take_add_one, putE_get L e k hk (by omega)]
  rfl
theorem putO_mid (L : List Ev) (e : Ev) (k : Nat) (hk : k < L.length) (h : k = putK L e) : putO L e (k + 1) = (putO L e k ++ [e]) ++ [L[k]] := by
  have hl := putE_length L e
  unfold putO
  rw [if_neg (by omega), if_pos (by omega), List.take_add_one, putE_get L e k hk (by omega)]
  show _ ++ [L[k]] = _ ++ [L[k]]
  congr 1
  unfold putE insL
  rw [← h, List.take_append, List.length_take, Nat.min_eq_left (by omega), List.take_of_length_le (by rw [List.length_take]; omega), show k + 1 - k = 1 by omega]
  rfl
theorem putO_end (L : List Ev) (e : Ev) (h : putK L e < L.length) : putO L e L.length = putE L e := by
  unfold putO
  rw [if_neg (by omega), List.take_of_length_le (by rw [putE_length]; exact Nat.le_refl _)]
theorem putO_last (L : List Ev) (e : Ev) (h : putK L e = L.length) : putO L e L.length ++ [e] = putE L e := by
  unfold putO putE
  rw [if_pos (by omega), h, insL_end, List.take_length]
theorem putO_length (L : List Ev) (e : Ev) (k : Nat) : (putO L e k).length ≤ k + 1 := by
  unfold putO
  split <;> (rw [List.length_take]; omega)
set_option maxHeartbeats 8000000 in
theorem r11Put_any (A : Option Addr) (c : Nat) (L : List Ev) (e : Ev) (w : World) (hl : L.length ≤ 1000000) (hr : Rd w w.heap.size A (L.flatMap Ev.cells)) :
    Calls Tryz.prog 119 #[.slice A L.length c, e.val] w fun r w' => ∃ A' c' n', r = .returned (.slice A' n' c') ∧ OwnL w' w.heap.size 65 9 (.slice A' n' c') Ev.cells (putE L e) ∧ Below w.heap.size w w' := by
  obtain ⟨n, hn⟩ : ∃ n, L.length = n := ⟨_, rfl⟩
  obtain ⟨p, hp⟩ : ∃ p, putK L e = p := ⟨_, rfl⟩
  have hpn : p ≤ n := by rw [← hp, ← hn]; exact putK_le L e
  rw [hn] at hl ⊢
  have HN := Lib.hid hn
  have HP := Lib.hid hp
  have HR := Lib.hid hr
  unfold Ev.val
  clear hn hp hr
  go_enter Tryz.func119, Tryz.ntmps119
  go_upto_region 3 with fail
  obtain ⟨W, hW⟩ : ∃ W, W = (w.alloc (.cells e.cells.toArray 65)).alloc (.cells #[] 65) := ⟨_, rfl⟩
  have hW' := hW
  simp only [Ev.cells] at hW'
  rw [← hW']
  have hke : Blk W w.heap.size 65 e.cells.toArray := by rw [hW]; exact (by repeat (first | ((with_reducible refine blk_at ?_); first | rfl | (simp; done)) | (with_reducible refine Blk.alloc ?_ _) | (with_reducible refine Blk.drew ?_)))
  have hbw : Below w.heap.size w W := by rw [hW]; exact bAlloc (bAlloc (Below.refl _ _) _) _
  have hsz : W.heap.size = w.heap.size + 1 + 1 := by rw [hW]; simp
  have ho0 : OwnL W (w.heap.size + 1) 65 9 (.slice (some ⟨w.heap.size + 1, 0, none⟩) 0 0) Ev.cells ([] : List Ev) := by
    rw [hW]
    have := OwnL.lit (w := w.alloc (.cells e.cells.toArray 65)) (base := w.heap.size + 1) (E := 65) (f := Ev.cells) [] #[] (by simp) (by simp) Ev.cells_length rfl (n := 0) (c := 0) rfl rfl
    simpa using this
  have HK := Lib.hid hke
  have HBW := Lib.hid hbw
  have HO0 := Lib.hid (show OwnL W (w.heap.size + 1) 65 9 (.slice (some ⟨w.heap.size + 1, 0, none⟩) 0 0) Ev.cells (putO L e 0) by rw [putO_zero]; exact ho0)
  have hlw : w.heap.size < W.heap.size := by omega
  clear hW hW' hke hbw ho0 hsz
  go_wp2_with fail
  go_loopw [5, 6, 7] (fun u b v wr => ∃ k : Nat, k ≤ n ∧ v = .int .i64 k ∧ b = .bool (decide (p < k)) ∧ Hid (OwnL wr (w.heap.size + 1) 65 9 u Ev.cells (putO L e k)) ∧ Hid (Blk wr w.heap.size 65 e.cells.toArray) ∧ Hid (Below w.heap.size w wr)) (fun _ _ v _ => n - (intOf v).toNat)
  case atStart => exact ⟨0, Nat.zero_le _, rfl, by simp, HO0, HK, HBW⟩
  case round =>
    obtain ⟨k, hk, rfl, rfl, HO, HKR, HBR⟩ := hrel
    clear HO0 HK HBW hlw
    have hs0 := HKR.out.lt
    obtain ⟨e0, e1, e2, e3, e4, e5, e6, e7, e8⟩ := Blk.ev HKR.out
    by_cases hlt : k < n
    · have hkL : k < L.length := by rw [HN.out]; exact hlt
      obtain ⟨b, off, hA, hbl, x0, x1, x2, x3, x4, x5, x6, x7, x8⟩ := (HR.out.below HBR.out (Nat.le_refl _)).ev hkL
      subst hA
      have hblw := Nat.lt_trans hbl hs0
      have HOL := Lib.hid (putO_length L e k)
      have HLT := Lib.hid (putK_lt L e k hkL)
      have HAT := Lib.hid (fun h : putK L e = k => (show decide (cmpK e.key L[k].key ≤ 0) = true by
        have := putK_at L e (by rw [h]; exact hkL)
        simpa only [h] using this))
      have HPI := Lib.hid (putO_in L e k hkL)
      have HPM := Lib.hid (putO_mid L e k hkL)
      have HPO := Lib.hid (putO_out L e k hkL)
      obtain ⟨x, hx⟩ : ∃ x, L[k] = x := ⟨_, rfl⟩
      rw [hx] at x0 x1 x2 x3 x4 x5 x6 x7 x8 HLT HAT HPI HPM HPO
      obtain ⟨q, hq⟩ : ∃ q, cmpK e.key x.key = q := ⟨_, rfl⟩
      rw [hq] at HLT HAT
      have HCMP : Hid (∀ w, Calls Tryz.prog 138 #[e.key.val, x.key.val] w fun r w' => r = .returned (.int .i64 q) ∧ Below w.heap.size w w') := Lib.hid (fun w => by rw [← hq]; exact r11Compare_any _ _ _)
      clear hx hq hkL
      rcases Nat.lt_trichotomy p k with h | h | h
      · have hd : decide (p < k) = true := decide_eq_true h
        have HNX := Lib.hid (HPO.out (by rw [HP.out]; exact h))
        rw [hd]
        clear HLT HAT HPI HPM HPO
        go_wp2_with fail
        refine wp_region_mild (by kernel_rfl) (by kernel_rfl) ?_
        repeat (go_big_quiet_step (fail))
        refine wpQuiet_nil ?_
        intro w1 hw'
        obtain ⟨⟨wq, k1⟩, hw''⟩ := hw'
        subst hw''
        obtain ⟨k1c, k1f⟩ := bcl k1
        have k1z := k1.size
        go_wp2_with (first | (at_builtin; refine wpList_app_ev rfl (.tmp 32) (.tmp 37) rfl (w.heap.size + 1) _ (putO L e k) [x] ((HO.out.below k1).alloc _) rfl _ _ 1 1 rfl rfl (rd_ev1 _ x) (by have := HOL.out; simp only [List.length_cons, List.length_nil]; omega) (by simp; omega) ?_; intro A' c' n' w2 hn' ho' hg'))
        have HO2 : Hid (OwnL w2 (w.heap.size + 1) 65 9 (.slice A' n' c') Ev.cells (putO L e (k + 1))) := Lib.hid (by rw [HNX.out]; exact ho')
        have HK2 := Lib.hid (((HKR.out.on k1).alloc _).grown hg' (fun h => by have := HO.out.base_le _ h; omega))
        have HB2 := Lib.hid (Below.grown (bAlloc (bTrans HBR.out k1) _) hg' (by simp; omega) (fun g h => by have := HO.out.base_le g h; omega))
        clear ho' hg' k1 k1c k1f HO HKR HBR
        go_wp2
        go_roundw
        case rel => exact ⟨k + 1, by omega, by go_num, by rw [decide_eq_true (show p < k + 1 by omega)], HO2, HK2, HB2⟩
        case measure => simp [intOf]; omega
      · have hd : decide (p < k) = false := decide_eq_false (by omega)
        have hc := HAT.out (by rw [HP.out]; exact h)
        have HNX := Lib.hid (HPM.out (by rw [HP.out]; exact h.symm))
        rw [hd]
        clear HLT HAT HPI HPM HPO
        go_wp2_with fail
        refine wp_region_mild (by kernel_rfl) (by kernel_rfl) ?_
        repeat (go_big_quiet_step ((go_at_call 138; exact mild_of (HCMP.out _))))
        refine wpQuiet_nil ?_
        intro w1 hw'
        obtain ⟨⟨wq, k1⟩, hw''⟩ := hw'
        subst hw''
        obtain ⟨k1c, k1f⟩ := bcl k1
        have k1z := k1.size
        go_upto_region 8 with (first | (at_builtin; refine wpList_app_ev rfl (.tmp 28) (.tmp 30) rfl (w.heap.size + 1) _ (putO L e k) [e] ((HO.out.below k1).alloc _) rfl _ _ 1 1 rfl rfl (rd_ev1 _ e) (by have := HOL.out; simp only [List.length_cons, List.length_nil]; omega) (by simp; omega) ?_; intro A' c' n' w2 hn' ho' hg'))
        have HO2 : Hid (OwnL w2 (w.heap.size + 1) 65 9 (.slice A' n' c') Ev.cells (putO L e k ++ [e])) := Lib.hid ho'
        have HK2 := Lib.hid (((HKR.out.on k1).alloc _).grown hg' (fun h => by have := HO.out.base_le _ h; omega))
        have HB2 := Lib.hid (Below.grown (bAlloc (bTrans HBR.out k1) _) hg' (by simp; omega) (fun g h => by have := HO.out.base_le g h; omega))
        have hcc : ∀ o, w2.cell? ⟨b, o, none⟩ = wr.cell? ⟨b, o, none⟩ := fun o => (HB2.out.cell (p := ⟨b, o, none⟩) hbl).trans (HBR.out.cell (p := ⟨b, o, none⟩) hbl).symm
        have y0 := (hcc _).trans x0
        have y1 := (hcc _).trans x1
        have y2 := (hcc _).trans x2
        have y3 := (hcc _).trans x3
        have y4 := (hcc _).trans x4
        have y5 := (hcc _).trans x5
        have y6 := (hcc _).trans x6
        have y7 := (hcc _).trans x7
        have y8 := (hcc _).trans x8
        have hs2 := HK2.out.lt
        have hblw2 := Nat.lt_trans hbl hs2
        clear hcc x0 x1 x2 x3 x4 x5 x6 x7 x8 e0 e1 e2 e3 e4 e5 e6 e7 e8 ho' hg' k1 k1c k1f k1z HO HKR HBR hs0 hblw hc hd HCMP
        obtain ⟨A2, c2, n2, rfl, rfl, rfl⟩ : ∃ A2 c2 n2, A' = A2 ∧ c' = c2 ∧ n' = n2 := ⟨_, _, _, rfl, rfl, rfl⟩
        go_wp2_with (first | (at_builtin; refine wpList_app_ev rfl (.tmp 32) (.tmp 37) rfl (w.heap.size + 1) _ (putO L e k ++ [e]) [x] (HO2.out.alloc _) rfl _ _ 1 1 rfl rfl (rd_ev1 _ x) (by have := HOL.out; simp only [List.length_append, List.length_cons, List.length_nil]; omega) (by simp; omega) ?_; intro A3 c3 n3 w3 hn3 ho3 hg3))
        have HO3 : Hid (OwnL w3 (w.heap.size + 1) 65 9 (.slice A3 n3 c3) Ev.cells (putO L e (k + 1))) := Lib.hid (by rw [HNX.out]; exact ho3)
        have HK3 := Lib.hid ((HK2.out.alloc _).grown hg3 (fun h => by have := HO2.out.base_le _ h; omega))
        have HB3 := Lib.hid (Below.grown (bAlloc HB2.out _) hg3 (by have := HB2.out.size; simp; omega) (fun g h => by have := HO2.out.base_le g h; omega))
        clear ho3 hg3 HO2 HK2 HB2
        go_wp2
        go_roundw
        case rel => exact ⟨k + 1, by omega, by go_num, by rw [decide_eq_true (show p < k + 1 by omega)], HO3, HK3, HB3⟩
        case measure => simp [intOf]; omega
      · have hd : decide (p < k) = false := decide_eq_false (by omega)
        have hc := HLT.out (by rw [HP.out]; exact h)
        have HNX := Lib.hid (HPI.out (by rw [HP.out]; exact h))
        rw [hd]
        clear HLT HAT HPI HPM HPO
        go_wp2_with fail
        refine wp_region_mild (by kernel_rfl) (by kernel_rfl) ?_
        repeat (go_big_quiet_step ((go_at_call 138; exact mild_of (HCMP.out _))))
        refine wpQuiet_nil ?_
        intro w1 hw'
        obtain ⟨⟨wq, k1⟩, hw''⟩ := hw'
        subst hw''
        obtain ⟨k1c, k1f⟩ := bcl k1
        have k1z := k1.size
        go_wp2_with (first | (at_builtin; refine wpList_app_ev rfl (.tmp 32) (.tmp 37) rfl (w.heap.size + 1) _ (putO L e k) [x] ((HO.out.below k1).alloc _) rfl _ _ 1 1 rfl rfl (rd_ev1 _ x) (by have := HOL.out; simp only [List.length_cons, List.length_nil]; omega) (by simp; omega) ?_; intro A' c' n' w2 hn' ho' hg'))
        have HO2 : Hid (OwnL w2 (w.heap.size + 1) 65 9 (.slice A' n' c') Ev.cells (putO L e (k + 1))) := Lib.hid (by rw [HNX.out]; exact ho')
        have HK2 := Lib.hid (((HKR.out.on k1).alloc _).grown hg' (fun h => by have := HO.out.base_le _ h; omega))
        have HB2 := Lib.hid (Below.grown (bAlloc (bTrans HBR.out k1) _) hg' (by simp; omega) (fun g h => by have := HO.out.base_le g h; omega))
        clear ho' hg' k1 k1c k1f HO HKR HBR
        go_wp2
        go_roundw
        case rel => exact ⟨k + 1, by omega, by go_num, by rw [decide_eq_false (show ¬ p < k + 1 by omega)], HO2, HK2, HB2⟩
        case measure => simp [intOf]; omega
    · obtain rfl : k = n := by omega
      have hlw := hs0
      rcases Nat.lt_or_ge p k with h | h
      · have hd : decide (p < k) = true := decide_eq_true h
        rw [hd]
        have HNX := Lib.hid (putO_end L e (by rw [HP.out, HN.out]; exact h))
        obtain ⟨A', c', rfl⟩ := HO.out.shape
        go_wp2
        go_ret
        exact ⟨A', c', _, rfl, by have e := HNX.out; rw [HN.out] at e; rw [← e]; exact HO.out.more (Nat.le_succ _), HBR.out⟩
      · have hd : decide (p < k) = false := decide_eq_false (by omega)
        rw [hd]
        have HNX := Lib.hid (putO_last L e (by rw [HP.out, HN.out]; omega))
        have HOL := Lib.hid (putO_length L e k)
        go_wp2_with (first | (at_builtin; refine wpList_app_ev rfl (.tmp 41) (.tmp 43) rfl (w.heap.size + 1) _ (putO L e k) [e] (HO.out.alloc _) rfl _ _ 1 1 rfl rfl (rd_ev1 _ e) (by have := HOL.out; simp only [List.length_cons, List.length_nil]; omega) (by simp; omega) ?_; intro A' c' n' w2 hn' ho' hg'))
        have HB2 := Lib.hid (Below.grown (bAlloc HBR.out _) hg' (by have := HBR.out.size; simp; omega) (fun g h => by have := HO.out.base_le g h; omega))
        go_wp2
        go_ret
        exact ⟨A', c', _, rfl, by rw [← HNX.out, HN.out]; exact OwnL.more ho' (Nat.le_succ _), HB2.out⟩
end Go.Proofs.YtnaclkaapicelaaGreat

namespace Go.Proofs.YtnaclkaapicelaaGreat
open Go.RowKit
set_option maxRecDepth 100000
set_option linter.unusedSimpArgs false
theorem cntE_take (L : List Ev) (em kd : Int) (i : Nat) (hi : i < L.length) : cntE (L.take (i + 1)) em kd = cntE (L.take i) em kd + if sameK em kd L[i] then 1 else 0 := by
  unfold cntE
  rw [List.take_succ_eq_append_getElem hi, List.filter_append, List.length_append]
  congr 1
  cases h : sameK em kd L[i] <;> simp [h]
theorem cntE_take_le (L : List Ev) (em kd : Int) (i : Nat) : cntE (L.take i) em kd ≤ i := Nat.le_trans (cntE_le _ _ _) (by rw [List.length_take]; omega)
def putTold (w : World) (M : List Ev) : Told := ⟨fun v => ∃ A c n, v = .slice A n c, fun v W => OwnL W w.heap.size 65 9 v Ev.cells M⟩
theorem putTold_st {w : World} {M : List Ev} : ∀ v W U, (putTold w M).R v W → Grown W U → (putTold w M).R v U := fun _ _ _ h k => h.below k
theorem put_told {w W : World} (hW : Grown w W) (A : Option Addr) (c n : Nat) (L : List Ev) (x : Ev) (hn : n = L.length) (hl : L.length ≤ 1000000) (hr : Rd w w.heap.size A (L.flatMap Ev.cells)) :
    Calls Tryz.prog 119 #[.slice A n c, x.val] W fun e w' => ∃ v, e = .returned v ∧ ((putTold w (putE L x)).S v ∧ (putTold w (putE L x)).R v w') ∧ Grown W w' := by
  subst hn
  refine (r11Put_any A c L x W hl ((hr.below hW (Nat.le_refl _)).more (Below.size hW))).mono ?_
  rintro e w' ⟨A', c', n', rfl, ho, hb⟩
  exact ⟨_, rfl, ⟨⟨A', c', n', rfl⟩, ho.more (Below.size hW)⟩, hb⟩
/-- What the document's addition of an event that may be answers. -/
def AddPost (w : World) (A : Option Addr) (n c : Nat) (F : Int) (L : List Ev) (x : Ev) (e : Ending) (w' : World) : Prop :=
  if 64 ≤ L.length ∨ 15 < cntE L x.emitter x.kind then e = .returned (.tuple #[.slice A n c, .agg #[.int .i64 0, .int .i64 0, .int .i64 0, .int .i64 0], .int .i64 8]) ∧ Below w.heap.size w w'
  else ∃ A' c' n', e = .returned (.tuple #[.slice A' n' c', .agg #[.int .i64 F, .int .i64 x.emitter, .int .i64 x.kind, .int .i64 (cntE L x.emitter x.kind)], .int .i64 0]) ∧ OwnL w' w.heap.size 65 9 (.slice A' n' c') Ev.cells (putE L (numE F L x)) ∧ Below w.heap.size w w'
set_option maxHeartbeats 8000000 in
theorem r11Add_good (A : Option Addr) (c : Nat) (F : Int) (L : List Ev) (x : Ev) (w : World) (h : evOk (x.at_ F 0) = true) (hl : L.length ≤ 1000000) (hr : Rd w w.heap.size A (L.flatMap Ev.cells)) :
    Calls Tryz.prog 81 #[.slice A L.length c, .int .i64 F, x.val] w (AddPost w A L.length c F L x) := by
  have HRT : Hid (∀ W, Calls Tryz.prog 118 #[.agg #[.int .i64 F, .int .i64 x.emitter, .int .i64 x.kind, .int .i64 0, .int .i64 x.asset, .int .i64 x.gain, .int .i64 x.pan, .int .i64 x.prio, .int .i64 x.len]] W fun e w' => e = .returned (.bool true) ∧ Below W.heap.size W w') := Lib.hid (fun W => (r11Right_any (x.at_ F 0) W).mono fun e w' ⟨he, hb⟩ => ⟨by rw [he, h], hb⟩)
  obtain ⟨n, hn⟩ : ∃ n, L.length = n := ⟨_, rfl⟩
  rw [hn] at hl ⊢
  have HN := Lib.hid hn
  have HR := Lib.hid hr
  clear h hn hr
  unfold Ev.val
  go_enter Tryz.func81, Tryz.ntmps81
  go_upto_region 1 with fail
  refine named2 (F := fun W => Code.wp _ _ _ _ W) ?_
  intro w1 k0 k1 hb1 hz1
  have hl0 := k0.lt
  have q0 := k0.cell 0
  have q3 := k0.cell 3
  have g0 := k0.frozen 0
  have g3 := k0.frozen 3
  simp only [List.getElem?_toArray, List.getElem?_cons_zero, List.getElem?_cons_succ] at q0 q3
  go_upto_region 3 with fail
  obtain ⟨w2, hw2⟩ : ∃ w2, (w1.setCell ⟨w.heap.size, 0, none⟩ (.int .i64 F)).setCell ⟨w.heap.size, 3, none⟩ (.int .i64 0) = w2 := ⟨_, rfl⟩
  have j0 : Blk w2 w.heap.size 65 #[.int .i64 F, .int .i64 x.emitter, .int .i64 x.kind, .int .i64 0, .int .i64 x.asset, .int .i64 x.gain, .int .i64 x.pan, .int .i64 x.prio, .int .i64 x.len] := by rw [← hw2]; exact (k0.set 0 (.int .i64 F)).set 3 (.int .i64 0)
  have j1 : Blk w2 (w.heap.size + 1) 63 #[.int .i64 0, .int .i64 0, .int .i64 0, .int .i64 0] := by rw [← hw2]; exact (k1.farG (by omega) _ _).farG (by omega) _ _
  have jb : Below w.heap.size w w2 := by rw [← hw2]; exact bSetG (bSetG hb1 (Nat.le_refl _) _ _) (Nat.le_refl _) _ _
  rw [hw2]
  clear hw2 k0 k1 hb1 hz1 hl0 q0 q3 g0 g3
  obtain ⟨e0, e1, e2, e3, e4, e5, e6, e7, e8⟩ := Blk.ev j0
  have J0 := Lib.hid j0
  have J1 := Lib.hid j1
  have JB := Lib.hid jb
  have hl0 := j0.lt
  clear j0 j1 jb
  go_upto_region 4 with (first | (go_at_call 118; refine (HRT.out _).mono ?_; rintro e w3 ⟨rfl, hb3⟩; have G0 := Lib.hid (J0.out.on hb3); have G1 := Lib.hid (J1.out.on hb3); have GB := Lib.hid (bTrans JB.out hb3); clear hb3))
  go_wp2_with fail
  go_loopw [9] (fun v wr => ∃ i : Nat, i ≤ n ∧ v = .int .i64 i ∧ Hid (Blk wr w.heap.size 65 #[.int .i64 F, .int .i64 x.emitter, .int .i64 x.kind, .int .i64 (cntE (L.take i) x.emitter x.kind : Nat), .int .i64 x.asset, .int .i64 x.gain, .int .i64 x.pan, .int .i64 x.prio, .int .i64 x.len]) ∧ Hid (Blk wr (w.heap.size + 1) 63 #[.int .i64 0, .int .i64 0, .int .i64 0, .int .i64 0]) ∧ Hid (Below w.heap.size w wr)) (fun v _ => n - (intOf v).toNat)
  case atStart => exact ⟨0, Nat.zero_le _, rfl, by simpa [cntE] using G0, G1, GB⟩
  case round =>
    obtain ⟨i, hi, rfl, HE, HK, HB⟩ := hrel
    clear G0 G1 GB J0 J1 JB hl0 e0 e1 e2 e3 e4 e5 e6 e7 e8
    obtain ⟨e0, e1, e2, e3, e4, e5, e6, e7, e8⟩ := Blk.ev HE.out
    have hl0 := HE.out.lt
    have g3 := HE.out.frozen 3
    have hci := cntE_take_le L x.emitter x.kind i
    by_cases hlt : i < n
    · have hiL : i < L.length := by rw [HN.out]; exact hlt
      obtain ⟨b, off, hA, hbl, x0, x1, x2, -, -, -, -, -, -⟩ := (HR.out.below HB.out (Nat.le_refl _)).ev hiL
      subst hA
      have hblw := Nat.lt_trans hbl hl0
      have HCT := Lib.hid (cntE_take L x.emitter x.kind i hiL)
      obtain ⟨y, hy⟩ : ∃ y, L[i] = y := ⟨_, rfl⟩
      rw [hy] at x0 x1 x2 HCT
      clear hy hiL
      obtain ⟨ct, hct⟩ : ∃ ct, cntE (L.take i) x.emitter x.kind = ct := ⟨_, rfl⟩
      rw [hct] at HE HCT e3 hci
      clear hct
      by_cases he : y.emitter = x.emitter
      · have h1 : (y.emitter == x.emitter) = true := by simpa using he
        by_cases hk : y.kind = x.kind
        · have h2 : (y.kind == x.kind) = true := by simpa using hk
          have HC2 : Hid (cntE (L.take (i + 1)) x.emitter x.kind = ct + 1) := Lib.hid (by rw [HCT.out, if_pos]; unfold sameK; rw [decide_eq_true he, decide_eq_true hk]; rfl)
          clear he hk HCT
          go_wp2_with fail
          go_quiet (fail)
          go_wp2_with fail
          go_roundw
          case rel => exact ⟨i + 1, by omega, by go_num, Lib.hid (by rw [HC2.out]; exact (HE.out.drewN _).set 3 _), Lib.hid ((HK.out.drewN _).farG (by omega) _ _), Lib.hid (bSetG (below_drewN HB.out _) (Nat.le_refl _) _ _)⟩
          case measure => simp [intOf]; omega
        · have h2 : (y.kind == x.kind) = false := by simpa using hk
          have HC2 : Hid (cntE (L.take (i + 1)) x.emitter x.kind = ct) := Lib.hid (by rw [HCT.out, if_neg]; rfl; unfold sameK; rw [decide_eq_false hk]; simp)
          clear he hk HCT
          go_wp2_with fail
          go_quiet (fail)
          go_wp2_with fail
          go_roundw
          case rel => exact ⟨i + 1, by omega, by go_num, Lib.hid (by rw [HC2.out]; exact HE.out.drewN _), Lib.hid (HK.out.drewN _), Lib.hid (below_drewN HB.out _)⟩
          case measure => simp [intOf]; omega
      · have h1 : (y.emitter == x.emitter) = false := by simpa using he
        have HC2 : Hid (cntE (L.take (i + 1)) x.emitter x.kind = ct) := Lib.hid (by rw [HCT.out, if_neg]; rfl; unfold sameK; rw [decide_eq_false he]; simp)
        clear he HCT
        go_wp2_with fail
        go_quiet (fail)
        go_wp2_with fail
        go_roundw
        case rel => exact ⟨i + 1, by omega, by go_num, Lib.hid (by rw [HC2.out]; exact HE.out.drewN _), Lib.hid (HK.out.drewN _), Lib.hid (below_drewN HB.out _)⟩
        case measure => simp [intOf]; omega
    · obtain rfl : i = n := by omega
      have hL : L.take i = L := by rw [← HN.out, List.take_length]
      rw [hL] at HE e3 hci
      obtain ⟨ct, hct⟩ : ∃ ct, cntE L x.emitter x.kind = ct := ⟨_, rfl⟩
      rw [hct] at HE e3 hci
      have HCT := Lib.hid hct
      clear hL hct
      have hl1 := HK.out.lt
      obtain ⟨y0, y1, y2, y3⟩ := Blk.key HK.out
      have z0 := HK.out.frozen 0
      have z1 := HK.out.frozen 1
      have z2 := HK.out.frozen 2
      have z3 := HK.out.frozen 3
      by_cases hfull : 64 ≤ i ∨ 15 < ct
      · have HP : Hid (∀ e w', e = .returned (.tuple #[.slice A i c, .agg #[.int .i64 0, .int .i64 0, .int .i64 0, .int .i64 0], .int .i64 8]) ∧ Below w.heap.size w w' → AddPost w A i c F L x e w') := Lib.hid (fun e w' h => by
          unfold AddPost
          rw [if_pos (by rw [HN.out, HCT.out]; exact hfull)]
          exact h)
        have HBX := Lib.hid (bSetG (bSetG (bSetG (bSetG HB.out (show w.heap.size ≤ w.heap.size + 1 by omega) 0 (.int .i64 0)) (show w.heap.size ≤ w.heap.size + 1 by omega) 1 (.int .i64 0)) (show w.heap.size ≤ w.heap.size + 1 by omega) 2 (.int .i64 0)) (show w.heap.size ≤ w.heap.size + 1 by omega) 3 (.int .i64 0))
        by_cases h64 : 64 ≤ i
        · have g1 : decide ((64 : Int) ≤ (i : Int)) = true := decide_eq_true (by omega)
          clear hfull
          go_wp2_with fail
          refine bodyPost_ret (v := .tuple #[.slice A i c, .agg #[.int .i64 0, .int .i64 0, .int .i64 0, .int .i64 0], .int .i64 8]) (by simp [results, Tryz.results81, go_sem, y0, y1, y2, y3]) rfl (HP.out _ _ ⟨rfl, HBX.out⟩)
        · have g1 : decide ((64 : Int) ≤ (i : Int)) = false := decide_eq_false (by omega)
          have g2 : decide ((15 : Int) < (ct : Int)) = true := decide_eq_true (by omega)
          clear hfull h64
          go_wp2_with fail
          refine bodyPost_ret (v := .tuple #[.slice A i c, .agg #[.int .i64 0, .int .i64 0, .int .i64 0, .int .i64 0], .int .i64 8]) (by simp [results, Tryz.results81, go_sem, y0, y1, y2, y3]) rfl (HP.out _ _ ⟨rfl, HBX.out⟩)
      · have HP : Hid (∀ e w', (∃ A' c' n', e = .returned (.tuple #[.slice A' n' c', .agg #[.int .i64 F, .int .i64 x.emitter, .int .i64 x.kind, .int .i64 ct], .int .i64 0]) ∧ OwnL w' w.heap.size 65 9 (.slice A' n' c') Ev.cells (putE L (numE F L x)) ∧ Below w.heap.size w w') → AddPost w A i c F L x e w') := Lib.hid (fun e w' h => by
          unfold AddPost
          rw [if_neg (by rw [HN.out, HCT.out]; exact hfull), HCT.out]
          exact h)
        have HPT : Hid (∀ W, Grown wr W → Calls Tryz.prog 119 #[.slice A i c, .agg #[.int .i64 F, .int .i64 x.emitter, .int .i64 x.kind, .int .i64 ct, .int .i64 x.asset, .int .i64 x.gain, .int .i64 x.pan, .int .i64 x.prio, .int .i64 x.len]] W fun e w' => ∃ v, e = .returned v ∧ ((putTold wr (putE L (numE F L x))).S v ∧ (putTold wr (putE L (numE F L x))).R v w') ∧ Grown W w') := Lib.hid (fun W hW => by
          have := put_told hW A c i L (numE F L x) HN.out.symm (by rw [HN.out]; exact hl) ((HR.out.below HB.out (Nat.le_refl _)).more HB.out.size)
          unfold numE at this ⊢
          rw [HCT.out] at this ⊢
          exact this)
        have g1 : decide ((64 : Int) ≤ (i : Int)) = false := decide_eq_false (by omega)
        have g2 : decide ((15 : Int) < (ct : Int)) = false := decide_eq_false (by omega)
        clear hfull
        go_upto_region 12 with fail
        have hKp := Keeps.base wr
        refine wp_region_mixed [.pure, .held, .make, .pure, .held, .pure, .tail, .pure] (fun _ => putTold wr (putE L (numE F L x))) (by kernel_rfl) (by kernel_rfl) ?_
        repeat (first | (refine mix_pure rfl rfl rfl (fun K hK => ?_); go_big_quiet_op; refine hK _ ?_; clear hK K) | (refine mix_held rfl rfl rfl (by assumption) (fun K hK => ?_); go_big_quiet_op; refine hK _ ?_; clear hK K))
        refine mix_make rfl rfl (by assumption) putTold_st (fun W hW => ?_) ?_
        · have HS2 := Lib.hid (HPT.out W hW)
          go_simp
          exact HS2.out
        rintro v ⟨A', c', n', rfl⟩ hKp2
        simp only [Act.put, List.setIfInBounds_toArray, List.set_cons_zero, List.set_cons_succ]
        repeat (first | (refine mix_pure rfl rfl rfl (fun K hK => ?_); go_big_quiet_op; refine hK _ ?_; clear hK K) | (refine mix_held rfl rfl rfl (by assumption) (fun K hK => ?_); go_big_quiet_op; refine hK _ ?_; clear hK K))
        refine mix_store rfl rfl 63 (.tmp 7) (.tmp 69) rfl (w.heap.size + 1) 0 #[.int .i64 F, .int .i64 x.emitter, .int .i64 x.kind, .int .i64 ct] rfl rfl (fun W hW => ?_) (by kernel_rfl) (by simp [Value.oneCell']) ?_
        · have hW : Grown wr W := hW.1
          exact Blk.there (HK.out.on hW) (by show 0 + 4 ≤ 4; decide)
        simp only [Act.put, List.setIfInBounds_toArray, List.set_cons_zero, List.set_cons_succ]
        repeat (first | (refine mix_pure rfl rfl rfl (fun K hK => ?_); go_big_quiet_op; refine hK _ ?_; clear hK K) | (refine mix_held rfl rfl rfl (by assumption) (fun K hK => ?_); go_big_quiet_op; refine hK _ ?_; clear hK K))
        refine mix_nil ?_
        rintro W' ⟨W, ⟨hg, hR⟩, rfl⟩
        have hR : OwnL W wr.heap.size 65 9 (.slice A' n' c') Ev.cells (putE L (numE F L x)) := hR
        have hkW := HK.out.on hg
        have hk' := hkW.whole [.int .i64 F, .int .i64 x.emitter, .int .i64 x.kind, .int .i64 ct] rfl
        have ho' := OwnL.kept (row := some (w.heap.size + 1)) hR (oSetCells (World.grownBy.refl W _) 0 [.int .i64 F, .int .i64 x.emitter, .int .i64 x.kind, .int .i64 ct]) (.inr (Blk.apart hkW hR (by decide)))
        have hb' := bSetCells (HB.out.trans (Below.mono hg (Nat.le_of_lt hl0))) (show w.heap.size ≤ w.heap.size + 1 by omega) 0 [.int .i64 F, .int .i64 x.emitter, .int .i64 x.kind, .int .i64 ct]
        obtain ⟨y0', y1', y2', y3'⟩ := Blk.key hk'
        clear hKp hKp2 e0 e1 e2 e3 e4 e5 e6 e7 e8 y0 y1 y2 y3 z0 z1 z2 z3 g3 hR hkW hk' hg
        obtain ⟨W5, hW5⟩ : ∃ W5, W.setCells (w.heap.size + 1) 0 [.int .i64 F, .int .i64 x.emitter, .int .i64 x.kind, .int .i64 ct] = W5 := ⟨_, rfl⟩
        rw [hW5] at ho' hb' y0' y1' y2' y3'
        rw [hW5]
        clear hW5
        have HO' := Lib.hid ho'
        have HB' := Lib.hid hb'
        clear ho' hb'
        go_wp2_with fail
        refine bodyPost_ret (v := .tuple #[.slice A' n' c', .agg #[.int .i64 F, .int .i64 x.emitter, .int .i64 x.kind, .int .i64 ct], .int .i64 0]) (by simp [results, Tryz.results81, go_sem, y0', y1', y2', y3']) rfl (HP.out _ _ ⟨A', c', n', rfl, HO'.out.more (Nat.le_of_lt hl0), HB'.out⟩)
end Go.Proofs.YtnaclkaapicelaaGreat
