/-
  The walks beneath: AppAny, R11b.
-/
import Derived.RegionTactic
import Derived.OwnWalk
import Derived.Test.YtibeihcpehikoaaGreatNk30
namespace Go.Proofs.YtibeihcpehikoaaGreat
open Go.RowKit
set_option maxRecDepth 100000
set_option maxHeartbeats 8000000
section
section
variable {P : Program}
theorem append_nil_src (w : World) (base : Nat) (t ty e : TypeId) (i : TypeInfo) (size : Nat) (ht : P.underlying t = some (.slice e)) (hi : P.info? e = some i) (v : Value) (n : Nat) (xs : List Value) (hown : w.ownsRow base e size v n xs) (c : Nat) :
  (Builtin.append_ #[t, t] ty #[v, .slice none 0 c]).run P w = .ok v w := by
 rcases hown.2 with ⟨rfl, rfl⟩ | ⟨g, cap, cur, rfl, _, _, hnc, _⟩
 ·simp [Builtin.append_, run_underlying ht, sizeOf, typeInfo, hi, Builtin.lenOf, Builtin.firstCells]
 ·simp [Builtin.append_, run_underlying ht, sizeOf, typeInfo, hi, Builtin.lenOf, Builtin.firstCells, hnc, storeCells]
theorem append_rd_run (w : World) (base : Nat) (t ty e : TypeId) (i : TypeInfo) (z : Value) (size bytes : Nat) (ht : P.underlying t = some (.slice e)) (hi : P.info? e = some i) (hz : i.zero = some z)
  (hsize : i.size = size) (hby : i.bytes = bytes) (hzs : z.cells.size = size) (hsz : 0 < size) (v : Value) (n : Nat) (xs : List Value) (hown : w.ownsRow base e size v n xs)
  (B : Nat) (A : Option Addr) (m c : Nat) (news : List Value) (hl : news.length = m * size) (hr : Rd w B A news) (hA : A = none → m = 0) (h1 : ∀ u ∈ news, u.oneCell' = true) (h63 : n + m ≤ maxLen) (hbytes : (n + m) * bytes ≤ 140737488355328) (hbase : base ≤ w.heap.size) :
  ∃ v' w', (Builtin.append_ #[t, t] ty #[v, .slice A m c]).run P w = .ok v' w' ∧ w'.ownsRow base e size v' (n + m) (xs ++ news) ∧ w.grownBy w' v.ownBlock ∧ (v'.ownBlock = v.ownBlock ∨ v'.ownBlock = some w.heap.size) := by
 rcases A with _ | ad
 ·obtain rfl := hA rfl
  obtain rfl : news = [] := List.eq_nil_of_length_eq_zero (by simpa using hl)
  exact ⟨v, w, append_nil_src w base t ty e i size ht hi v n xs hown c, by simpa using hown, World.grownBy.refl w _, .inl rfl⟩
 ·have hcells : ∀ j u, news[j]? = some u → w.cell? (ad.add j) = some u := by
   intro j u hu
   obtain ⟨b, off, h, _, hc⟩ := hr (fun h0 => by rw [h0] at hu; simp at hu)
   injection h with h
   subst h
   rw [Go.WideShapes.add_plain]
   exact hc j u hu
  obtain ⟨v', w', hrun, h2, h3, _, h5⟩ := run_append_own_at (P := P) w base t ty e i z size bytes ht hi hz hsize hby hzs hsz v n xs hown ad m c news hl hcells h1 h63 hbytes hbase
  exact ⟨v', w', hrun, h2, h3, h5⟩
theorem wpList_append_rd {w : World} {ops : Array Oper} {rest : List Oper} {o : Oper} {a : Act} {Q : Exit → Act → World → Prop} (hgd : o.guard = none) (s x : Operand) (t : TypeId)
  (ho : o.op = .call { callee := .builtin .append, args := #[s, x], argTypes := #[t, t] })
  (base : Nat) (e : TypeId) (i : TypeInfo) (z : Value) (size bytes : Nat) (ht : P.underlying t = some (.slice e)) (hi : P.info? e = some i) (hz : i.zero = some z)
  (hsize : i.size = size) (hby : i.bytes = bytes) (hzs : z.cells.size = size) (hsz : 0 < size)
  (v : Value) (n : Nat) (xs : List Value) (hs : a.eval s = v) (hown : w.ownsRow base e size v n xs)
  (B : Nat) (A : Option Addr) (m c : Nat) (news : List Value) (hx : a.eval x = .slice A m c) (hl : news.length = m * size) (hr : Rd w B A news) (hA : A = none → m = 0) (h1 : ∀ u ∈ news, u.oneCell' = true)
  (h63 : n + m ≤ maxLen) (hbytes : (n + m) * bytes ≤ 140737488355328) (hbase : base ≤ w.heap.size)
  (h : ∀ v' w', w'.ownsRow base e size v' (n + m) (xs ++ news) → w.grownBy w' v.ownBlock → (v'.ownBlock = v.ownBlock ∨ v'.ownBlock = some w.heap.size) → wpList P ops Q rest (a.put o.dst v') w') : wpList P ops Q (o :: rest) a w :=
 wpList_plain hgd fun _ hK => by
  obtain ⟨v', w', hrun, h2, h3, h4⟩ := append_rd_run (P := P) w base t o.type e i z size bytes ht hi hz hsize hby hzs hsz v n xs hown B A m c news hl hr hA h1 h63 hbytes hbase
  unfold Oper.wp execOp
  simp only [ho, resolve, invoke, builtin, Sem.run_bind, Sem.run_pure, Result.andThen_ok, List.map_toArray, List.map_cons, List.map_nil, hs, hx, hrun]
  exact hK _ _ (h v' w' h2 h3 h4)
end
section
variable {α : Type} {w w' : World} {base : Nat} {E : TypeId} {m : Nat} {v : Value} {f : α → List Value} {l : List α}
theorem OwnL.app {k : List α} {n : Nat} (hn : n = l.length + k.length) (h : w.ownsRow base E m v n (l.flatMap f ++ k.flatMap f)) : OwnL w base E m v f (l ++ k) := by
 unfold OwnL
 rw [zG, List.flatMap_append, ← hn]
 exact h
end
theorem rd_none {α : Type} {f : α → List Value} {m : Nat} (hf : ∀ a, (f a).length = m) (hm : 0 < m) {w : World} {B : Nat} {A : Option Addr} {l : List α} (h : Rd w B A (l.flatMap f)) (hA : A = none) : l.length = 0 := by
 rcases Nat.eq_zero_or_pos l.length with h0 | h0
 ·exact h0
 ·obtain ⟨b, off, e, -⟩ := h.at_ hf hm (k := 0) h0
  rw [hA] at e; cases e
end
section
theorem evs_oneCell (M : List Ev) : ∀ u ∈ M.flatMap Ev.cells, u.oneCell' = true := fun u hu => by
 obtain ⟨e, -, he⟩ := List.mem_flatMap.1 hu
 simp only [Ev.cells, List.mem_cons, List.not_mem_nil, or_false] at he
 rcases he with rfl | rfl | rfl | rfl | rfl | rfl | rfl | rfl | rfl <;> rfl
theorem wpList_app_ev {w : World} {ops : Array Oper} {rest : List Oper} {o : Oper} {a : Act} {Q : Exit → Act → World → Prop} (hgd : o.guard = none) (s x : Operand)
  (ho : o.op = .call { callee := .builtin .append, args := #[s, x], argTypes := #[52, 52] })
  (base : Nat) (u : Value) (L M : List Ev) (hown : OwnL w base 62 9 u Ev.cells L) (hs : a.eval s = u)
  (B : Nat) (A : Option Addr) (m c : Nat) (hm : m = M.length) (hx : a.eval x = .slice A m c) (hr : Rd w B A (M.flatMap Ev.cells)) (hn : L.length + M.length ≤ 1000000000) (hbase : base ≤ w.heap.size)
  (h : ∀ A' c' n' w', Hid (n' = L.length + M.length) → OwnL w' base 62 9 (.slice A' n' c') Ev.cells (L ++ M) → w.grownBy w' u.ownBlock → wpList Tryz.prog ops Q rest (a.put o.dst (.slice A' n' c')) w') : wpList Tryz.prog ops Q (o :: rest) a w := by
 subst hm
 obtain ⟨i0, hi0, hz0, hz1, hz2⟩ := info_parts Tryz.infoEv
 refine wpList_append_rd hgd s x 52 ho base 62 i0 _ 9 72 Tryz.underlying52 hi0 hz0 hz1 hz2 rfl (by decide) u L.length (L.flatMap Ev.cells) hs hown B A M.length c (M.flatMap Ev.cells) hx (length_flatMap_const _ _ Ev.cells_length _) hr (rd_none Ev.cells_length (by decide) hr) (evs_oneCell M) (by unfold maxLen; omega) (by omega) hbase ?_
 intro v' w' hw hg _
 have ho' : OwnL w' base 62 9 v' Ev.cells (L ++ M) := OwnL.app (n := L.length + M.length) rfl hw
 obtain ⟨A', c', rfl⟩ := ho'.shape
 refine h A' c' _ w' (zz (by rw [zG])) ?_ hg
 exact ho'
theorem rd_ev1 (w : World) (x : Ev) : Rd (w.alloc (.cells #[.int .i64 x.frame, .int .i64 x.emitter, .int .i64 x.kind, .int .i64 x.ord, .int .i64 x.asset, .int .i64 x.gain, .int .i64 x.pan, .int .i64 x.prio, .int .i64 x.len] 62)) (w.heap.size + 1) (some ⟨w.heap.size, 0, none⟩) ([x].flatMap Ev.cells) :=
 rd_new w _ 62 _ rfl _ (Nat.lt_succ_self _)
def putK (L : List Ev) (e : Ev) : Nat := L.findIdx fun x => decide (cmpK e.key x.key ≤ 0)
def putE (L : List Ev) (e : Ev) : List Ev := insL L (putK L e) e
theorem putK_le (L : List Ev) (e : Ev) : putK L e ≤ L.length := List.findIdx_le_length
theorem putK_lt (L : List Ev) (e : Ev) (j : Nat) (hj : j < L.length) (h : j < putK L e) : decide (cmpK e.key L[j].key ≤ 0) = false := by
 have := List.not_of_lt_findIdx (p := fun x : Ev => decide (cmpK e.key x.key ≤ 0)) (xs := L) h
 simpa using this
theorem putK_at (L : List Ev) (e : Ev) (h : putK L e < L.length) : decide (cmpK e.key (L[putK L e]'h).key ≤ 0) = true :=
 List.findIdx_getElem (p := fun x : Ev => decide (cmpK e.key x.key ≤ 0)) (w := h)
def putO (L : List Ev) (e : Ev) (k : Nat) : List Ev := if k ≤ putK L e then L.take k else (putE L e).take (k + 1)
theorem putO_zero (L : List Ev) (e : Ev) : putO L e 0 = [] := by unfold putO; rw [if_pos (Nat.zero_le _)]; simp
theorem putO_in (L : List Ev) (e : Ev) (k : Nat) (hk : k < L.length) (h : k < putK L e) : putO L e (k + 1) = putO L e k ++ [L[k]] := by
 unfold putO
 rw [if_pos (by omega), if_pos (by omega), List.take_succ_eq_append_getElem hk]
theorem putE_get (L : List Ev) (e : Ev) (k : Nat) (hk : k < L.length) (h : putK L e ≤ k) : (putE L e)[k + 1]? = some L[k] := by
 have hp := putK_le L e
 have ht : (L.take (putK L e)).length = putK L e := by rw [List.length_take]; omega
 unfold putE insL
 rw [List.getElem?_append_right (by omega), ht, show k + 1 - putK L e = (k - putK L e) + 1 by omega, zC, List.getElem?_drop, show putK L e + (k - putK L e) = k by omega, List.getElem?_eq_getElem hk]
theorem putE_length (L : List Ev) (e : Ev) : (putE L e).length = L.length + 1 := insL_length _ _ _
theorem putO_out (L : List Ev) (e : Ev) (k : Nat) (hk : k < L.length) (h : putK L e < k) : putO L e (k + 1) = putO L e k ++ [L[k]] := by
 have hl := putE_length L e
 unfold putO
 rw [if_neg (by omega), if_neg (by omega), List.take_add_one, putE_get L e k hk (by omega)]
 rfl
theorem putO_mid (L : List Ev) (e : Ev) (k : Nat) (hk : k < L.length) (h : k = putK L e) : putO L e (k + 1) = (putO L e k ++ [e]) ++ [L[k]] := by
 have hl := putE_length L e
 unfold putO
 rw [if_neg (by omega), if_pos (by omega), List.take_add_one, putE_get L e k hk (by omega)]
 show _ ++ [L[k]] = _ ++ [L[k]]
 congr 1
 unfold putE insL
 rw [← h, List.take_append, List.length_take, Nat.min_eq_left (by omega), List.take_of_length_le (by rw [List.length_take]; omega), show k + 1 - k = 1 by omega]
 rfl
theorem putO_end (L : List Ev) (e : Ev) (h : putK L e < L.length) : putO L e L.length = putE L e := by
 unfold putO
 rw [if_neg (by omega), List.take_of_length_le (by rw [putE_length]; exact zL _)]
theorem putO_last (L : List Ev) (e : Ev) (h : putK L e = L.length) : putO L e L.length ++ [e] = putE L e := by
 unfold putO putE
 rw [if_pos (by omega), h, insL_end, List.take_length]
theorem putO_length (L : List Ev) (e : Ev) (k : Nat) : (putO L e k).length ≤ k + 1 := by
 unfold putO
 split <;> (rw [List.length_take]; omega)
theorem r11Put_any (A : Option Addr) (c : Nat) (L : List Ev) (e : Ev) (w : World) (hl : L.length ≤ 1000000) (hr : Rd w w.heap.size A (L.flatMap Ev.cells)) :
  Calls Tryz.prog 82 #[.slice A L.length c, e.val] w fun r w' => ∃ A' c' n', r = .returned (.slice A' n' c') ∧ OwnL w' w.heap.size 62 9 (.slice A' n' c') Ev.cells (putE L e) ∧ Below w.heap.size w w' := by
 obtain ⟨n, hn⟩ : ∃ n, L.length = n := ⟨_, rfl⟩
 obtain ⟨p, hp⟩ : ∃ p, putK L e = p := ⟨_, rfl⟩
 have hpn : p ≤ n := by rw [← hp, ← hn]; exact putK_le L e
 rw [hn] at hl ⊢
 have HN := zz hn
 have HP := zz hp
 have HR := zz hr
 unfold Ev.val
 clear hn hp hr
 go_enter Tryz.func82, Tryz.ntmps82
 go_upto_region 3 with fail
 obtain ⟨W, hW⟩ : ∃ W, W = (w.alloc (.cells e.cells.toArray 62)).alloc (.cells #[] 62) := ⟨_, rfl⟩
 have hW' := hW
 simp only [Ev.cells] at hW'
 rw [← hW']
 have hke : Blk W w.heap.size 62 e.cells.toArray := by rw [hW]; exact (by repeat (first | ((with_reducible refine blk_at ?_); first | rfl | (simp; done)) | (with_reducible refine Blk.alloc ?_ _) | (with_reducible refine Blk.drew ?_)))
 have hbw : Below w.heap.size w W := by rw [hW]; exact bAlloc (bAlloc (Below.refl _ _) _) _
 have hsz : W.heap.size = w.heap.size + 1 + 1 := by rw [hW]; simp
 have ho0 : OwnL W (w.heap.size + 1) 62 9 (.slice (some ⟨w.heap.size + 1, 0, none⟩) 0 0) Ev.cells ([] : List Ev) := by
  rw [hW]
  have := OwnL.lit (w := w.alloc (.cells e.cells.toArray 62)) (base := w.heap.size + 1) (E := 62) (f := Ev.cells) [] #[] (by simp) (by simp) Ev.cells_length rfl (n := 0) (c := 0) rfl rfl
  simpa using this
 have HK := zz hke
 have HBW := zz hbw
 have HO0 := zz (show OwnL W (w.heap.size + 1) 62 9 (.slice (some ⟨w.heap.size + 1, 0, none⟩) 0 0) Ev.cells (putO L e 0) by rw [putO_zero]; exact ho0)
 have hlw : w.heap.size < W.heap.size := by omega
 clear hW hW' hke hbw ho0 hsz
 go_wp2_with fail
 go_loopw [5, 6, 7] (fun u b v wr => ∃ k : Nat, k ≤ n ∧ v = .int .i64 k ∧ b = .bool (decide (p < k)) ∧ Hid (OwnL wr (w.heap.size + 1) 62 9 u Ev.cells (putO L e k)) ∧ Hid (Blk wr w.heap.size 62 e.cells.toArray) ∧ Hid (Below w.heap.size w wr)) (fun _ _ v _ => n - (intOf v).toNat)
 case atStart => exact ⟨0, Nat.zero_le _, rfl, by simp, HO0, HK, HBW⟩
 case round =>
  obtain ⟨k, hk, rfl, rfl, HO, HKR, HBR⟩ := hrel
  clear HO0 HK HBW hlw
  have hs0 := HKR.out.lt
  obtain ⟨e0, e1, e2, e3, e4, e5, e6, e7, e8⟩ := Blk.ev HKR.out
  by_cases hlt : k < n
  ·have hkL : k < L.length := by rw [HN.out]; exact hlt
   obtain ⟨b, off, hA, hbl, x0, x1, x2, x3, x4, x5, x6, x7, x8⟩ := (HR.out.below HBR.out (zL _)).ev hkL
   subst hA
   have hblw := Nat.lt_trans hbl hs0
   have HOL := zz (putO_length L e k)
   have HLT := zz (putK_lt L e k hkL)
   have HAT := zz (fun h : putK L e = k => (show decide (cmpK e.key L[k].key ≤ 0) = true by
    have := putK_at L e (by rw [h]; exact hkL)
    simpa only [h] using this))
   have HPI := zz (putO_in L e k hkL)
   have HPM := zz (putO_mid L e k hkL)
   have HPO := zz (putO_out L e k hkL)
   obtain ⟨x, hx⟩ : ∃ x, L[k] = x := ⟨_, rfl⟩
   rw [hx] at x0 x1 x2 x3 x4 x5 x6 x7 x8 HLT HAT HPI HPM HPO
   obtain ⟨q, hq⟩ : ∃ q, cmpK e.key x.key = q := ⟨_, rfl⟩
   rw [hq] at HLT HAT
   have HCMP : Hid (∀ w, Calls Tryz.prog 159 #[e.key.val, x.key.val] w fun r w' => r = .returned (.int .i64 q) ∧ Below w.heap.size w w') := zz (fun w => by rw [← hq]; exact r11Compare_any _ _ _)
   clear hx hq hkL
   rcases Nat.lt_trichotomy p k with h | h | h
   ·have hd : decide (p < k) = true := decide_eq_true h
    have HNX := zz (HPO.out (by rw [HP.out]; exact h))
    rw [hd]
    clear HLT HAT HPI HPM HPO
    go_wp2_with fail
    refine wp_region_mild (by kernel_rfl) (by kernel_rfl) ?_
    repeat (go_big_quiet_step (fail))
    refine wpQuiet_nil ?_
    intro w1 hw'
    obtain ⟨⟨wq, k1⟩, hw''⟩ := hw'
    subst hw''
    obtain ⟨k1c, k1f⟩ := bcl k1
    have k1z := k1.size
    go_wp2_with (first | (at_builtin; refine wpList_app_ev rfl (.tmp 32) (.tmp 37) rfl (w.heap.size + 1) _ (putO L e k) [x] ((HO.out.below k1).alloc _) rfl _ _ 1 1 rfl rfl (rd_ev1 _ x) (by have := HOL.out; simp only [zH, zI]; omega) (by simp; omega) ?_; intro A' c' n' w2 hn' ho' hg'))
    have HO2 : Hid (OwnL w2 (w.heap.size + 1) 62 9 (.slice A' n' c') Ev.cells (putO L e (k + 1))) := zz (by rw [HNX.out]; exact ho')
    have HK2 := zz (((HKR.out.on k1).alloc _).grown hg' (fun h => by have := HO.out.base_le _ h; omega))
    have HB2 := zz (Below.grown (bAlloc (bTrans HBR.out k1) _) hg' (by simp; omega) (fun g h => by have := HO.out.base_le g h; omega))
    clear ho' hg' k1 k1c k1f HO HKR HBR
    go_wp2
    go_roundw
    case rel => exact ⟨k + 1, by omega, by go_num, by rw [decide_eq_true (show p < k + 1 by omega)], HO2, HK2, HB2⟩
    case measure => simp [intOf]; omega
   ·have hd : decide (p < k) = false := decide_eq_false (by omega)
    have hc := HAT.out (by rw [HP.out]; exact h)
    have HNX := zz (HPM.out (by rw [HP.out]; exact h.symm))
    rw [hd]
    clear HLT HAT HPI HPM HPO
    go_wp2_with fail
    refine wp_region_mild (by kernel_rfl) (by kernel_rfl) ?_
    repeat (go_big_quiet_step ((go_at_call 159; exact mild_of (HCMP.out _))))
    refine wpQuiet_nil ?_
    intro w1 hw'
    obtain ⟨⟨wq, k1⟩, hw''⟩ := hw'
    subst hw''
    obtain ⟨k1c, k1f⟩ := bcl k1
    have k1z := k1.size
    go_upto_region 8 with (first | (at_builtin; refine wpList_app_ev rfl (.tmp 28) (.tmp 30) rfl (w.heap.size + 1) _ (putO L e k) [e] ((HO.out.below k1).alloc _) rfl _ _ 1 1 rfl rfl (rd_ev1 _ e) (by have := HOL.out; simp only [zH, zI]; omega) (by simp; omega) ?_; intro A' c' n' w2 hn' ho' hg'))
    have HO2 : Hid (OwnL w2 (w.heap.size + 1) 62 9 (.slice A' n' c') Ev.cells (putO L e k ++ [e])) := zz ho'
    have HK2 := zz (((HKR.out.on k1).alloc _).grown hg' (fun h => by have := HO.out.base_le _ h; omega))
    have HB2 := zz (Below.grown (bAlloc (bTrans HBR.out k1) _) hg' (by simp; omega) (fun g h => by have := HO.out.base_le g h; omega))
    have hcc : ∀ o, w2.cell? ⟨b, o, none⟩ = wr.cell? ⟨b, o, none⟩ := fun o => (HB2.out.cell (p := ⟨b, o, none⟩) hbl).trans (HBR.out.cell (p := ⟨b, o, none⟩) hbl).symm
    have y0 := (hcc _).trans x0
    have y1 := (hcc _).trans x1
    have y2 := (hcc _).trans x2
    have y3 := (hcc _).trans x3
    have y4 := (hcc _).trans x4
    have y5 := (hcc _).trans x5
    have y6 := (hcc _).trans x6
    have y7 := (hcc _).trans x7
    have y8 := (hcc _).trans x8
    have hs2 := HK2.out.lt
    have hblw2 := Nat.lt_trans hbl hs2
    clear hcc x0 x1 x2 x3 x4 x5 x6 x7 x8 e0 e1 e2 e3 e4 e5 e6 e7 e8 ho' hg' k1 k1c k1f k1z HO HKR HBR hs0 hblw hc hd HCMP
    obtain ⟨A2, c2, n2, rfl, rfl, rfl⟩ : ∃ A2 c2 n2, A' = A2 ∧ c' = c2 ∧ n' = n2 := ⟨_, _, _, rfl, rfl, rfl⟩
    go_wp2_with (first | (at_builtin; refine wpList_app_ev rfl (.tmp 32) (.tmp 37) rfl (w.heap.size + 1) _ (putO L e k ++ [e]) [x] (HO2.out.alloc _) rfl _ _ 1 1 rfl rfl (rd_ev1 _ x) (by have := HOL.out; simp only [zG, zH, zI]; omega) (by simp; omega) ?_; intro A3 c3 n3 w3 hn3 ho3 hg3))
    have HO3 : Hid (OwnL w3 (w.heap.size + 1) 62 9 (.slice A3 n3 c3) Ev.cells (putO L e (k + 1))) := zz (by rw [HNX.out]; exact ho3)
    have HK3 := zz ((HK2.out.alloc _).grown hg3 (fun h => by have := HO2.out.base_le _ h; omega))
    have HB3 := zz (Below.grown (bAlloc HB2.out _) hg3 (by have := HB2.out.size; simp; omega) (fun g h => by have := HO2.out.base_le g h; omega))
    clear ho3 hg3 HO2 HK2 HB2
    go_wp2
    go_roundw
    case rel => exact ⟨k + 1, by omega, by go_num, by rw [decide_eq_true (show p < k + 1 by omega)], HO3, HK3, HB3⟩
    case measure => simp [intOf]; omega
   ·have hd : decide (p < k) = false := decide_eq_false (by omega)
    have hc := HLT.out (by rw [HP.out]; exact h)
    have HNX := zz (HPI.out (by rw [HP.out]; exact h))
    rw [hd]
    clear HLT HAT HPI HPM HPO
    go_wp2_with fail
    refine wp_region_mild (by kernel_rfl) (by kernel_rfl) ?_
    repeat (go_big_quiet_step ((go_at_call 159; exact mild_of (HCMP.out _))))
    refine wpQuiet_nil ?_
    intro w1 hw'
    obtain ⟨⟨wq, k1⟩, hw''⟩ := hw'
    subst hw''
    obtain ⟨k1c, k1f⟩ := bcl k1
    have k1z := k1.size
    go_wp2_with (first | (at_builtin; refine wpList_app_ev rfl (.tmp 32) (.tmp 37) rfl (w.heap.size + 1) _ (putO L e k) [x] ((HO.out.below k1).alloc _) rfl _ _ 1 1 rfl rfl (rd_ev1 _ x) (by have := HOL.out; simp only [zH, zI]; omega) (by simp; omega) ?_; intro A' c' n' w2 hn' ho' hg'))
    have HO2 : Hid (OwnL w2 (w.heap.size + 1) 62 9 (.slice A' n' c') Ev.cells (putO L e (k + 1))) := zz (by rw [HNX.out]; exact ho')
    have HK2 := zz (((HKR.out.on k1).alloc _).grown hg' (fun h => by have := HO.out.base_le _ h; omega))
    have HB2 := zz (Below.grown (bAlloc (bTrans HBR.out k1) _) hg' (by simp; omega) (fun g h => by have := HO.out.base_le g h; omega))
    clear ho' hg' k1 k1c k1f HO HKR HBR
    go_wp2
    go_roundw
    case rel => exact ⟨k + 1, by omega, by go_num, by rw [decide_eq_false (show ¬ p < k + 1 by omega)], HO2, HK2, HB2⟩
    case measure => simp [intOf]; omega
  ·obtain rfl : k = n := by omega
   have hlw := hs0
   rcases Nat.lt_or_ge p k with h | h
   ·have hd : decide (p < k) = true := decide_eq_true h
    rw [hd]
    have HNX := zz (putO_end L e (by rw [HP.out, HN.out]; exact h))
    obtain ⟨A', c', rfl⟩ := HO.out.shape
    go_wp2
    go_ret
    exact ⟨A', c', _, rfl, by have e := HNX.out; rw [HN.out] at e; rw [← e]; exact HO.out.more (Nat.le_succ _), HBR.out⟩
   ·have hd : decide (p < k) = false := decide_eq_false (by omega)
    rw [hd]
    have HNX := zz (putO_last L e (by rw [HP.out, HN.out]; omega))
    have HOL := zz (putO_length L e k)
    go_wp2_with (first | (at_builtin; refine wpList_app_ev rfl (.tmp 41) (.tmp 43) rfl (w.heap.size + 1) _ (putO L e k) [e] (HO.out.alloc _) rfl _ _ 1 1 rfl rfl (rd_ev1 _ e) (by have := HOL.out; simp only [zH, zI]; omega) (by simp; omega) ?_; intro A' c' n' w2 hn' ho' hg'))
    have HB2 := zz (Below.grown (bAlloc HBR.out _) hg' (by have := HBR.out.size; simp; omega) (fun g h => by have := HO.out.base_le g h; omega))
    go_wp2
    go_ret
    exact ⟨A', c', _, rfl, by rw [← HNX.out, HN.out]; exact OwnL.more ho' (Nat.le_succ _), HB2.out⟩
end
end Go.Proofs.YtibeihcpehikoaaGreat
