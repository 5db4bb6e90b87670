/-
  The program's 'Ordered': so many events at most, each of them right, their keys rising.
-/
import Derived.RangeFuncNested
import Derived.RangeFuncBound
import Derived.RangeFuncCalls
import Derived.RangeFuncLeaves
import Derived.Shelf.Abstract
import Derived.Shelf.RegionOpen
import Derived.OwnWalkIn
import Derived.TacticsInMore
import Derived.LoopNIn
import Derived.LoopIn
import Derived.Test.YtibeihcpehikoaaGreatNk1
namespace Go.Proofs.YtibeihcpehikoaaGreat
set_option maxRecDepth 100000
set_option maxHeartbeats 4000000
set_option linter.unusedSimpArgs false
section
open Go.RowKit Go.Shelf
attribute [local go_sem] Oper.semAt_some
def risingF (last : Key4) : List Key4 → Bool
 | [] => true
 | k :: r => keyOk k && (decide (cmpK last k < 0) && risingF k r)
def key0 : Key4 := ⟨-1, 0, 0, 0⟩
def orderedB (L : List Ev) : Bool := decide (L.length ≤ 64) && (L.all evOk && risingF key0 (L.map Ev.key))
def idxW (k : Nat) : List Ev → Int
 | [] => -1
 | x :: r => if evOk x then idxW (k + 1) r else k
theorem idxW_all : ∀ (L : List Ev) (k : Nat), decide (0 ≤ idxW k L) = !L.all evOk
 | [], k => rfl
 | x :: r, k => by
  unfold idxW
  rw [List.all_cons]
  cases h : evOk x
  ·rw [if_neg (by decide)]
   simp
  ·rw [if_pos rfl, idxW_all r (k + 1), Bool.true_and]
theorem idxW_bd : ∀ (L : List Ev) (k : Nat), -1 ≤ idxW k L ∧ idxW k L ≤ k + L.length
 | [], k => by unfold idxW; simp
 | x :: r, k => by
  unfold idxW
  split
  ·have := idxW_bd r (k + 1)
   simp only [zH]; omega
  ·simp only [zH]; omega
theorem wrong_any (x : Ev) (w : World) : Calls Tryz.prog 275 #[x.val] w fun e w' => e = .returned (.bool (!evOk x)) ∧ Below w.heap.size w w' := by
 unfold Ev.val
 have hb0 := bAlloc (Below.refl w.heap.size w) (.cells #[.int .i64 x.frame, .int .i64 x.emitter, .int .i64 x.kind, .int .i64 x.ord, .int .i64 x.asset, .int .i64 x.gain, .int .i64 x.pan, .int .i64 x.prio, .int .i64 x.len] 62)
 go_enter Tryz.func275, Tryz.ntmps275
 go_wp2_with fail
 refine (right_any x _).mono ?_
 rintro e w1 ⟨rfl, hb1⟩
 go_wp2
 go_ret
 exact ⟨rfl, bTrans hb0 hb1⟩
theorem idxE_any (A : Option Addr) (c : Nat) (L : List Ev) (w : World) (hn : L.length ≤ 1000) (hr : Rd w w.heap.size A (L.flatMap Ev.cells)) :
  Calls Tryz.prog 305 #[.slice A L.length c, .func (.func 275) #[] #[]] w fun e w' => e = .returned (.int .i64 (idxW 0 L)) ∧ Below w.heap.size w w' := by
 have HR := zz hr
 clear hr
 go_enter Tryz.func305, Tryz.ntmps305
 go_wp2
 go_loopw [8] (fun i wr => ∃ k : Nat, k ≤ L.length ∧ i = .int .i64 k ∧ Hid (idxW 0 L = idxW k (L.drop k)) ∧ Below w.heap.size w wr) (fun i _ => L.length - (intOf i).toNat)
 case atStart => exact ⟨0, Nat.zero_le _, rfl, rfl, Below.refl _ _⟩
 case round =>
  obtain ⟨k, hk, rfl, hi, hb⟩ := hrel
  by_cases hlt : k < L.length
  ·obtain ⟨b, off, rfl, hB, hc⟩ := (HR.out.below hb (zL _)).at_ Ev.cells_length (by omega) hlt
   have c0 := hc 0 _ rfl
   have c1 := hc 1 _ rfl
   have c2 := hc 2 _ rfl
   have c3 := hc 3 _ rfl
   have c4 := hc 4 _ rfl
   have c5 := hc 5 _ rfl
   have c6 := hc 6 _ rfl
   have c7 := hc 7 _ rfl
   have c8 := hc 8 _ rfl
   rw [Nat.add_zero] at c0
   clear hc
   have hst : idxW k (L.drop k) = if evOk L[k] then idxW (k + 1) (L.drop (k + 1)) else (k : Int) := by
    rw [List.drop_eq_getElem_cons hlt, idxW]
   have HS := zz hst
   clear hst
   go_wp2_with fail
   refine (wrong_any L[k] _).mono ?_
   rintro e w1 ⟨rfl, hb1⟩
   cases hin : evOk L[k] with
   | false =>
    have HI := zz hin
    clear hin
    go_wp2
    go_ret
    exact ⟨ret_int (by rw [hi.out, HS.out, HI.out]; rfl), bTrans hb hb1⟩
   | true =>
    have HI := zz hin
    clear hin
    go_wp2
    go_roundw
    case rel => exact ⟨k + 1, by omega, by go_num, (show _ = _ by rw [hi.out, HS.out, HI.out]; rfl), bTrans hb hb1⟩
    case measure => simp [intOf]; omega
  ·have e0 : idxW 0 L = -1 := by rw [hi.out, List.drop_of_length_le (by omega), idxW]
   have E0 := zz e0
   clear e0
   go_wp2
   go_ret
   exact ⟨ret_int E0.out.symm, hb⟩
theorem cfE_any (A : Option Addr) (c : Nat) (L : List Ev) (w : World) (hn : L.length ≤ 1000) (hr : Rd w w.heap.size A (L.flatMap Ev.cells)) :
  Calls Tryz.prog 274 #[.slice A L.length c, .func (.func 275) #[] #[]] w fun e w' => e = .returned (.bool (!L.all evOk)) ∧ Below w.heap.size w w' := by
 have HX := zz (idxE_any A c L w hn hr)
 have hb := idxW_bd L 0
 have hd := idxW_all L 0
 obtain ⟨m, hm⟩ : ∃ m, L.length = m := ⟨_, rfl⟩
 rw [hm] at HX hb hn ⊢
 obtain ⟨x, hx⟩ : ∃ x, idxW 0 L = x := ⟨_, rfl⟩
 rw [hx] at HX hb hd
 have HD := zz hd
 clear hr hm hx hd
 go_enter Tryz.func274, Tryz.ntmps274
 go_wp2_with fail
 refine HX.out.mono ?_
 rintro e w1 ⟨rfl, hb1⟩
 go_wp2
 go_ret
 exact ⟨ret_bool HD.out, hb1⟩
theorem keys_in (n : Nat) (v : Value) (hv : v.cells = #[v]) (w : World) (hs : ∃ A m c, v = .slice A m c) :
  CallsIn Fence.wide n Tryz.prog 277 #[v] w fun e w' => e = .returned (.func (.func 307) #[] #[.pointer (some ⟨w.heap.size, 0, none⟩)]) ∧ w' = w.alloc (.cells #[v] 52) := by
 obtain ⟨A, m, c, rfl⟩ := hs
 refine callsIn_of_wp Tryz.func277 rfl trivial ?_ rfl
 simp only [Tryz.ntmps277, zM, zH, zI, Nat.reduceAdd, Nat.reduceSub, Array.replicate_succ, Array.replicate_zero, List.push_toArray, List.append_toArray, List.nil_append, List.cons_append]
 gi_wp2
 go_ret
 exact ⟨rfl, rfl⟩
theorem take_snoc {α : Type} (L : List α) (k : Nat) (hk : k < L.length) : L.take (k + 1) = L.take k ++ [L[k]] := by
 rw [List.take_succ_eq_append_getElem hk]
theorem keysC_in (n : Nat) (hn : 1 ≤ n) (l Bs n₀ : Nat) (A : Option Addr) (c : Nat) (L : List Ev) (hL : L.length ≤ 1000) (J Jx : List Key4 → World → Prop) (W : World) (hJ : AbidesFrom W.heap.size J)
  (hY : ∀ pre x W, J pre W → pre.length < L.length → YieldAt Fence.wide (n - 1) Tryz.prog l #[x.val] W fun e W' =>
   (e = .returned (.bool true) ∧ J (pre ++ [x]) W' ∧ Below n₀ W W') ∨ (e = .returned (.bool false) ∧ Jx (pre ++ [x]) W'))
  (hBs : W.cell? ⟨Bs, 0, none⟩ = some (.slice A L.length c)) (hBl : Bs < n₀) (hn0 : n₀ ≤ W.heap.size) (hr : Rd W n₀ A (L.flatMap Ev.cells)) (h0 : J [] W) :
  CallsIn Fence.wide n Tryz.prog 307 #[.func (.yield l) #[] #[], .pointer (some ⟨Bs, 0, none⟩)] W fun e W' => (∃ v, e = .returned v) ∧
   ((∃ ys, ys = L.map Ev.key ∧ J ys W') ∨ (∃ pre, (∃ k, k ≤ L.length ∧ pre = (L.map Ev.key).take k) ∧ Jx pre W')) := by
 have HR := zz hr
 have HBs := zz hBs
 have hlt0 : Bs < W.heap.size := by omega
 clear hr
 refine callsIn_of_wp Tryz.func307 rfl trivial ?_ rfl
 simp only [Tryz.ntmps307, zM, zH, zI, Nat.reduceAdd, Nat.reduceSub, Array.replicate_succ, Array.replicate_zero, List.push_toArray, List.append_toArray, List.nil_append, List.cons_append]
 gi_wp2
 gi_loopw [7] (fun i wr => ∃ k : Nat, k ≤ L.length ∧ i = .int .i64 k ∧ J ((L.map Ev.key).take k) wr ∧ Below n₀ W wr) (fun i _ => L.length - (intOf i).toNat)
 case atStart => exact ⟨0, Nat.zero_le _, rfl, h0, Below.refl _ _⟩
 case round =>
  obtain ⟨k, hk, rfl, hJs, hb⟩ := hrel
  by_cases hlt : k < L.length
  ·obtain ⟨b, off, rfl, hB, hc⟩ := (HR.out.below hb (zL _)).at_ Ev.cells_length (by omega) hlt
   have c0 := hc 0 _ rfl
   have c1 := hc 1 _ rfl
   have c2 := hc 2 _ rfl
   have c3 := hc 3 _ rfl
   have c4 := hc 4 _ rfl
   have c5 := hc 5 _ rfl
   have c6 := hc 6 _ rfl
   have c7 := hc 7 _ rfl
   have c8 := hc 8 _ rfl
   rw [Nat.add_zero] at c0
   clear hc
   have hlm : k < (L.map Ev.key).length := by rw [List.length_map]; exact hlt
   have hsn := take_snoc (L.map Ev.key) k hlm
   rw [List.getElem_map] at hsn
   have HSN := zz hsn
   have hJ2 := hJ _ wr (wr.alloc (.cells #[.int .i64 L[k].frame, .int .i64 L[k].emitter, .int .i64 L[k].kind, .int .i64 L[k].ord, .int .i64 L[k].asset, .int .i64 L[k].gain, .int .i64 L[k].pan, .int .i64 L[k].prio, .int .i64 L[k].len] 62)) none hJs (World.grownBy_alloc _ _ none) (fun r e => by cases e)
   obtain ⟨fn, tmps, assign, body, hy, hR⟩ := hY _ (L[k].key) _ hJ2 (by rw [List.length_take]; omega)
   have hba := hb.alloc (Nat.le_trans hn0 hb.size) (.cells #[.int .i64 L[k].frame, .int .i64 L[k].emitter, .int .i64 L[k].kind, .int .i64 L[k].ord, .int .i64 L[k].asset, .int .i64 L[k].gain, .int .i64 L[k].pan, .int .i64 L[k].prio, .int .i64 L[k].len] 62)
   dsimp only [Key4.val, Ev.key] at hy
   have HJ2 := zz hba
   clear hsn hJs hJ2 hba
   gi_wp2
   refine hR.mono ?_
   rintro e W3 (⟨rfl, hJ3, hk3⟩ | ⟨rfl, hJx3⟩)
   ·gi_wp2
    go_roundw
    case rel => exact ⟨k + 1, by omega, by go_num, by rw [HSN.out]; exact hJ3, HJ2.out.trans hk3⟩
    case measure => simp [intOf]; omega
   ·gi_wp2
    refine bodyPost_ret (results_none rfl _ _ _) rfl ?_
    exact ⟨⟨_, rfl⟩, .inr ⟨_, ⟨k + 1, by omega, HSN.out.symm⟩, hJx3⟩⟩
  ·obtain rfl : k = L.length := by omega
   gi_wp2
   go_end0
   exact ⟨⟨_, rfl⟩, .inl ⟨_, by rw [List.take_of_length_le (by rw [List.length_map]; exact zL _)], hJs⟩⟩
theorem keys_stops (n : Nat) (hn : 1 ≤ n) (Bs n₀ : Nat) (A : Option Addr) (c : Nat) (L : List Ev) (hL : L.length ≤ 1000) (w : World) (hBs : w.cell? ⟨Bs, 0, none⟩ = some (.slice A L.length c)) (hBl : Bs < n₀) (hn0 : n₀ ≤ w.heap.size) (hr : Rd w n₀ A (L.flatMap Ev.cells)) :
  SeqStopsK Fence.wide n Tryz.prog 307 #[.pointer (some ⟨Bs, 0, none⟩)] (fun x : Key4 => #[x.val]) (Below n₀) (fun xs => xs = L.map Ev.key) (fun pre => ∃ k, k ≤ L.length ∧ pre = (L.map Ev.key).take k) L.length w := fun l J Jx W hW hJ _ hY h0 =>
 keysC_in n hn l Bs n₀ A c L hL J Jx W hJ hY ((hW.cell (p := ⟨Bs, 0, none⟩) (Nat.lt_of_lt_of_le hBl hn0)).trans hBs) hBl (Nat.le_trans hn0 hW.size) (hr.below hW hn0) h0
def lastF (a : Key4) : List Key4 → Key4
 | [] => a
 | k :: r => lastF k r
theorem lastF_snoc : ∀ (pre : List Key4) (a x : Key4), lastF a (pre ++ [x]) = x
 | [], _, _ => rfl
 | k :: r, _, x => lastF_snoc r k x
theorem risingF_snoc : ∀ (pre : List Key4) (a x : Key4), risingF a (pre ++ [x]) = (risingF a pre && (keyOk x && decide (cmpK (lastF a pre) x < 0)))
 | [], a, x => by simp [risingF, lastF]; rfl
 | k :: r, a, x => by
  show (keyOk k && (decide (cmpK a k < 0) && risingF k (r ++ [x]))) = _
  rw [risingF_snoc r k x]
  simp only [risingF, lastF, Bool.and_assoc]
  rfl
theorem risingF_take : ∀ (l : List Key4) (a : Key4) (k : Nat), risingF a (l.take k) = false → risingF a l = false
 | [], a, k, h => by simpa using h
 | x :: r, a, 0, h => by simp [risingF] at h
 | x :: r, a, k + 1, h => by
  rw [List.take_succ_cons] at h
  unfold risingF at h ⊢
  cases h1 : keyOk x
  ·rfl
  ·cases h2 : decide (cmpK a x < 0)
   ·rfl
   ·rw [h1, h2] at h
    simp only [Bool.true_and] at h
    rw [risingF_take r x k h]; rfl
theorem Blk.owned {W W' : World} {row : Option Nat} {g B : Nat} {E : TypeId} {cs : Array Value} (h : Blk W g E cs) (hg : W.grownBy W' row) (hr : ∀ r, row = some r → B ≤ r ∧ ∃ o : Obj, W.heap[r]? = some o ∧ o.isCells = false) : Blk W' g E cs :=
 h.grown hg (fun e => by
  obtain ⟨-, _, ho, hc⟩ := hr g e
  have h' : W.heap[g]? = some (.cells cs E (0, 0)) := h
  rw [h'] at ho
  cases ho
  cases hc)
theorem below_others {W W' : World} (h : Below W.heap.size W W') : KeepsOthers W W' :=
 ⟨h.size, fun k _ hk _ => (h.block k (Array.getElem?_eq_some_iff.1 hk).1).trans hk⟩
theorem rising_in (Bs : Nat) (A : Option Addr) (c : Nat) (L : List Ev) (hL : L.length ≤ 1000) (w : World) (hBs : w.cell? ⟨Bs, 0, none⟩ = some (.slice A L.length c)) (hBl : Bs < w.heap.size) (hr : Rd w w.heap.size A (L.flatMap Ev.cells)) :
  CallsIn Fence.wide 3 Tryz.prog 276 #[.func (.func 307) #[] #[.pointer (some ⟨Bs, 0, none⟩)]] w fun e w' => e = .returned (.bool (risingF key0 (L.map Ev.key))) ∧ Below w.heap.size w w' := by
 have HR := zz hr
 clear hr
 refine callsIn_of_wp_marks Tryz.func276 rfl trivial ?_ rfl
 simp only [Tryz.ntmps276, zM, zH, zI, Nat.reduceAdd, Nat.reduceSub, Array.replicate_succ, Array.replicate_zero, List.push_toArray, List.append_toArray, List.nil_append, List.cons_append]
 gi_wp2
 have k0 : Blk ((w.alloc (.cells #[.bool false] 4)).alloc (.cells #[.int .i64 (-1), .int .i64 0, .int .i64 0, .int .i64 0] 60)) w.heap.size 4 #[.bool false] := (Blk.new _ _ _).alloc _
 have k1 : Blk ((w.alloc (.cells #[.bool false] 4)).alloc (.cells #[.int .i64 (-1), .int .i64 0, .int .i64 0, .int .i64 0] 60)) (w.heap.size + 1) 60 key0.cells.toArray := by
  have := Blk.new (w.alloc (.cells #[.bool false] 4)) 60 #[.int .i64 (-1), .int .i64 0, .int .i64 0, .int .i64 0]
  rw [World.size_alloc] at this
  exact this
 have hb2 : Below w.heap.size w ((w.alloc (.cells #[.bool false] 4)).alloc (.cells #[.int .i64 (-1), .int .i64 0, .int .i64 0, .int .i64 0] 60)) := bAlloc (bAlloc (Below.refl _ _) _) _
 have hz2 : ((w.alloc (.cells #[.bool false] 4)).alloc (.cells #[.int .i64 (-1), .int .i64 0, .int .i64 0, .int .i64 0] 60)).heap.size = w.heap.size + 2 := by simp
 obtain ⟨W2, hW2⟩ : ∃ W2, (w.alloc (.cells #[.bool false] 4)).alloc (.cells #[.int .i64 (-1), .int .i64 0, .int .i64 0, .int .i64 0] 60) = W2 := ⟨_, rfl⟩
 rw [hW2] at k0 k1 hb2 hz2 ⊢
 clear hW2
 refine wpIn_rangeFunc_ownH rfl (by decide) (gf := 307) (lb := #[.pointer (some ⟨Bs, 0, none⟩)]) rfl trivial (enters_of Tryz.func307 (by kernel_rfl) rfl)
  (keys_stops 2 (by decide) Bs w.heap.size A c L hL W2 ((hb2.cell (p := ⟨Bs, 0, none⟩) hBl).trans hBs) hBl (by omega) (HR.out.below hb2 (zL _))) belowK_t (belowK_b (by omega)) (Below.refl _ _) (fun _ => rfl)
  (fun pre W => (Blk W w.heap.size 4 #[.bool false] ∧ Blk W (w.heap.size + 1) 60 (lastF key0 pre).cells.toArray ∧ risingF key0 pre = true) ∧ Below w.heap.size w W)
  (fun c pre W => (c = .ret ∧ risingF key0 pre = false ∧ Blk W w.heap.size 4 #[.bool false]) ∧ Below w.heap.size w W)
  (OwnFrom.and (fun s A B row hs hg hr => ⟨hs.1.owned hg hr, hs.2.1.owned hg hr, hs.2.2⟩) (ownFrom_below (zL _) (by omega)))
  (fun c => OwnFrom.and (fun s A B row hs hg hr => ⟨hs.1, hs.2.1, hs.2.2.owned hg hr⟩) (ownFrom_below (zL _) (by omega)))
  ⟨⟨k0, k1, rfl⟩, hb2⟩
  (fun x a' W => ∃ Bx, w.heap.size + 1 < Bx ∧ Blk W Bx 60 x.cells.toArray ∧ a' = { tmps := #[.func (.func 307) #[] #[.pointer (some ⟨Bs, 0, none⟩)], undef, .pointer (some ⟨w.heap.size, 0, none⟩), .pointer (some ⟨w.heap.size + 1, 0, none⟩), .pointer (some ⟨Bx, 0, none⟩), key0.val, .func (.func 307) #[] #[.pointer (some ⟨Bs, 0, none⟩)], x.val, undef, undef, undef, undef, undef, undef, undef, undef, undef, undef], defers := [] })
  (fun x a' s A B row hs hg hr => by obtain ⟨Bx, h1, h2, h3⟩ := hs; exact ⟨Bx, h1, h2.owned hg hr, h3⟩)
  ?assign ?body ?done ?stop
 case assign =>
  rintro l pre x W K ⟨⟨h0, h1, h2⟩, hB⟩ hK
  have hx : x.val = .agg #[.int .i64 x.frame, .int .i64 x.emitter, .int .i64 x.kind, .int .i64 x.ord] := rfl
  rw [hx]
  have hl1 := h1.lt
  gi_wp2
  exact hK _ _ ((KeepsOthers.alloc _ _).from _) ((Below.refl _ W).alloc hB.size _) ⟨⟨h0.alloc _, h1.alloc _, h2⟩, hB.alloc hB.size _⟩ ⟨W.heap.size, hl1, Blk.new _ _ _, rfl⟩
 case body =>
  rintro l pre x a' W hl - ⟨⟨h0, h1, h2⟩, hB⟩ ⟨Bx, hBx, bX, rfl⟩ hlt
  have hsn := risingF_snoc pre key0 x
  rw [h2, Bool.true_and] at hsn
  have hls := lastF_snoc pre key0 x
  obtain ⟨y, hy⟩ : ∃ y, lastF key0 pre = y := ⟨_, rfl⟩
  rw [hy] at h1 hsn
  obtain ⟨x0, x1, x2, x3⟩ := (show Blk W Bx 60 #[.int .i64 x.frame, .int .i64 x.emitter, .int .i64 x.kind, .int .i64 x.ord] from bX).key
  have hbx := bX.lt
  have HSN := zz hsn
  have HLS := zz hls
  have H0 := zz h0
  have H1 := zz h1
  have HX := zz bX
  have HB := zz hB
  have hw0 : w.heap.size ≤ W.heap.size := hB.size
  clear hsn hls h0 h1 bX hB h2 hy
  cases hk : keyOk x
  ·have hf : risingF key0 (pre ++ [x]) = false := by rw [HSN.out, hk]; rfl
   have HK := zz hk
   have HF := zz hf
   clear hk hf
   gi_wp2_with (first | (refine ⟨trivial, ?_⟩; gi_at_call 306; refine (CallsIn.inRound l (callsIn_wide.2 (key_any x _))).mono ?_; rw [HK.out]; rintro e w1 ⟨rfl, hb1⟩; have q0 := (H0.out.on hb1).cell 0; have q1 := (H0.out.on hb1).frozen 0; have ql := (H0.out.on hb1).lt; simp only [zA, zB] at q0; have HB1 := zz hb1; clear hb1))
   refine ⟨trivial, ?_⟩
   gi_wp2
   have hk1 := H0.out.on HB1.out
   exact ⟨((below_others HB1.out).trans (KeepsOthers.setCell _ _ _)).from _, ⟨rfl, HF.out, hk1.set 0 (.bool false)⟩, (HB.out.trans (HB1.out.mono hw0)).setCell (p := ⟨w.heap.size, 0, none⟩) (zL _) _⟩
  ·have HK := zz hk
   clear hk
   by_cases hc : cmpK y x < 0
   ·have hcd : decide (0 ≤ cmpK y x) = false := decide_eq_false (by omega)
    have hf : risingF key0 (pre ++ [x]) = true := by rw [HSN.out, HK.out, decide_eq_true hc]; rfl
    have HF := zz hf
    clear hf
    gi_wp2_with (first
     | (refine ⟨trivial, ?_⟩; gi_at_call 306; refine (CallsIn.inRound l (callsIn_wide.2 (key_any x _))).mono ?_; rw [HK.out]; rintro e w1 ⟨rfl, hb1⟩; have ⟨p0, p1, p2, p3⟩ := (HX.out.on hb1).key; have ⟨r0, r1, r2, r3⟩ := (H1.out.on hb1).key; have rl := (H1.out.on hb1).lt; have pl := (HX.out.on hb1).lt; have HB1 := zz hb1; clear hb1)
     | (refine ⟨trivial, ?_⟩; gi_at_call 80; refine (CallsIn.inRound l (callsIn_wide.2 (compare_any y x _))).mono ?_; rintro e w2 ⟨rfl, hb2⟩; have hb12 := bTrans HB1.out hb2; have ⟨s0, s1, s2, s3⟩ := (HX.out.on hb12).key; have ⟨t0, t1, t2, t3⟩ := (H1.out.on hb12).key; have u0 := (H1.out.on hb12).frozen 0; have u1 := (H1.out.on hb12).frozen 1; have u2 := (H1.out.on hb12).frozen 2; have u3 := (H1.out.on hb12).frozen 3; have tl := (H1.out.on hb12).lt; have sl := (HX.out.on hb12).lt; have HB2 := zz hb12; clear hb2 hb12))
    have hk0 := H0.out.on HB2.out
    have hk1 := H1.out.on HB2.out
    have hB2 := HB2.out.mono hw0
    have hBB : Below w.heap.size W ((((w2.setCell ⟨w.heap.size + 1, 0, none⟩ (.int .i64 x.frame)).setCell ⟨w.heap.size + 1, 1, none⟩ (.int .i64 x.emitter)).setCell ⟨w.heap.size + 1, 2, none⟩ (.int .i64 x.kind)).setCell ⟨w.heap.size + 1, 3, none⟩ (.int .i64 x.ord)) := (((hB2.setCell (p := ⟨w.heap.size + 1, 0, none⟩) (Nat.le_succ _) _).setCell (p := ⟨w.heap.size + 1, 1, none⟩) (Nat.le_succ _) _).setCell (p := ⟨w.heap.size + 1, 2, none⟩) (Nat.le_succ _) _).setCell (p := ⟨w.heap.size + 1, 3, none⟩) (Nat.le_succ _) _
    refine ⟨(((((below_others HB2.out).trans (KeepsOthers.setCell _ _ _)).trans (KeepsOthers.setCell _ _ _)).trans (KeepsOthers.setCell _ _ _)).trans (KeepsOthers.setCell _ _ _)).from _, hBB, ⟨(((hk0.farG (by omega) _ _).farG (by omega) _ _).farG (by omega) _ _).farG (by omega) _ _, ?_, HF.out⟩, HB.out.trans hBB⟩
    rw [HLS.out]
    exact Blk.set4 hk1
   ·have hcd : decide (0 ≤ cmpK y x) = true := decide_eq_true (by omega)
    have hf : risingF key0 (pre ++ [x]) = false := by rw [HSN.out, HK.out, decide_eq_false hc]; rfl
    have HF := zz hf
    clear hf
    gi_wp2_with (first
     | (refine ⟨trivial, ?_⟩; gi_at_call 306; refine (CallsIn.inRound l (callsIn_wide.2 (key_any x _))).mono ?_; rw [HK.out]; rintro e w1 ⟨rfl, hb1⟩; have ⟨p0, p1, p2, p3⟩ := (HX.out.on hb1).key; have ⟨r0, r1, r2, r3⟩ := (H1.out.on hb1).key; have rl := (H1.out.on hb1).lt; have pl := (HX.out.on hb1).lt; have HB1 := zz hb1; clear hb1)
     | (refine ⟨trivial, ?_⟩; gi_at_call 80; refine (CallsIn.inRound l (callsIn_wide.2 (compare_any y x _))).mono ?_; rintro e w2 ⟨rfl, hb2⟩; have hb12 := bTrans HB1.out hb2; have q0 := (H0.out.on hb12).cell 0; have q1 := (H0.out.on hb12).frozen 0; have ql := (H0.out.on hb12).lt; simp only [zA, zB] at q0; have HB2 := zz hb12; clear hb2 hb12))
    have hk1 := H0.out.on HB2.out
    exact ⟨((below_others HB2.out).trans (KeepsOthers.setCell _ _ _)).from _, ⟨rfl, HF.out, hk1.set 0 (.bool false)⟩, (HB.out.trans (HB2.out.mono hw0)).setCell (p := ⟨w.heap.size, 0, none⟩) (zL _) _⟩
 case done =>
  rintro D ys W hD rfl ⟨⟨h0, h1, h2⟩, hB⟩ hK
  have q0 := h0.cell 0
  have q1 := h0.frozen 0
  have ql := h0.lt
  simp only [zA, zB] at q0
  have H2 := zz h2
  have H0 := zz h0
  clear h1 h2 h0
  gi_wp2
  have hK' := (KeepsOthers.setCell W ⟨w.heap.size, 0, none⟩ (.bool true)).same D _ hK rfl
  refine ⟨by simp, .inl ⟨_, _, rfl, run_takeDeferred hK', ?_⟩⟩
  have hc5 := cell_kept (World.cell?_setCell_same' W ⟨w.heap.size, 0, none⟩ (.bool true) (by rw [q0]; rfl)) (grownBy_putObj' _ D (.deferred none)) (fun r e => by cases e; exact ⟨_, hK', rfl⟩)
  refine ⟨.bool true, ?_, ret_bool H2.out.symm, (hB.setCell (p := ⟨w.heap.size, 0, none⟩) (zL _) _).trans (belowK_b (w := w) (zL _) _ D _ _ (by omega) hK' rfl rfl)⟩
  simp [results, Tryz.results276, go_sem, hc5]
 case stop =>
  rintro D c pre W hD ⟨k, hk, rfl⟩ ⟨⟨rfl, h1, h2⟩, hB⟩ hK
  have q0 := h2.cell 0
  simp only [zA, zB] at q0
  have H1 := zz (risingF_take _ _ _ h1)
  clear h1 h2
  gi_wp2
  refine ⟨by simp, .inl ⟨_, _, rfl, run_takeDeferred hK, ?_⟩⟩
  have hc5 := cell_kept q0 (grownBy_putObj' _ D (.deferred none)) (fun r e => by cases e; exact ⟨_, hK, rfl⟩)
  refine ⟨.bool false, ?_, ret_bool H1.out.symm, hB.trans (belowK_b (w := w) (zL _) W D _ _ (by omega) hK rfl rfl)⟩
  simp [results, Tryz.results276, go_sem, hc5]
theorem rising_any (Bs : Nat) (A : Option Addr) (c : Nat) (L : List Ev) (hL : L.length ≤ 1000) (w : World) (hBs : w.cell? ⟨Bs, 0, none⟩ = some (.slice A L.length c)) (hBl : Bs < w.heap.size) (hr : Rd w w.heap.size A (L.flatMap Ev.cells)) :
  Calls Tryz.prog 276 #[.func (.func 307) #[] #[.pointer (some ⟨Bs, 0, none⟩)]] w fun e w' => e = .returned (.bool (risingF key0 (L.map Ev.key))) ∧ Below w.heap.size w w' :=
 callsIn_wide.1 (rising_in Bs A c L hL w hBs hBl hr)
theorem keys_any (A : Option Addr) (m c : Nat) (w : World) : Calls Tryz.prog 277 #[.slice A m c] w fun e w' => e = .returned (.func (.func 307) #[] #[.pointer (some ⟨w.heap.size, 0, none⟩)]) ∧ w' = w.alloc (.cells #[.slice A m c] 52) :=
 callsIn_wide.1 (keys_in 3 _ rfl w ⟨_, _, _, rfl⟩)
theorem ordered_any (A : Option Addr) (c : Nat) (L : List Ev) (hL : L.length ≤ 1000) (w : World) (hr : Rd w w.heap.size A (L.flatMap Ev.cells)) :
  Calls Tryz.prog 229 #[.slice A L.length c] w fun e w' => e = .returned (.bool (orderedB L)) ∧ Below w.heap.size w w' := by
 have HCF := zz (cfE_any A c L w hL hr)
 have HRI : Hid (∀ W, Below w.heap.size w W → Calls Tryz.prog 276 #[.func (.func 307) #[] #[.pointer (some ⟨W.heap.size, 0, none⟩)]] (W.alloc (.cells #[.slice A L.length c] 52)) fun e w' => e = .returned (.bool (risingF key0 (L.map Ev.key))) ∧ Below W.heap.size W w') := zz (fun W hW => by
  have hb := bAlloc (Below.refl W.heap.size W) (.cells #[.slice A L.length c] 52)
  have hw := bAlloc hW (.cells #[.slice A L.length c] 52)
  refine (rising_any W.heap.size A c L hL _ (by simp [go_sem]) (by simp) ((hr.below hw (zL _)).more hw.size)).mono ?_
  rintro e w' ⟨rfl, h⟩
  exact ⟨rfl, bTrans hb h⟩)
 have HO := zz (show (decide (L.length ≤ 64) && (L.all evOk && risingF key0 (L.map Ev.key))) = orderedB L from rfl)
 obtain ⟨m, hm⟩ : ∃ m, L.length = m := ⟨_, rfl⟩
 obtain ⟨p, hp⟩ : ∃ p, L.all evOk = p := ⟨_, rfl⟩
 obtain ⟨q, hq⟩ : ∃ q, risingF key0 (L.map Ev.key) = q := ⟨_, rfl⟩
 rw [hm, hp] at HCF
 rw [hm, hq] at HRI
 rw [hm, hp, hq] at HO
 rw [hm] at hL ⊢
 clear hm hp hq hr
 by_cases h64 : m ≤ 64
 ·have g1 : decide ((m : Int) ≤ 64) = true := decide_eq_true (by omega)
  rw [decide_eq_true h64, Bool.true_and] at HO
  cases p
  ·go_enter Tryz.func229, Tryz.ntmps229
   go_wp2_with (first | (go_at_call 274; refine HCF.out.mono ?_; rintro e w1 ⟨rfl, hb1⟩))
   go_ret
   exact ⟨ret_bool HO.out, hb1⟩
  ·rw [Bool.true_and] at HO
   go_enter Tryz.func229, Tryz.ntmps229
   go_wp2_with (first
    | (go_at_call 274; refine HCF.out.mono ?_; rintro e w1 ⟨rfl, hb1⟩)
    | (go_at_call 277; refine (keys_any _ _ _ _).mono ?_; rintro e w2 ⟨rfl, rfl⟩)
    | (go_at_call 276; refine (HRI.out _ hb1).mono ?_; rintro e w3 ⟨rfl, hb3⟩))
   go_ret
   exact ⟨ret_bool HO.out, bTrans hb1 hb3⟩
 ·have g1 : decide ((m : Int) ≤ 64) = false := decide_eq_false (by omega)
  rw [decide_eq_false h64, Bool.false_and] at HO
  go_enter Tryz.func229, Tryz.ntmps229
  go_wp2_with fail
  go_ret
  exact ⟨ret_bool HO.out, Below.refl _ _⟩
theorem risingF_sorted : ∀ (L : List Ev) (a : Key4), SortedE L → (∀ e ∈ L, evOk e = true) → (∀ e ∈ L, a.Lt e.key) → risingF a (L.map Ev.key) = true
 | [], _, _, _, _ => rfl
 | x :: r, a, hs, hok, ha => by
  have hx := hok x (by simp)
  have hk : keyOk x.key = true := by
   unfold evOk at hx
   simp only [Bool.and_eq_true] at hx
   exact hx.1.1.1.1.1
  have hlt : cmpK a x.key < 0 := (cmpK_neg a x.key).2 (ha x (by simp))
  show (keyOk x.key && (decide (cmpK a x.key < 0) && risingF x.key (r.map Ev.key))) = true
  rw [hk, decide_eq_true hlt, risingF_sorted r x.key (List.pairwise_cons.1 hs).2 (fun e he => hok e (by simp [he])) (fun e he => (List.pairwise_cons.1 hs).1 e he)]
  rfl
end
end Go.Proofs.YtibeihcpehikoaaGreat
