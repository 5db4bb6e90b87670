/-
  The program's Diff.
-/
import Derived.Test.YtdjfpdndaobohaaDfP
import Derived.Test.YtdjfpdndaobohaaApI
namespace Go.Proofs.Ytdjfpdndaobohaa
open Go.RowKit
set_option maxRecDepth 100000
set_option linter.unusedSimpArgs false
theorem Try.infoKey : (Try.prog.info? 23).map (fun i => (i.zero, i.size, i.bytes)) = some (some (.agg #[.int .i64 0, .int .i64 0, .int .i64 0, .int .i64 0]), 4, 32) := by kernel_rfl
theorem keys_oneCell (M : List Key4) : ∀ u ∈ M.flatMap Key4.cells, u.oneCell' = true := fun u hu => by
  obtain ⟨e, -, he⟩ := List.mem_flatMap.1 hu
  simp only [Key4.cells, List.mem_cons, List.not_mem_nil, or_false] at he
  rcases he with rfl | rfl | rfl | rfl <;> rfl
theorem wpList_app_evU {w : World} {ops : Array Oper} {rest : List Oper} {o : Oper} {a : Act} {Q : Exit → Act → World → Prop} (hgd : o.guard = none) (s x : Operand)
    (ho : o.op = .call { callee := .builtin .append, args := #[s, x], argTypes := #[31, 31] })
    (base : Nat) (u : Value) (L M : List Ev) (hown : OwnL w base 25 9 u Ev.cells L) (hs : a.eval s = u)
    (B : Nat) (A : Option Addr) (m c : Nat) (hm : m = M.length) (hx : a.eval x = .slice A m c) (hr : Rd w B A (M.flatMap Ev.cells)) (hn : L.length + M.length ≤ 1000000000) (hbase : base ≤ w.heap.size)
    (h : ∀ A' c' n' w', OwnL w' base 25 9 (.slice A' n' c') Ev.cells (L ++ M) → w.grownBy w' u.ownBlock → ((Value.slice A' n' c').ownBlock = u.ownBlock ∨ (Value.slice A' n' c').ownBlock = some w.heap.size) → wpList Try.prog ops Q rest (a.put o.dst (.slice A' n' c')) w') : wpList Try.prog ops Q (o :: rest) a w := by
  subst hm
  obtain ⟨i0, hi0, hz0, hz1, hz2⟩ := info_parts Try.infoEv
  refine wpList_append_rd hgd s x 31 ho base 25 i0 _ 9 72 Try.underlying31 hi0 hz0 hz1 hz2 rfl (by decide) u L.length (L.flatMap Ev.cells) hs hown B A M.length c (M.flatMap Ev.cells) hx (length_flatMap_const _ _ Ev.cells_length _) hr (rd_none Ev.cells_length (by decide) hr) (evs_oneCell M) (by unfold maxLen; omega) (by omega) hbase ?_
  intro v' w' hw hg hat
  have ho' : OwnL w' base 25 9 v' Ev.cells (L ++ M) := OwnL.app (n := L.length + M.length) rfl hw
  obtain ⟨A', c', rfl⟩ := ho'.shape
  exact h A' c' _ w' ho' hg hat
theorem wpList_app_key {w : World} {ops : Array Oper} {rest : List Oper} {o : Oper} {a : Act} {Q : Exit → Act → World → Prop} (hgd : o.guard = none) (s x : Operand)
    (ho : o.op = .call { callee := .builtin .append, args := #[s, x], argTypes := #[48, 48] })
    (base : Nat) (u : Value) (L M : List Key4) (hown : OwnL w base 23 4 u Key4.cells L) (hs : a.eval s = u)
    (B : Nat) (A : Option Addr) (m c : Nat) (hm : m = M.length) (hx : a.eval x = .slice A m c) (hr : Rd w B A (M.flatMap Key4.cells)) (hn : L.length + M.length ≤ 1000000000) (hbase : base ≤ w.heap.size)
    (h : ∀ A' c' n' w', OwnL w' base 23 4 (.slice A' n' c') Key4.cells (L ++ M) → w.grownBy w' u.ownBlock → wpList Try.prog ops Q rest (a.put o.dst (.slice A' n' c')) w') : wpList Try.prog ops Q (o :: rest) a w := by
  subst hm
  obtain ⟨i0, hi0, hz0, hz1, hz2⟩ := info_parts Try.infoKey
  refine wpList_append_rd hgd s x 48 ho base 23 i0 _ 4 32 Try.underlying48 hi0 hz0 hz1 hz2 rfl (by decide) u L.length (L.flatMap Key4.cells) hs hown B A M.length c (M.flatMap Key4.cells) hx (length_flatMap_const _ _ Key4.cells_length _) hr (rd_none Key4.cells_length (by decide) hr) (keys_oneCell M) (by unfold maxLen; omega) (by omega) hbase ?_
  intro v' w' hw hg hat
  have ho' : OwnL w' base 23 4 v' Key4.cells (L ++ M) := OwnL.app (n := L.length + M.length) rfl hw
  obtain ⟨A', c', rfl⟩ := ho'.shape
  exact h A' c' _ w' ho' hg
theorem rd_key1 (w : World) (x : Key4) : Rd (w.alloc (.cells #[.int .i64 x.frame, .int .i64 x.emitter, .int .i64 x.kind, .int .i64 x.ord] 23)) (w.heap.size + 1) (some ⟨w.heap.size, 0, none⟩) ([x].flatMap Key4.cells) :=
  rd_new w _ 23 _ rfl _ (Nat.lt_succ_self _)
theorem filter_snoc {α : Type} (p : α → Bool) (L : List α) (k : Nat) (hk : k < L.length) : (L.take (k + 1)).filter p = (L.take k).filter p ++ if p L[k] = true then [L[k]] else [] := by
  rw [List.take_succ_eq_append_getElem hk, List.filter_append, List.filter_cons, List.filter_nil]
theorem goneL_snoc (was now : List Ev) (k : Nat) (hk : k < was.length) : goneL (was.take (k + 1)) now = goneL (was.take k) now ++ if foundK now was[k].key = true then [] else [was[k].key] := by
  unfold goneL
  rw [filter_snoc _ _ _ hk, List.map_append]
  cases foundK now was[k].key <;> rfl
theorem freshL_snoc (was now : List Ev) (k : Nat) (hk : k < now.length) : freshL was (now.take (k + 1)) = freshL was (now.take k) ++ if foundK was now[k].key = true then [] else [now[k]] := by
  unfold freshL
  rw [filter_snoc _ _ _ hk]
  cases foundK was now[k].key <;> rfl
theorem turnedL_snoc (was now : List Ev) (k : Nat) (hk : k < now.length) : turnedL was (now.take (k + 1)) = turnedL was (now.take k) ++ if foundK was now[k].key = true then (if findE was now[k].key = now[k] then [] else [now[k]]) else [] := by
  unfold turnedL
  rw [filter_snoc _ _ _ hk]
  congr 1
  cases foundK was now[k].key
  · rfl
  · by_cases h : findE was now[k].key = now[k]
    · rw [decide_eq_true h, if_pos h]; rfl
    · rw [decide_eq_false h, if_neg h]; rfl
theorem flt_len {α : Type} (p : α → Bool) (L : List α) (k : Nat) : ((L.take k).filter p).length ≤ L.length := Nat.le_trans (List.length_filter_le _ _) (by rw [List.length_take]; omega)
theorem Blk.apart' {α : Type} {w : World} {g base : Nat} {E E' : TypeId} {cs : Array Value} {m : Nat} {v : Value} {f : α → List Value} {l : List α} (h : Blk w g E cs) (h' : OwnL w base E' m v f l) (hne : E ≠ E') : v.ownBlock ≠ some g := h.apart h' hne
set_option maxHeartbeats 4000000 in
theorem diff_bad (A1 A2 : Option Addr) (c1 c2 : Nat) (was now : List Ev) (w : World) (h1 : was.length ≤ 1000) (h2 : now.length ≤ 1000) (r1 : Rd w w.heap.size A1 (was.flatMap Ev.cells)) (r2 : Rd w w.heap.size A2 (now.flatMap Ev.cells)) (hb : (orderedB was && orderedB now) = false) :
    Calls Try.prog 27 #[.slice A1 was.length c1, .slice A2 now.length c2] w fun e w' => e = .returned (.tuple #[.agg #[.slice none 0 0, .slice none 0 0, .slice none 0 0], .int .i64 1]) ∧ Below w.heap.size w w' := by
  obtain ⟨W, hW⟩ : ∃ W, W = w.alloc (.cells #[.slice none 0 0, .slice none 0 0, .slice none 0 0] 51) := ⟨_, rfl⟩
  have HK : Hid (Blk W w.heap.size 51 #[.slice none 0 0, .slice none 0 0, .slice none 0 0]) := Lib.hid (by rw [hW]; exact Blk.new _ _ _)
  have hB0 : Below w.heap.size w W := by rw [hW]; exact bAlloc (Below.refl _ _) _
  have HT : Hid (∀ V, Below W.heap.size W V → Below w.heap.size w V) := Lib.hid (fun V hV => hB0.trans (hV.mono hB0.size))
  have HO1 := Lib.hid (fun V (hV : Below W.heap.size W V) => ordered_any A1 c1 was h1 V ((r1.below (HT.out V hV) (Nat.le_refl _)).more (HT.out V hV).size))
  have HO2 := Lib.hid (fun V (hV : Below W.heap.size W V) => ordered_any A2 c2 now h2 V ((r2.below (HT.out V hV) (Nat.le_refl _)).more (HT.out V hV).size))
  have HB : Hid (Below W.heap.size W W) := Lib.hid (Below.refl _ _)
  obtain ⟨n1, hn1⟩ : ∃ n, was.length = n := ⟨_, rfl⟩
  obtain ⟨n2, hn2⟩ : ∃ n, now.length = n := ⟨_, rfl⟩
  obtain ⟨b1, hb1⟩ : ∃ b, orderedB was = b := ⟨_, rfl⟩
  obtain ⟨b2, hb2⟩ : ∃ b, orderedB now = b := ⟨_, rfl⟩
  rw [hn1, hb1] at HO1
  rw [hn2, hb2] at HO2
  rw [hb1, hb2] at hb
  rw [hn1, hn2]
  clear hn1 hn2 hb1 hb2 r1 r2 h1 h2 hB0
  cases b1
  case false =>
    go_enter Try.func27, Try.ntmps27
    go_upto_region 1 with fail
    rw [← hW]
    clear hW
    go_upto_region 2 with (first | (go_at_call 15; (with_reducible refine (HO1.out _ HB.out).mono ?_); rintro e wx ⟨rfl, hbx⟩; have HB := Lib.hid (bTrans HB.out hbx); clear hbx))
    obtain ⟨q1, q2, q3⟩ := Blk.three (HK.out.on HB.out)
    have ql := (HK.out.on HB.out).lt
    have f0 := (HK.out.on HB.out).frozen 0
    have f1 := (HK.out.on HB.out).frozen 1
    have f2 := (HK.out.on HB.out).frozen 2
    go_wp2
    have hfin : Blk (((wx.setCell ⟨w.heap.size, 0, none⟩ (.slice none 0 0)).setCell ⟨w.heap.size, 1, none⟩ (.slice none 0 0)).setCell ⟨w.heap.size, 2, none⟩ (.slice none 0 0)) w.heap.size 51 #[.slice none 0 0, .slice none 0 0, .slice none 0 0] := (((HK.out.on HB.out).set 0 _).set 1 _).set 2 _
    obtain ⟨y1, y2, y3⟩ := Blk.three hfin
    refine bodyPost_ret (v := .tuple #[.agg #[.slice none 0 0, .slice none 0 0, .slice none 0 0], .int .i64 1]) ?_ rfl ⟨rfl, ?_⟩
    · simp [results, Try.results27, go_sem, y1, y2, y3]
    · exact bSetG (bSetG (bSetG (HT.out _ HB.out) (Nat.le_refl _) _ _) (Nat.le_refl _) _ _) (Nat.le_refl _) _ _
  cases b2
  case true => cases hb
  go_enter Try.func27, Try.ntmps27
  go_upto_region 1 with fail
  rw [← hW]
  clear hW
  go_upto_region 2 with (first | (go_at_call 15; (with_reducible refine (HO1.out _ HB.out).mono ?_); rintro e wx ⟨rfl, hbx⟩; have HB := Lib.hid (bTrans HB.out hbx); clear hbx) | (go_at_call 15; (with_reducible refine (HO2.out _ HB.out).mono ?_); rintro e wy ⟨rfl, hbx⟩; have HB := Lib.hid (bTrans HB.out hbx); clear hbx))
  obtain ⟨q1, q2, q3⟩ := Blk.three (HK.out.on HB.out)
  have ql := (HK.out.on HB.out).lt
  have f0 := (HK.out.on HB.out).frozen 0
  have f1 := (HK.out.on HB.out).frozen 1
  have f2 := (HK.out.on HB.out).frozen 2
  go_wp2
  have hfin : Blk (((wy.setCell ⟨w.heap.size, 0, none⟩ (.slice none 0 0)).setCell ⟨w.heap.size, 1, none⟩ (.slice none 0 0)).setCell ⟨w.heap.size, 2, none⟩ (.slice none 0 0)) w.heap.size 51 #[.slice none 0 0, .slice none 0 0, .slice none 0 0] := (((HK.out.on HB.out).set 0 _).set 1 _).set 2 _
  obtain ⟨y1, y2, y3⟩ := Blk.three hfin
  refine bodyPost_ret (v := .tuple #[.agg #[.slice none 0 0, .slice none 0 0, .slice none 0 0], .int .i64 1]) ?_ rfl ⟨rfl, ?_⟩
  · simp [results, Try.results27, go_sem, y1, y2, y3]
  · exact bSetG (bSetG (bSetG (HT.out _ HB.out) (Nat.le_refl _) _ _) (Nat.le_refl _) _ _) (Nat.le_refl _) _ _
end Go.Proofs.Ytdjfpdndaobohaa
