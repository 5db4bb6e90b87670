/-
  LedgerTells: the walk.
-/
import Derived.Test.YteccmklacgpodaaLTelP
import Derived.Test.YteccmklacgpodaaAw17
import Derived.Test.YteccmklacgpodaaActO
namespace Go.Proofs.Yteccmklacgpodaa
open Go.RowKit
set_option maxRecDepth 100000
set_option linter.unusedSimpArgs false
theorem Rd.act {w : World} {B : Nat} {A : Option Addr} {l : List ActP} (h : Rd w B A (l.flatMap ActP.cells)) {k : Nat} (hk : k < l.length) :
    ∃ b off, A = some ⟨b, off, none⟩ ∧ b < B ∧ w.cell? ⟨b, off + k * 4, none⟩ = some (.int .i64 l[k].kind) ∧ w.cell? ⟨b, off + k * 4 + 1, none⟩ = some (.int .i64 l[k].frame) ∧ w.cell? ⟨b, off + k * 4 + 2, none⟩ = some (.slice l[k].A l[k].evs.length l[k].c) ∧ w.cell? ⟨b, off + k * 4 + 3, none⟩ = some (.int .i64 l[k].by_) := by
  obtain ⟨b, off, hA, hb, hat⟩ := h.at_ ActP.cells_length (by omega) hk
  exact ⟨b, off, hA, hb, hat 0 _ rfl, hat 1 _ rfl, hat 2 _ rfl, hat 3 _ rfl⟩
theorem Blk.four {w : World} {g : Nat} {E : TypeId} {v0 v1 v2 v3 : Value} (h : Blk w g E #[v0, v1, v2, v3]) : w.cell? ⟨g, 0, none⟩ = some v0 ∧ w.cell? ⟨g, 1, none⟩ = some v1 ∧ w.cell? ⟨g, 2, none⟩ = some v2 ∧ w.cell? ⟨g, 3, none⟩ = some v3 ∧ g < w.heap.size := ⟨h.cell 0, h.cell 1, h.cell 2, h.cell 3, h.lt⟩
/-- The ledger in a law's loop: all its blocks are the call's own. -/
structure LgR (w W : World) (g gl gt : Nat) (most : Int) (i : Nat) (S : List Ev) (T : List TEnt) (com : Int) (halt : Bool) : Prop where
  lg : LgW W g gl gt most S T com halt
  below : Below w.heap.size w W
  own : w.heap.size ≤ g ∧ w.heap.size ≤ gl ∧ w.heap.size ≤ gt
  ok : LvOk S
  len : (S.length : Int) ≤ most
  told : TOk T
  tlen : T.length ≤ i
  com : -1 ≤ com ∧ com ≤ 1073741824 + i
section
variable {w W W' : World} {g gl gt i : Nat} {most com : Int} {halt : Bool} {S : List Ev} {T : List TEnt}
theorem LgR.on (h : LgR w W g gl gt most i S T com halt) (hb : Below W.heap.size W W') : LgR w W' g gl gt most i S T com halt :=
  ⟨h.lg.on hb, h.below.trans (hb.mono h.below.size), h.own, h.ok, h.len, h.told, h.tlen, h.com⟩
theorem LgR.step (h : LgR w W g gl gt most i S T com halt) : LgR w W g gl gt most (i + 1) S T com halt :=
  ⟨h.lg, h.below, h.own, h.ok, h.len, h.told, Nat.le_trans h.tlen (Nat.le_succ _), h.com.1, by have := h.com.2; omega⟩
theorem LgR.tell (h : LgR w W g gl gt most i S T com halt) {f now : Int} {v : Value} {evs : List Ev} (hE : fitsE halt com evs f now = 0) (hL : LgW W' g gl gt most (tellF most now evs f S).1 (setT T f v evs) com halt) (hk : KeptX W W' [gl, gt]) : LgR w W' g gl gt most (i + 1) (tellF most now evs f S).1 (setT T f v evs) com halt := by
  obtain ⟨-, ha, -⟩ := fitsE_zero hE
  obtain ⟨h1, h2, -, -⟩ := argB_of ha
  obtain ⟨t1, t2, -⟩ := tellF_ok (most := most) (now := now) (f := f) h.ok (fun e he => (h2 e he).1) h.len
  refine ⟨hL, h.below.trans (hk.toBelow (fun x hx => ?_) h.below.size), h.own, t1, t2, setT_ok h.told (fun e he => (h2 e he).1) (ordered_len h1), Nat.le_trans (setT_len _ _ _ _) (Nat.succ_le_succ h.tlen), h.com.1, by have := h.com.2; omega⟩
  obtain ⟨-, o2, o3⟩ := h.own
  simp only [List.mem_cons, List.not_mem_nil, or_false] at hx
  rcases hx with rfl | rfl
  · exact o2
  · exact o3
theorem LgR.commit (h : LgR w W g gl gt most i S T com false) (hL : LgW W' g gl gt most (commitF (toldAt T (com + 1)) S).1 (delT T (com + 1)) (com + 1) false) (hk : KeptX W W' [g, gl, gt]) : LgR w W' g gl gt most (i + 1) (commitF (toldAt T (com + 1)) S).1 (delT T (com + 1)) (com + 1) false := by
  obtain ⟨t1, t2⟩ := commitF_ok h.ok (toldAt T (com + 1))
  refine ⟨hL, h.below.trans (hk.toBelow (fun x hx => ?_) h.below.size), h.own, t1, by have := h.len; omega, delT_ok h.told _, Nat.le_trans (delT_len _ _) (Nat.le_trans h.tlen (Nat.le_succ _)), by have := h.com.1; omega, by have := h.com.2; omega⟩
  obtain ⟨o1, o2, o3⟩ := h.own
  simp only [List.mem_cons, List.not_mem_nil, or_false] at hx
  rcases hx with rfl | rfl | rfl
  · exact o1
  · exact o2
  · exact o3
end
/-- What is none of the ledger's stays. -/
theorem LgW.blkX {W W' : World} {g gl gt : Nat} {most com : Int} {halt : Bool} {S : List Ev} {T : List TEnt} (h : LgW W g gl gt most S T com halt) {r : Nat} {E : TypeId} {cs : Array Value} (hb : Blk W r E cs) (hE : E ≠ 62) {X : List Nat} (hk : KeptX W W' X) (hX : ∀ x ∈ X, x = g ∨ x = gl ∨ x = gt) : Blk W' r E cs := by
  obtain ⟨es, ck, hl⟩ := h.live.block
  obtain ⟨es', ck', ht⟩ := h.told.block
  refine (hk.block r hb.lt (fun hx => ?_)).trans hb
  rcases hX r hx with rfl | rfl | rfl
  · have h2 := h.blk
    unfold Blk at h2 hb
    rw [hb] at h2
    injection h2 with h2
    injection h2 with _ h3
    exact hE h3
  · exact hb.noMap hl rfl
  · exact hb.noMap ht rfl
theorem LgW.ownX {α : Type} {W W' : World} {g gl gt : Nat} {most com : Int} {halt : Bool} {S : List Ev} {T : List TEnt} (h : LgW W g gl gt most S T com halt) {base : Nat} {E : TypeId} {m : Nat} {v : Value} {f : α → List Value} {l : List α} (ho : OwnL W base E m v f l) (hE : E ≠ 62) {X : List Nat} (hk : KeptX W W' X) (hX : ∀ x ∈ X, x = g ∨ x = gl ∨ x = gt) : OwnL W' base E m v f l := by
  obtain ⟨es, ck, hl⟩ := h.live.block
  obtain ⟨es', ck', ht⟩ := h.told.block
  refine ho.same (fun k hv => hk.block k (ho.block_lt k hv) (fun hx => ?_))
  rcases hX k hx with rfl | rfl | rfl
  · exact h.blk.apart ho hE.symm hv
  · exact ho.noMap hl hv
  · exact ho.noMap ht hv
theorem wpList_app_evU {w : World} {ops : Array Oper} {rest : List Oper} {o : Oper} {a : Act} {Q : Exit → Act → World → Prop} (hgd : o.guard = none) (s x : Operand)
    (ho : o.op = .call { callee := .builtin .append, args := #[s, x], argTypes := #[28, 28] })
    (base : Nat) (u : Value) (L M : List Ev) (hown : OwnL w base 43 9 u Ev.cells L) (hs : a.eval s = u)
    (B : Nat) (A : Option Addr) (m c : Nat) (hm : m = M.length) (hx : a.eval x = .slice A m c) (hr : Rd w B A (M.flatMap Ev.cells)) (hn : L.length + M.length ≤ 1000000000) (hbase : base ≤ w.heap.size)
    (h : ∀ A' c' n' w', OwnL w' base 43 9 (.slice A' n' c') Ev.cells (L ++ M) → w.grownBy w' u.ownBlock → ((Value.slice A' n' c').ownBlock = u.ownBlock ∨ (Value.slice A' n' c').ownBlock = some w.heap.size) → wpList Try.prog ops Q rest (a.put o.dst (.slice A' n' c')) w') : wpList Try.prog ops Q (o :: rest) a w := by
  subst hm
  obtain ⟨i0, hi0, hz0, hz1, hz2⟩ := info_parts Try.infoEv
  refine wpList_append_rd hgd s x 28 ho base 43 i0 _ 9 72 Try.underlying28 hi0 hz0 hz1 hz2 rfl (by decide) u L.length (L.flatMap Ev.cells) hs hown B A M.length c (M.flatMap Ev.cells) hx (length_flatMap_const _ _ Ev.cells_length _) hr (rd_none Ev.cells_length (by decide) hr) (evs_oneCell M) (by unfold maxLen; omega) (by omega) hbase ?_
  intro v' w' hw hg hat
  have ho' : OwnL w' base 43 9 v' Ev.cells (L ++ M) := OwnL.app (n := L.length + M.length) rfl hw
  obtain ⟨A', c', rfl⟩ := ho'.shape
  exact h A' c' _ w' ho' hg hat
theorem ofF_snoc (f : Int) (S : List Ev) (k : Nat) (hk : k < S.length) : ofF f (S.take (k + 1)) = ofF f (S.take k) ++ (if S[k].frame = f then [S[k]] else []) := by
  unfold ofF
  rw [List.take_succ_eq_append_getElem hk, List.filter_append]
  congr 1
  by_cases h : S[k].frame = f
  · simp [h]
  · simp [h]
/-- Tell, in a law's loop. -/
theorem tell_lgr {w W : World} {g gl gt i : Nat} {most com : Int} {halt : Bool} {S : List Ev} {T : List TEnt} (h : LgR w W g gl gt most i S T com halt) (hm : most ≤ 256) (hi : i ≤ 200) (f now : Int) (A : Option Addr) (c : Nat) (evs : List Ev) (hr : Rd W W.heap.size A (evs.flatMap Ev.cells)) (hE : fitsE halt com evs f now = 0) :
    Calls Try.prog 14 #[.pointer (some ⟨g, 0, none⟩), .agg #[.int .i64 f, .slice A evs.length c], .int .i64 now] W fun e W' => ∃ (A' : Option Addr) (n' c' : Nat) (v : Value), e = .returned (.tuple #[.slice A' n' c', .int .i64 0]) ∧ OwnL W' W.heap.size 57 12 (.slice A' n' c') Cm.cells (tellF most now evs f S).2 ∧
      LgR w W' g gl gt most (i + 1) (tellF most now evs f S).1 (setT T f v evs) com halt ∧ KeptX W W' [gl, gt] := by
  obtain ⟨-, ha, hc⟩ := fitsE_zero hE
  obtain ⟨h1, h2, h3, h4⟩ := argB_of ha
  have hcom := h.com
  refine (tell_ok h.lg h.ok h.len hm (Nat.le_trans h.tlen (by omega)) f now A c evs (ordered_len h1) hr hE h2 (by omega) (by omega)).mono ?_
  rintro e W' ⟨A', n', c', v, rfl, k1, k2, k3⟩
  exact ⟨A', n', c', v, rfl, k1, h.tell hE k2 k3, k3⟩
theorem commit_lgr {w W : World} {g gl gt i : Nat} {most com : Int} {S : List Ev} {T : List TEnt} (h : LgR w W g gl gt most i S T com false) (hi : i ≤ 200) :
    Calls Try.prog 11 #[.pointer (some ⟨g, 0, none⟩), .int .i64 (com + 1)] W fun e W' => ∃ (A' : Option Addr) (n' c' : Nat), e = .returned (.tuple #[.slice A' n' c', .int .i64 0]) ∧ OwnL W' W.heap.size 57 12 (.slice A' n' c') Cm.cells (commitF (toldAt T (com + 1)) S).2 ∧
      LgR w W' g gl gt most (i + 1) (commitF (toldAt T (com + 1)) S).1 (delT T (com + 1)) (com + 1) false ∧ KeptX W W' [g, gl, gt] := by
  have hcom := h.com
  refine (commit_ok h.lg h.ok h.told (by omega)).mono ?_
  rintro e W' ⟨A', n', c', rfl, k1, k2, k3⟩
  exact ⟨A', n', c', rfl, k1, h.commit k2 k3, k3⟩
/-- A new ledger in a law. -/
theorem new_lgr (n : Int) (w : World) (h : 1 ≤ n ∧ n ≤ 256) {w0 : World} (h0 : Below w0.heap.size w0 w) : Calls Try.prog 9 #[.int .i64 n] w fun e w' => e = .returned (.tuple #[.pointer (some ⟨w.heap.size + 2, 0, none⟩), .int .i64 0]) ∧ LgR w0 w' (w.heap.size + 2) w.heap.size (w.heap.size + 1) n 0 [] [] (-1) false := by
  refine (new_lg n w h).mono ?_
  rintro e w' ⟨rfl, h1, h2⟩
  have := h0.size
  exact ⟨rfl, h1, bTrans h0 h2, ⟨by omega, by omega, by omega⟩, LvOk.nil, (by simp; omega), (fun p hp => by cases hp), Nat.le_refl _, (by omega), (by omega)⟩
end Go.Proofs.Yteccmklacgpodaa
