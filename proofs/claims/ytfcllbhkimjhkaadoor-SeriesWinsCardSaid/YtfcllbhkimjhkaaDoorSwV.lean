/-
  The walk of SeriesWins, its first part: the rounds copied.
-/
import Derived.Test.YtfcllbhkimjhkaaDoorSwD
import Derived.Test.YtfcllbhkimjhkaaDoorSwM
import Derived.Test.YtfcllbhkimjhkaaDoorAppAny
namespace Go.Proofs.YtfcllbhkimjhkaaDoor.Ser
open Go.RowKit
set_option maxRecDepth 100000
set_option linter.unusedSimpArgs false
theorem Tryd.infoRRound : (Tryd.prog.info? 29).map (fun i => (i.zero, i.size, i.bytes)) = some (some (.agg #[.int .i64 0, .int .i64 0, .int .i64 0, .int .i64 0]), 4, 32) := by kernel_rfl
theorem rnds_oneCell (M : List Rnd) : ∀ u ∈ M.flatMap Rnd.cells, u.oneCell' = true := fun u hu => by
  obtain ⟨e, -, he⟩ := List.mem_flatMap.1 hu
  simp only [Rnd.cells, List.mem_cons, List.not_mem_nil, or_false] at he
  rcases he with rfl | rfl | rfl | rfl <;> rfl
theorem wpList_app_rnd {w : World} {ops : Array Oper} {rest : List Oper} {o : Oper} {a : Act} {Q : Exit → Act → World → Prop} (hgd : o.guard = none) (s x : Operand)
    (ho : o.op = .call { callee := .builtin .append, args := #[s, x], argTypes := #[24, 24] })
    (base : Nat) (u : Value) (L M : List Rnd) (hown : OwnL w base 29 4 u Rnd.cells L) (hs : a.eval s = u)
    (B : Nat) (A : Option Addr) (m c : Nat) (hm : m = M.length) (hx : a.eval x = .slice A m c) (hr : Rd w B A (M.flatMap Rnd.cells)) (hn : L.length + M.length ≤ 1000000000) (hbase : base ≤ w.heap.size)
    (h : ∀ A' c' n' w', OwnL w' base 29 4 (.slice A' n' c') Rnd.cells (L ++ M) → w.grownBy w' u.ownBlock → wpList Tryd.prog ops Q rest (a.put o.dst (.slice A' n' c')) w') : wpList Tryd.prog ops Q (o :: rest) a w := by
  subst hm
  obtain ⟨i0, hi0, hz0, hz1, hz2⟩ := info_parts Tryd.infoRRound
  refine wpList_append_rd hgd s x 24 ho base 29 i0 _ 4 32 Tryd.underlying24 hi0 hz0 hz1 hz2 rfl (by decide) u L.length (L.flatMap Rnd.cells) hs hown B A M.length c (M.flatMap Rnd.cells) hx (length_flatMap_const _ _ Rnd.cells_length _) hr (rd_none Rnd.cells_length (by decide) hr) (rnds_oneCell M) (by unfold maxLen; omega) (by omega) hbase ?_
  intro v' w' hw hg hat
  have ho' : OwnL w' base 29 4 v' Rnd.cells (L ++ M) := OwnL.app (n := L.length + M.length) rfl hw
  obtain ⟨A', c', rfl⟩ := ho'.shape
  exact h A' c' _ w' ho' hg
theorem rd_rnd1 (w : World) (x : Rnd) : Rd (w.alloc (.cells #[.int .i64 x.frame, .int .i64 x.a, .int .i64 x.b, .int .i64 x.win] 29)) (w.heap.size + 1) (some ⟨w.heap.size, 0, none⟩) ([x].flatMap Rnd.cells) :=
  rd_new w _ 29 _ rfl _ (Nat.lt_succ_self _)
theorem rd_rnd2 (w : World) (o : Obj) (x : Rnd) : Rd ((w.alloc o).alloc (.cells #[.int .i64 x.frame, .int .i64 x.a, .int .i64 x.b, .int .i64 x.win] 29)) (w.heap.size + 2) (some ⟨w.heap.size + 1, 0, none⟩) ([x].flatMap Rnd.cells) := by
  have := rd_rnd1 (w.alloc o) x
  rw [show (w.alloc o).heap.size = w.heap.size + 1 by simp] at this
  exact this
def BdR (r : Rnd) : Prop := r.frame ≤ 1099511627776 ∧ (-1099511627776 ≤ r.a ∧ r.a ≤ 1099511627776) ∧ (-1099511627776 ≤ r.b ∧ r.b ≤ 1099511627776)
def negR (r : Rnd) : Bool := decide (r.frame < 0) || (decide (r.a < 0) || decide (r.b < 0))
theorem neg_ok {l : List Rnd} (hb : ∀ r ∈ l, BdR r) (h : l.any negR = false) : ∀ r ∈ l, OkR r := by
  intro r hr
  have h1 : negR r = false := by
    rw [← Bool.not_eq_true, List.any_eq_true] at h
    cases hn : negR r
    · rfl
    · exact absurd ⟨r, hr, hn⟩ h
  unfold negR at h1
  simp only [Bool.or_eq_false_iff, decide_eq_false_iff_not] at h1
  have := hb r hr
  unfold BdR at this
  unfold OkR
  omega
theorem and1_eq (n : Int) : bits .and .i64 n 1 = n % 2 := by
  have h1 : (BitVec.ofInt 64 1).toNat = 2 ^ 1 - 1 := by decide
  have key : (BitVec.ofInt 64 n &&& BitVec.ofInt 64 1).toNat = (n % ((2 ^ 64 : Nat) : Int)).toNat % 2 ^ 1 := by
    rw [BitVec.toNat_and, BitVec.toNat_ofInt, h1, Nat.and_two_pow_sub_one_eq_mod]
  show IntKind.i64.wrap ((BitVec.ofInt 64 n &&& BitVec.ofInt 64 1).toNat : Nat) = n % 2
  rw [key, IntKind.wrap_i64]
  omega
end Go.Proofs.YtfcllbhkimjhkaaDoor.Ser
