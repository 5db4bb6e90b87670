/-
  The walks beneath: Ev0, Ev, EventPlain, NumP, NumW, NumS, EvLf, EvRt, InsP, Ord.
-/
import Derived.Laws.IdiomStrings
import Derived.Laws.Bits128
import Derived.Laws.BitsAllLaws
import Derived.Maps.OwnIn
import Derived.Maps.AppendAt
import Derived.Deep.RegionHeld3
import Derived.Deep.RegionWith
import Derived.StillTactics
import Derived.RangeFuncNested
import Derived.RangeFuncBound
import Derived.RangeFuncCalls
import Derived.RangeFuncLeaves
import Derived.Shelf.Abstract
import Derived.Shelf.RegionOpen
import Derived.OwnWalkIn
import Derived.TacticsInMore
import Derived.LoopNIn
import Derived.LoopIn
import Derived.Test.YtlonefjbcooaaaaDoorOwn
import Derived.Test.YtlonefjbcooaaaaDoorRows
namespace Go.Proofs.YtlonefjbcooaaaaDoor
open Go.RowKit Go.WideShapes Go.ChangeShapes
set_option maxRecDepth 100000

structure Ev where
  frame : Int
  emitter : Int
  kind : Int
  ord : Int
  asset : Int
  gain : Int
  pan : Int
  prio : Int
  len : Int
def Ev.cells (e : Ev) : List Value := [.int .i64 e.frame, .int .i64 e.emitter, .int .i64 e.kind, .int .i64 e.ord, .int .i64 e.asset, .int .i64 e.gain, .int .i64 e.pan, .int .i64 e.prio, .int .i64 e.len]
theorem Ev.cells_length (e : Ev) : e.cells.length = 9 := rfl
def I64 (n : Int) : Prop := -9223372036854775808 ≤ n ∧ n ≤ 9223372036854775807
structure Ev.Fit (e : Ev) : Prop where
  frame : I64 e.frame
  emitter : I64 e.emitter
  kind : I64 e.kind
  ord : I64 e.ord
  asset : I64 e.asset
  gain : I64 e.gain
  pan : I64 e.pan
  prio : I64 e.prio
  len : I64 e.len
def EvAt (w : World) (b o : Nat) (e : Ev) : Prop :=
  w.cell? ⟨b, o, none⟩ = some (.int .i64 e.frame) ∧ w.cell? ⟨b, o + 1, none⟩ = some (.int .i64 e.emitter) ∧ w.cell? ⟨b, o + 2, none⟩ = some (.int .i64 e.kind) ∧ w.cell? ⟨b, o + 3, none⟩ = some (.int .i64 e.ord) ∧
  w.cell? ⟨b, o + 4, none⟩ = some (.int .i64 e.asset) ∧ w.cell? ⟨b, o + 5, none⟩ = some (.int .i64 e.gain) ∧ w.cell? ⟨b, o + 6, none⟩ = some (.int .i64 e.pan) ∧ w.cell? ⟨b, o + 7, none⟩ = some (.int .i64 e.prio) ∧
  w.cell? ⟨b, o + 8, none⟩ = some (.int .i64 e.len)
theorem Rd.ev {w : World} {B : Nat} {A : Option Addr} {l : List Ev} (h : Rd w B A (l.flatMap Ev.cells)) {k : Nat} (hk : k < l.length) :
    ∃ b off, A = some ⟨b, off, none⟩ ∧ b < B ∧ EvAt w b (off + k * 9) l[k] := by
  obtain ⟨b, off, hA, hb, hat⟩ := h.at_ Ev.cells_length (by omega) hk
  exact ⟨b, off, hA, hb, hat 0 _ rfl, hat 1 _ rfl, hat 2 _ rfl, hat 3 _ rfl, hat 4 _ rfl, hat 5 _ rfl, hat 6 _ rfl, hat 7 _ rfl, hat 8 _ rfl⟩

theorem bd_of_wf {n : Int} (h : (Lit.int .i64 n).wf = true) : I64 n := bounds_i64 h

section
variable {H : Type} {enc : TypeId × Value → H} {w : World} {spare : Nat → Bool} {held : Bool}
theorem Tryd.cellsKey : Tryd.prog.cellsOf 78 = 4 := by kernel_rfl
theorem Tryd.cellsEv : Tryd.prog.cellsOf 80 = 9 := by kernel_rfl
theorem Tryd.cellsInt : Tryd.prog.cellsOf 3 = 1 := by kernel_rfl
/-- The nine cells of an event that reads. -/
theorem ev_of_trod {fuel : Nat} {cs : List Value} {y : DataW H × List MemPlace} (h : DataW.trod enc Tryd.prog w 0 spare held fuel 80 cs = some y) : ∃ e : Ev, cs = e.cells ∧ e.Fit := by
  obtain ⟨xs, n, -, -, hlen, hxl, hg⟩ := DataW.trod_struct Tryd.underlying80 h
  rw [Tryd.cellsEv] at hlen
  match cs, hlen with
  | [c0, c1, c2, c3, c4, c5, c6, c7, c8], _ =>
    simp only [List.size_toArray, List.length_cons, List.length_nil] at hxl
    match xs, hxl with
    | [y0, y1, y2, y3, y4, y5], _ =>
      have k0 : DataW.trod enc Tryd.prog w 0 spare held n 78 ((List.drop 0 [c0, c1, c2, c3, c4, c5, c6, c7, c8]).take (Tryd.prog.cellsOf 78)) = some y0 := hg 0 _ rfl
      rw [Tryd.cellsKey] at k0
      have k1 : DataW.trod enc Tryd.prog w 0 spare held n 3 ((List.drop 4 [c0, c1, c2, c3, c4, c5, c6, c7, c8]).take (Tryd.prog.cellsOf 3)) = some y1 := hg 1 _ rfl
      rw [Tryd.cellsInt] at k1
      have k2 : DataW.trod enc Tryd.prog w 0 spare held n 3 ((List.drop 5 [c0, c1, c2, c3, c4, c5, c6, c7, c8]).take (Tryd.prog.cellsOf 3)) = some y2 := hg 2 _ rfl
      rw [Tryd.cellsInt] at k2
      have k3 : DataW.trod enc Tryd.prog w 0 spare held n 3 ((List.drop 6 [c0, c1, c2, c3, c4, c5, c6, c7, c8]).take (Tryd.prog.cellsOf 3)) = some y3 := hg 3 _ rfl
      rw [Tryd.cellsInt] at k3
      have k4 : DataW.trod enc Tryd.prog w 0 spare held n 3 ((List.drop 7 [c0, c1, c2, c3, c4, c5, c6, c7, c8]).take (Tryd.prog.cellsOf 3)) = some y4 := hg 4 _ rfl
      rw [Tryd.cellsInt] at k4
      have k5 : DataW.trod enc Tryd.prog w 0 spare held n 3 ((List.drop 8 [c0, c1, c2, c3, c4, c5, c6, c7, c8]).take (Tryd.prog.cellsOf 3)) = some y5 := hg 5 _ rfl
      rw [Tryd.cellsInt] at k5
      obtain ⟨xs', n', -, -, -, hxl', hg'⟩ := DataW.trod_struct Tryd.underlying78 k0
      simp only [List.size_toArray, List.length_cons, List.length_nil] at hxl'
      match xs', hxl' with
      | [z0, z1, z2, z3], _ =>
        have j0 : DataW.trod enc Tryd.prog w 0 spare held n' 3 ((List.drop 0 [c0, c1, c2, c3]).take (Tryd.prog.cellsOf 3)) = some z0 := hg' 0 _ rfl
        rw [Tryd.cellsInt] at j0
        have j1 : DataW.trod enc Tryd.prog w 0 spare held n' 3 ((List.drop 1 [c0, c1, c2, c3]).take (Tryd.prog.cellsOf 3)) = some z1 := hg' 1 _ rfl
        rw [Tryd.cellsInt] at j1
        have j2 : DataW.trod enc Tryd.prog w 0 spare held n' 3 ((List.drop 2 [c0, c1, c2, c3]).take (Tryd.prog.cellsOf 3)) = some z2 := hg' 2 _ rfl
        rw [Tryd.cellsInt] at j2
        have j3 : DataW.trod enc Tryd.prog w 0 spare held n' 3 ((List.drop 3 [c0, c1, c2, c3]).take (Tryd.prog.cellsOf 3)) = some z3 := hg' 3 _ rfl
        rw [Tryd.cellsInt] at j3
        obtain ⟨a0, e0, -, w0⟩ := DataW.trod_int Tryd.underlying3 j0
        obtain ⟨a1, e1, -, w1⟩ := DataW.trod_int Tryd.underlying3 j1
        obtain ⟨a2, e2, -, w2⟩ := DataW.trod_int Tryd.underlying3 j2
        obtain ⟨a3, e3, -, w3⟩ := DataW.trod_int Tryd.underlying3 j3
        obtain ⟨a4, e4, -, w4⟩ := DataW.trod_int Tryd.underlying3 k1
        obtain ⟨a5, e5, -, w5⟩ := DataW.trod_int Tryd.underlying3 k2
        obtain ⟨a6, e6, -, w6⟩ := DataW.trod_int Tryd.underlying3 k3
        obtain ⟨a7, e7, -, w7⟩ := DataW.trod_int Tryd.underlying3 k4
        obtain ⟨a8, e8, -, w8⟩ := DataW.trod_int Tryd.underlying3 k5
        simp only [List.drop_zero, List.drop_succ_cons, List.take_succ_cons, List.take_zero, List.cons.injEq, and_true] at e0 e1 e2 e3 e4 e5 e6 e7 e8
        subst e0 e1 e2 e3 e4 e5 e6 e7 e8
        exact ⟨⟨a0, a1, a2, a3, a4, a5, a6, a7, a8⟩, rfl, bd_of_wf w0, bd_of_wf w1, bd_of_wf w2, bd_of_wf w3, bd_of_wf w4, bd_of_wf w5, bd_of_wf w6, bd_of_wf w7, bd_of_wf w8⟩
end
end Go.Proofs.YtlonefjbcooaaaaDoor

namespace Go.Proofs.YtlonefjbcooaaaaDoor
open Go.RowKit Go.WideShapes Go.ChangeShapes
set_option maxRecDepth 100000
section
variable {H : Type} {enc : TypeId × Value → H} {w : World} {spare : Nat → Bool} {held : Bool}
/-- An argument of events, as a list. -/
theorem open_events {r : Reach} {b0 : Nat} {v : Value} {d : DataW H} {p : List MemPlace} (hv : Value.okWide Tryd.prog w r b0 85 v) (h : DataW.Trod enc Tryd.prog w 0 (fun _ => true) held 85 v d p) :
    ∃ (A : Option Addr) (c : Nat) (l : List Ev), v = .slice A l.length c ∧ (l.length ≤ c ∧ c ≤ maxLen) ∧ Rd w w.heap.size A (l.flatMap Ev.cells) ∧ ∀ e ∈ l, e.Fit := by
  obtain ⟨A, n, c, css, rfl, rfl, hn, hm, hr, hall⟩ := open_rows Tryd.underlying85 Tryd.cellsEv (by omega) hv h
  obtain ⟨l, rfl, hfit⟩ := list_of_forms (f := Ev.cells) (p := Ev.Fit) (l := css) (fun cs hcs => by
    obtain ⟨-, fuel, y, hy⟩ := hall cs hcs
    exact ev_of_trod hy)
  refine ⟨A, c, l, by rw [List.length_map], ⟨by rw [List.length_map] at hn; omega, hm⟩, ?_, hfit⟩
  rw [List.flatMap_def]; exact hr
end
end Go.Proofs.YtlonefjbcooaaaaDoor

namespace Go.Proofs.YtlonefjbcooaaaaDoor

structure Key4 where
  frame : Int
  emitter : Int
  kind : Int
  ord : Int
def Key4.cells (k : Key4) : List Value := [.int .i64 k.frame, .int .i64 k.emitter, .int .i64 k.kind, .int .i64 k.ord]
theorem Key4.cells_length (k : Key4) : k.cells.length = 4 := rfl
def Key4.val (k : Key4) : Value := .agg #[.int .i64 k.frame, .int .i64 k.emitter, .int .i64 k.kind, .int .i64 k.ord]
def Ev.key (e : Ev) : Key4 := ⟨e.frame, e.emitter, e.kind, e.ord⟩
def Ev.val (e : Ev) : Value := .agg #[.int .i64 e.frame, .int .i64 e.emitter, .int .i64 e.kind, .int .i64 e.ord, .int .i64 e.asset, .int .i64 e.gain, .int .i64 e.pan, .int .i64 e.prio, .int .i64 e.len]

def cmpI (a b : Int) : Int := if a < b then -1 else if b < a then 1 else 0
def orI : List Int → Int
  | [] => 0
  | x :: l => if x = 0 then orI l else x
def cmpK (a b : Key4) : Int := orI [cmpI a.frame b.frame, cmpI a.emitter b.emitter, cmpI a.kind b.kind, cmpI a.ord b.ord]
def inB (n lo hi : Int) : Bool := decide (lo ≤ n ∧ n ≤ hi)
def keyOk (k : Key4) : Bool := inB k.frame 0 1073741824 && inB k.emitter 0 2 && inB k.kind 1 9 && inB k.ord 0 15
def evOk (e : Ev) : Bool := keyOk e.key && inB e.asset 0 31 && inB e.gain 0 32768 && inB e.pan (-32768) 32768 && inB e.prio 0 15 && inB e.len 0 600
theorem cmpI_bd (a b : Int) : -1 ≤ cmpI a b ∧ cmpI a b ≤ 1 := by unfold cmpI; repeat' split; all_goals omega
theorem orI_bd : ∀ l : List Int, (∀ x ∈ l, -1 ≤ x ∧ x ≤ 1) → -1 ≤ orI l ∧ orI l ≤ 1
  | [], _ => by simp [orI]
  | x :: l, h => by
    have h1 := h x (by simp)
    have h2 := orI_bd l fun y hy => h y (by simp [hy])
    rw [orI]; split <;> omega
theorem cmpK_bd (a b : Key4) : -1 ≤ cmpK a b ∧ cmpK a b ≤ 1 := by
  refine orI_bd _ fun x hx => ?_
  simp only [List.mem_cons, List.not_mem_nil, or_false] at hx
  rcases hx with rfl | rfl | rfl | rfl <;> exact cmpI_bd _ _
/-- a stands ahead of b. -/
def Key4.Lt (a b : Key4) : Prop := a.frame < b.frame ∨ a.frame = b.frame ∧ (a.emitter < b.emitter ∨ a.emitter = b.emitter ∧ (a.kind < b.kind ∨ a.kind = b.kind ∧ a.ord < b.ord))
theorem cmpK_neg (a b : Key4) : cmpK a b < 0 ↔ a.Lt b := by
  unfold cmpK Key4.Lt
  simp only [orI, cmpI]
  repeat' split
  all_goals omega
theorem cmpK_pos (a b : Key4) : 0 < cmpK a b ↔ b.Lt a := by
  unfold cmpK Key4.Lt
  simp only [orI, cmpI]
  repeat' split
  all_goals omega
theorem cmpK_zero (a b : Key4) : cmpK a b = 0 ↔ a = b := by
  unfold cmpK
  cases a; cases b
  simp only [orI, cmpI, Key4.mk.injEq]
  repeat' split
  all_goals omega
theorem Key4.Lt.trans {a b c : Key4} (h : a.Lt b) (k : b.Lt c) : a.Lt c := by
  unfold Key4.Lt at *; omega
theorem Key4.Lt.irrefl {a : Key4} (h : a.Lt a) : False := by
  unfold Key4.Lt at h; omega
end Go.Proofs.YtlonefjbcooaaaaDoor

namespace Go.Proofs.YtlonefjbcooaaaaDoor

def numB (n : Nat) : List UInt8 := if h : n < 128 then [UInt8.ofNat n] else UInt8.ofNat (128 + n % 128) :: numB (n / 128)
termination_by n
decreasing_by omega
theorem numB_small {n : Nat} (h : n < 128) : numB n = [UInt8.ofNat n] := by rw [numB, dif_pos h]
theorem numB_big {n : Nat} (h : ¬ n < 128) : numB n = UInt8.ofNat (128 + n % 128) :: numB (n / 128) := by rw [numB, dif_neg h]
theorem u8_nat {a : Nat} (h : a < 256) : (UInt8.ofNat a).toNat = a := by rw [UInt8.toNat_ofNat']; exact Nat.mod_eq_of_lt h
theorem u8_inj {a b : Nat} (ha : a < 256) (hb : b < 256) (h : UInt8.ofNat a = UInt8.ofNat b) : a = b := by
  have := congrArg UInt8.toNat h
  rwa [u8_nat ha, u8_nat hb] at this
theorem numB_inj : ∀ (a b : Nat) (x y : List UInt8), numB a ++ x = numB b ++ y → a = b ∧ x = y := by
  intro a
  induction a using Nat.strongRecOn with
  | _ a ih =>
    intro b x y h
    by_cases ha : a < 128
    · by_cases hb : b < 128
      · rw [numB_small ha, numB_small hb] at h
        simp only [List.cons_append, List.nil_append, List.cons.injEq] at h
        exact ⟨u8_inj (by omega) (by omega) h.1, h.2⟩
      · rw [numB_small ha, numB_big hb] at h
        simp only [List.cons_append, List.nil_append, List.cons.injEq] at h
        have := u8_inj (by omega) (by omega) h.1
        omega
    · by_cases hb : b < 128
      · rw [numB_big ha, numB_small hb] at h
        simp only [List.cons_append, List.nil_append, List.cons.injEq] at h
        have := u8_inj (by omega) (by omega) h.1
        omega
      · rw [numB_big ha, numB_big hb] at h
        simp only [List.cons_append, List.cons.injEq] at h
        have h1 := u8_inj (by omega) (by omega) h.1
        obtain ⟨h2, h3⟩ := ih (a / 128) (by omega) _ _ _ h.2
        exact ⟨by omega, h3⟩
theorem numB_len : ∀ (k n : Nat), n < 128 ^ k → (numB n).length ≤ k ∨ (k = 0)
  | 0, _, _ => .inr rfl
  | k + 1, n, h => by
    left
    by_cases hn : n < 128
    · rw [numB_small hn]; simp
    · rw [numB_big hn]
      have : n / 128 < 128 ^ k := by
        rw [Nat.pow_succ] at h
        exact Nat.div_lt_of_lt_mul (by rw [Nat.mul_comm]; exact h)
      rcases numB_len k (n / 128) this with h | h
      · simp; exact h
      · subst h; simp at this; omega
theorem numB_le {n : Nat} (h : n < 18446744073709551616) : (numB n).length ≤ 10 := by
  rcases numB_len 10 n (Nat.lt_of_lt_of_le h (by decide)) with h | h
  · exact h
  · cases h
/-- A rest with its sign behind it. -/
def zig (n : Int) : Nat := if 0 ≤ n then (2 * n).toNat else (-2 * n - 1).toNat
theorem zig_inj {a b : Int} (h : zig a = zig b) : a = b := by
  unfold zig at h
  split at h <;> split at h <;> omega
def evB (e : Ev) : List UInt8 :=
  numB e.frame.toNat ++ (numB e.emitter.toNat ++ (numB e.kind.toNat ++ (numB e.ord.toNat ++ (numB e.asset.toNat ++ (numB e.gain.toNat ++ (numB (zig e.pan) ++ (numB e.prio.toNat ++ numB e.len.toNat)))))))
def bytesB (L : List Ev) : List UInt8 := numB L.length ++ L.flatMap evB
theorem ok_pos {e : Ev} (h : evOk e = true) : (0 ≤ e.frame ∧ e.frame ≤ 1073741824) ∧ (0 ≤ e.emitter ∧ e.emitter ≤ 2) ∧ (1 ≤ e.kind ∧ e.kind ≤ 9) ∧ (0 ≤ e.ord ∧ e.ord ≤ 15) ∧ (0 ≤ e.asset ∧ e.asset ≤ 31) ∧ (0 ≤ e.gain ∧ e.gain ≤ 32768) ∧ (-32768 ≤ e.pan ∧ e.pan ≤ 32768) ∧ (0 ≤ e.prio ∧ e.prio ≤ 15) ∧ (0 ≤ e.len ∧ e.len ≤ 600) := by
  unfold evOk keyOk at h
  simp only [Bool.and_eq_true, inB, decide_eq_true_eq] at h
  simp only [Ev.key] at h
  omega
theorem evB_inj {a b : Ev} {x y : List UInt8} (ha : evOk a = true) (hb : evOk b = true) (h : evB a ++ x = evB b ++ y) : a = b ∧ x = y := by
  have pa := ok_pos ha
  have pb := ok_pos hb
  unfold evB at h
  simp only [List.append_assoc] at h
  obtain ⟨h0, h⟩ := numB_inj _ _ _ _ h
  obtain ⟨h1, h⟩ := numB_inj _ _ _ _ h
  obtain ⟨h2, h⟩ := numB_inj _ _ _ _ h
  obtain ⟨h3, h⟩ := numB_inj _ _ _ _ h
  obtain ⟨h4, h⟩ := numB_inj _ _ _ _ h
  obtain ⟨h5, h⟩ := numB_inj _ _ _ _ h
  obtain ⟨h6, h⟩ := numB_inj _ _ _ _ h
  obtain ⟨h7, h⟩ := numB_inj _ _ _ _ h
  obtain ⟨h8, h⟩ := numB_inj _ _ _ _ h
  have h6 := zig_inj h6
  refine ⟨?_, h⟩
  cases a; cases b
  simp only at *
  simp only [Ev.mk.injEq]
  omega
theorem evBs_inj : ∀ (L M : List Ev), (∀ e ∈ L, evOk e = true) → (∀ e ∈ M, evOk e = true) → L.length = M.length → L.flatMap evB = M.flatMap evB → L = M
  | [], [], _, _, _, _ => rfl
  | a :: L, [], _, _, h, _ => by simp at h
  | [], b :: M, _, _, h, _ => by simp at h
  | a :: L, b :: M, hL, hM, hn, h => by
    rw [List.flatMap_cons, List.flatMap_cons] at h
    obtain ⟨rfl, h2⟩ := evB_inj (hL a (by simp)) (hM b (by simp)) h
    rw [evBs_inj L M (fun e he => hL e (by simp [he])) (fun e he => hM e (by simp [he])) (by simpa using hn) h2]
theorem bytesB_inj {L M : List Ev} (hL : ∀ e ∈ L, evOk e = true) (hM : ∀ e ∈ M, evOk e = true) : bytesB L = bytesB M ↔ L = M := by
  refine ⟨fun h => ?_, fun h => by rw [h]⟩
  obtain ⟨h1, h2⟩ := numB_inj _ _ _ _ h
  exact evBs_inj L M hL hM h1 h2
theorem evB_len {e : Ev} (h : evOk e = true) : (evB e).length ≤ 90 := by
  have p := ok_pos h
  unfold evB
  simp only [List.length_append]
  have h0 := numB_le (n := e.frame.toNat) (by omega)
  have h1 := numB_le (n := e.emitter.toNat) (by omega)
  have h2 := numB_le (n := e.kind.toNat) (by omega)
  have h3 := numB_le (n := e.ord.toNat) (by omega)
  have h4 := numB_le (n := e.asset.toNat) (by omega)
  have h5 := numB_le (n := e.gain.toNat) (by omega)
  have h6 := numB_le (n := zig e.pan) (by unfold zig; split <;> omega)
  have h7 := numB_le (n := e.prio.toNat) (by omega)
  have h8 := numB_le (n := e.len.toNat) (by omega)
  omega
theorem bytesB_len : ∀ (L : List Ev), (∀ e ∈ L, evOk e = true) → (L.flatMap evB).length ≤ 90 * L.length
  | [], _ => by simp
  | e :: L, h => by
    rw [List.flatMap_cons, List.length_append, List.length_cons]
    have := evB_len (h e (by simp))
    have := bytesB_len L (fun e he => h e (by simp [he]))
    omega
end Go.Proofs.YtlonefjbcooaaaaDoor

namespace Go.Proofs.YtlonefjbcooaaaaDoor
open Go.RowKit
set_option maxRecDepth 100000
def strN (l : List UInt8) : Value := .string ⟨l.toArray⟩
def bcN (b : UInt8) : List Value := [.int .u8 (b.toNat : Int)]
theorem strN_append (a b : List UInt8) : (⟨a.toArray⟩ : ByteArray) ++ ⟨b.toArray⟩ = ⟨(a ++ b).toArray⟩ := by
  apply ByteArray.ext; simp
theorem Tryd.infoU8 : (Tryd.prog.info? 5).map (fun i => (i.zero, i.size, i.bytes)) = some (some (.int .u8 0), 1, 1) := by kernel_rfl
theorem u8_val {n : Nat} (h : n < 256) : ((UInt8.ofNat n).toNat : Int) = n := by rw [u8_nat h]
set_option maxHeartbeats 2000000 in
theorem num_any (N : Nat) (hN : N < 18446744073709551616) (w : World) : Calls Tryd.prog 46 #[.int .u64 N] w fun e w' => e = .returned (strN (numB N)) ∧ Below w.heap.size w w' := by
  obtain ⟨ib, hib, hbz, hb1, hb2⟩ := info_parts Tryd.infoU8
  have HL := Lib.hid (numB_le hN)
  go_enter Tryd.func46, Tryd.ntmps46
  go_wp2
  go_loopw [0, 3] (fun q v wr => ∃ (n : Nat) (pre : List UInt8), q = .int .u64 n ∧ n ≤ N ∧ Hid (pre ++ numB n = numB N) ∧ ∃ A c, v = .slice A pre.length c ∧ Hid (OwnL wr w.heap.size 5 1 (.slice A pre.length c) bcN pre) ∧ Below w.heap.size w wr) (fun q _ _ => (intOf q).toNat)
  case atStart => exact ⟨N, [], rfl, Nat.le_refl _, Lib.hid rfl, none, 0, rfl, Lib.hid OwnL.nil, Below.refl _ _⟩
  case round =>
    obtain ⟨n, pre, rfl, hn, HP, A, c, rfl, HO, hb⟩ := hrel
    have hlen : pre.length ≤ 10 := by
      have h1 := HL.out
      rw [← HP.out, List.length_append] at h1
      omega
    by_cases h : n < 128
    · have hP := HP.out
      rw [numB_small h] at hP
      have HP2 := Lib.hid hP
      have hv : ((UInt8.ofNat n).toNat : Int) = n := u8_val (by omega)
      have HV := Lib.hid hv
      clear hP hv HP
      go_wp2_with (at_builtin; refine wpList_append_own _ rfl (.tmp 15) (.tmp 18) 61 rfl w.heap.size 5 ib _ 1 1 Tryd.underlying61 hib hbz hb1 hb2 rfl (by decide) (.slice A pre.length c) pre.length (pre.flatMap bcN) rfl ?c0 ⟨wr.heap.size, 0, none⟩ 1 1 [.int .u8 (UInt8.ofNat n).toNat] rfl rfl ?c1 ?c2 ?c3 ?c4 ?c5 ?_)
      case c0 => exact World.ownsRow.alloc HO.out _
      case c1 => rw [HV.out]; exact cell_new_row wr #[.int .u8 n] 5 _ rfl
      case c2 => simp [Value.oneCell']
      case c3 => simp [maxLen]; omega
      case c4 => omega
      case c5 => have := hb.size; simp; omega
      intro v' w' hown' hgr hnil
      have hb3 : Below w.heap.size w w' := Below.grown (bAlloc hb _) hgr (by have := hb.size; simp; omega) HO.out.base_le
      have hw2 : OwnL w' w.heap.size 5 1 v' bcN (numB N) := by
        unfold OwnL
        rw [← HP2.out, List.length_append, List.flatMap_append]
        simpa [bcN] using hown'
      obtain ⟨A2, c2, hv2⟩ := hw2.shape
      subst hv2
      have hpos : 0 < (numB N).length := by rw [← HP2.out]; simp
      have hcv : (convert 61 9 (.slice A2 (numB N).length c2)).run Tryd.prog w' = .ok (strN (numB N)) w' := by
        obtain ⟨g, rfl, -, -, -⟩ := hw2.formA hpos
        exact run_convert_bytes_back (P := Tryd.prog) w' 61 9 5 ⟨g, 0, none⟩ c2 (numB N) Tryd.underlying61 Tryd.underlying5 Tryd.underlying9 (fun k hk => by
          rw [Go.WideShapes.add_plain, Nat.zero_add]
          exact hw2.one (h := fun b : UInt8 => Value.int .u8 (b.toNat : Int)) (fun _ => rfl) hk)
      clear hown' hgr hnil hw2
      go_wp2
      go_ret
      exact ⟨rfl, hb3⟩
    · have hP := HP.out
      rw [numB_big h] at hP
      have HP2 := Lib.hid hP
      have hv : ((UInt8.ofNat (128 + n % 128)).toNat : Int) = (n : Int) % 128 + 128 := by rw [u8_val (by omega)]; omega
      have HV := Lib.hid hv
      have hor : bits .or .u8 ((n : Int) % 128) 128 = (n : Int) % 128 + 128 := u8_or128_right _ (by omega) (by omega)
      clear hP hv HP
      go_wp2_with (at_builtin; refine wpList_append_own _ rfl (.tmp 8) (.tmp 13) 61 rfl w.heap.size 5 ib _ 1 1 Tryd.underlying61 hib hbz hb1 hb2 rfl (by decide) (.slice A pre.length c) pre.length (pre.flatMap bcN) rfl ?c0 ⟨wr.heap.size, 0, none⟩ 1 1 [.int .u8 (UInt8.ofNat (128 + n % 128)).toNat] rfl rfl ?c1 ?c2 ?c3 ?c4 ?c5 ?_)
      case c0 => exact World.ownsRow.alloc HO.out _
      case c1 => rw [HV.out]; exact cell_new_row wr #[.int .u8 ((n : Int) % 128 + 128)] 5 _ rfl
      case c2 => simp [Value.oneCell']
      case c3 => simp [maxLen]; omega
      case c4 => omega
      case c5 => have := hb.size; simp; omega
      intro v' w' hown' hgr hnil
      have hb3 : Below w.heap.size w w' := Below.grown (bAlloc hb _) hgr (by have := hb.size; simp; omega) HO.out.base_le
      have hw2 : OwnL w' w.heap.size 5 1 v' bcN (pre ++ [UInt8.ofNat (128 + n % 128)]) := by
        unfold OwnL
        rw [List.length_append, List.flatMap_append]
        simpa [bcN] using hown'
      obtain ⟨A2, c2, hv2⟩ := hw2.shape
      subst hv2
      have HW2 := Lib.hid hw2
      have HP3 : Hid ((pre ++ [UInt8.ofNat (128 + n % 128)]) ++ numB (n / 128) = numB N) := Lib.hid (by rw [← HP2.out]; simp)
      clear hown' hgr hnil hw2
      go_wp2
      go_roundw
      case rel => exact ⟨n / 128, pre ++ [UInt8.ofNat (128 + n % 128)], by go_num, by omega, HP3, A2, c2, rfl, HW2, hb3⟩
      case measure => simp [intOf]; omega
set_option maxHeartbeats 2000000 in
theorem rnum_any (N : Nat) (hN : N < 18446744073709551616) (w : World) : Calls Tryd.prog 33 #[.int .u64 N] w fun e w' => e = .returned (strN (numB N)) ∧ Below w.heap.size w w' := by
  obtain ⟨ib, hib, hbz, hb1, hb2⟩ := info_parts Tryd.infoU8
  have HL := Lib.hid (numB_le hN)
  go_enter Tryd.func33, Tryd.ntmps33
  go_wp2
  go_loopw [0, 3] (fun q v wr => ∃ (n : Nat) (pre : List UInt8), q = .int .u64 n ∧ n ≤ N ∧ Hid (pre ++ numB n = numB N) ∧ v = .string ⟨pre.toArray⟩ ∧ Below w.heap.size w wr) (fun q _ _ => (intOf q).toNat)
  case atStart => exact ⟨N, [], rfl, Nat.le_refl _, Lib.hid rfl, rfl, Below.refl _ _⟩
  case round =>
    obtain ⟨n, pre, rfl, hn, HP, rfl, hb⟩ := hrel
    have hlen : pre.length ≤ 10 := by
      have h1 := HL.out
      rw [← HP.out, List.length_append] at h1
      omega
    by_cases h : n < 128
    · have hP := HP.out
      rw [numB_small h] at hP
      have HP2 := Lib.hid hP
      have hcv : (convert 61 9 (.slice (some ⟨wr.heap.size, 0, none⟩) 1 1)).run Tryd.prog (wr.alloc (.cells #[.int .u8 n] 5)) = .ok (.string ⟨[UInt8.ofNat n].toArray⟩) (wr.alloc (.cells #[.int .u8 n] 5)) :=
        run_convert_bytes_back (P := Tryd.prog) _ 61 9 5 ⟨wr.heap.size, 0, none⟩ 1 [UInt8.ofNat n] Tryd.underlying61 Tryd.underlying5 Tryd.underlying9 (fun k hk => by
          simp at hk; subst hk
          rw [Go.WideShapes.add_plain]
          exact cell_new_row2 wr #[.int .u8 n] 5 _ rfl 0 _ (by simp; omega))
      clear hP HP
      go_wp2
      go_ret
      exact ⟨by rw [strN_append, HP2.out]; rfl, (by repeat (first | exact Below.refl _ _ | (with_reducible assumption) | apply bAlloc | apply below_drewN | apply Below.drew | (refine bSetG ?_ (by first | omega | (simp; omega)) _ _) | (refine bTrans ?_ (by with_reducible assumption))))⟩
    · have hP := HP.out
      rw [numB_big h] at hP
      have HP2 := Lib.hid hP
      have hcv : (convert 61 9 (.slice (some ⟨wr.heap.size, 0, none⟩) 1 1)).run Tryd.prog (wr.alloc (.cells #[.int .u8 (128 + (n : Int) % 128)] 5)) = .ok (.string ⟨[UInt8.ofNat (128 + n % 128)].toArray⟩) (wr.alloc (.cells #[.int .u8 (128 + (n : Int) % 128)] 5)) :=
        run_convert_bytes_back (P := Tryd.prog) _ 61 9 5 ⟨wr.heap.size, 0, none⟩ 1 [UInt8.ofNat (128 + n % 128)] Tryd.underlying61 Tryd.underlying5 Tryd.underlying9 (fun k hk => by
          simp at hk; subst hk
          rw [Go.WideShapes.add_plain]
          refine cell_new_row2 wr #[.int .u8 (128 + (n : Int) % 128)] 5 _ rfl 0 _ ?_
          simp; omega)
      obtain ⟨y, hy⟩ : ∃ y, UInt8.ofNat (128 + n % 128) = y := ⟨_, rfl⟩
      rw [hy] at hcv HP2
      have HP3 : Hid ((pre ++ [y]) ++ numB (n / 128) = numB N) := Lib.hid (by rw [← HP2.out]; simp)
      clear hP HP hy
      go_wp2
      go_roundw
      case rel => exact ⟨n / 128, pre ++ [y], by go_num, by omega, HP3, by rw [strN_append], (by repeat (first | exact Below.refl _ _ | (with_reducible assumption) | apply bAlloc | apply below_drewN | apply Below.drew | (refine bSetG ?_ (by first | omega | (simp; omega)) _ _) | (refine bTrans ?_ (by with_reducible assumption))))⟩
      case measure => simp [intOf]; omega
end Go.Proofs.YtlonefjbcooaaaaDoor

namespace Go.Proofs.YtlonefjbcooaaaaDoor
open Go.RowKit
set_option maxRecDepth 100000
theorem xor_ones (a : Nat) (ha : a < 18446744073709551616) : a ^^^ 18446744073709551615 = 18446744073709551615 - a := by
  have h := BitVec.xor_allOnes (x := BitVec.ofNat 64 a)
  have h2 := congrArg BitVec.toNat h
  rw [BitVec.toNat_xor, BitVec.toNat_not, BitVec.toNat_allOnes, BitVec.toNat_ofNat, Nat.mod_eq_of_lt (by omega)] at h2
  simpa using h2
theorem zig_nat (n : Int) (h0 : 0 ≤ n) : ((zig n : Nat) : Int) = 2 * n := by unfold zig; rw [if_pos h0]; omega
theorem zig_neg (n : Int) (h0 : n < 0) : ((zig n : Nat) : Int) = -2 * n - 1 := by unfold zig; rw [if_neg (by omega)]; omega
theorem zig_xor (n : Int) (h0 : -4611686018427387904 ≤ n) (h1 : n < 4611686018427387904) : bits .xor .u64 (IntKind.u64.wrap (n * 2)) (IntKind.u64.wrap (n / 9223372036854775808)) = ((zig n : Nat) : Int) := by
  rw [IntKind.wrap_u64, IntKind.wrap_u64]
  by_cases hn : 0 ≤ n
  · rw [zig_nat n hn, show n / 9223372036854775808 = 0 by omega, u64_xor _ _ (by omega) (by omega) (by decide) (by decide)]
    simp
    omega
  · rw [zig_neg n (by omega), show n / 9223372036854775808 = -1 by omega, u64_xor _ _ (by omega) (by omega) (by decide) (by decide)]
    rw [show ((-1 : Int) % 18446744073709551616).toNat = 18446744073709551615 from rfl, xor_ones _ (by omega)]
    omega
set_option maxHeartbeats 1000000 in
theorem signed_any (n : Int) (h0 : -4611686018427387904 ≤ n) (h1 : n < 4611686018427387904) (w : World) : Calls Tryd.prog 60 #[.int .i64 n] w fun e w' => e = .returned (strN (numB (zig n))) ∧ Below w.heap.size w w' := by
  have HC := Lib.hid (fun W => num_any (zig n) (by unfold zig; split <;> omega) W)
  have hx := zig_xor n h0 h1
  obtain ⟨z, hz⟩ : ∃ z, zig n = z := ⟨_, rfl⟩
  rw [hz] at HC hx ⊢
  clear hz
  go_enter Tryd.func60, Tryd.ntmps60
  go_wp2_with (go_at_call 46; refine (HC.out _).mono ?_; rintro e w1 ⟨rfl, hb⟩)
  go_ret
  exact ⟨rfl, hb⟩
set_option maxHeartbeats 1000000 in
theorem rsigned_any (n : Int) (h0 : -4611686018427387904 ≤ n) (h1 : n < 4611686018427387904) (w : World) : Calls Tryd.prog 48 #[.int .i64 n] w fun e w' => e = .returned (strN (numB (zig n))) ∧ Below w.heap.size w w' := by
  have HC := Lib.hid (fun W => rnum_any (zig n) (by unfold zig; split <;> omega) W)
  by_cases hn : 0 ≤ n
  · rw [zig_nat n hn] at HC
    go_enter Tryd.func48, Tryd.ntmps48
    go_wp2_with (go_at_call 33; refine (HC.out _).mono ?_; rintro e w1 ⟨rfl, hb⟩)
    go_ret
    exact ⟨rfl, hb⟩
  · rw [zig_neg n (by omega), show -2 * n - 1 = 2 * (-(n + 1)) + 1 by omega] at HC
    go_enter Tryd.func48, Tryd.ntmps48
    go_wp2_with (go_at_call 33; refine (HC.out _).mono ?_; rintro e w1 ⟨rfl, hb⟩)
    go_ret
    exact ⟨rfl, hb⟩
end Go.Proofs.YtlonefjbcooaaaaDoor

namespace Go.Proofs.YtlonefjbcooaaaaDoor
open Go.RowKit

theorem Blk.ev {w : World} {g : Nat} {E : TypeId} {v0 v1 v2 v3 v4 v5 v6 v7 v8 : Value} (h : Blk w g E #[v0, v1, v2, v3, v4, v5, v6, v7, v8]) :
    w.cell? ⟨g, 0, none⟩ = some v0 ∧ w.cell? ⟨g, 1, none⟩ = some v1 ∧ w.cell? ⟨g, 2, none⟩ = some v2 ∧ w.cell? ⟨g, 3, none⟩ = some v3 ∧ w.cell? ⟨g, 4, none⟩ = some v4 ∧ w.cell? ⟨g, 5, none⟩ = some v5 ∧ w.cell? ⟨g, 6, none⟩ = some v6 ∧ w.cell? ⟨g, 7, none⟩ = some v7 ∧ w.cell? ⟨g, 8, none⟩ = some v8 :=
  ⟨h.cell 0, h.cell 1, h.cell 2, h.cell 3, h.cell 4, h.cell 5, h.cell 6, h.cell 7, h.cell 8⟩
theorem Blk.key {w : World} {g : Nat} {E : TypeId} {v0 v1 v2 v3 : Value} (h : Blk w g E #[v0, v1, v2, v3]) :
    w.cell? ⟨g, 0, none⟩ = some v0 ∧ w.cell? ⟨g, 1, none⟩ = some v1 ∧ w.cell? ⟨g, 2, none⟩ = some v2 ∧ w.cell? ⟨g, 3, none⟩ = some v3 :=
  ⟨h.cell 0, h.cell 1, h.cell 2, h.cell 3⟩
theorem Blk.set9 {w : World} {g : Nat} {E : TypeId} {v0 v1 v2 v3 v4 v5 v6 v7 v8 u0 u1 u2 u3 u4 u5 u6 u7 u8 : Value} (h : Blk w g E #[v0, v1, v2, v3, v4, v5, v6, v7, v8]) :
    Blk (((((((((w.setCell ⟨g, 0, none⟩ u0).setCell ⟨g, 1, none⟩ u1).setCell ⟨g, 2, none⟩ u2).setCell ⟨g, 3, none⟩ u3).setCell ⟨g, 4, none⟩ u4).setCell ⟨g, 5, none⟩ u5).setCell ⟨g, 6, none⟩ u6).setCell ⟨g, 7, none⟩ u7).setCell ⟨g, 8, none⟩ u8) g E #[u0, u1, u2, u3, u4, u5, u6, u7, u8] := by
  have h0 : Blk (w.setCell ⟨g, 0, none⟩ u0) g E #[u0, v1, v2, v3, v4, v5, v6, v7, v8] := h.set 0 u0
  have h1 : Blk (World.setCell _ ⟨g, 1, none⟩ u1) g E #[u0, u1, v2, v3, v4, v5, v6, v7, v8] := h0.set 1 u1
  have h2 : Blk (World.setCell _ ⟨g, 2, none⟩ u2) g E #[u0, u1, u2, v3, v4, v5, v6, v7, v8] := h1.set 2 u2
  have h3 : Blk (World.setCell _ ⟨g, 3, none⟩ u3) g E #[u0, u1, u2, u3, v4, v5, v6, v7, v8] := h2.set 3 u3
  have h4 : Blk (World.setCell _ ⟨g, 4, none⟩ u4) g E #[u0, u1, u2, u3, u4, v5, v6, v7, v8] := h3.set 4 u4
  have h5 : Blk (World.setCell _ ⟨g, 5, none⟩ u5) g E #[u0, u1, u2, u3, u4, u5, v6, v7, v8] := h4.set 5 u5
  have h6 : Blk (World.setCell _ ⟨g, 6, none⟩ u6) g E #[u0, u1, u2, u3, u4, u5, u6, v7, v8] := h5.set 6 u6
  have h7 : Blk (World.setCell _ ⟨g, 7, none⟩ u7) g E #[u0, u1, u2, u3, u4, u5, u6, u7, v8] := h6.set 7 u7
  have h8 : Blk (World.setCell _ ⟨g, 8, none⟩ u8) g E #[u0, u1, u2, u3, u4, u5, u6, u7, u8] := h7.set 8 u8
  exact h8
theorem Blk.set4 {w : World} {g : Nat} {E : TypeId} {v0 v1 v2 v3 u0 u1 u2 u3 : Value} (h : Blk w g E #[v0, v1, v2, v3]) :
    Blk ((((w.setCell ⟨g, 0, none⟩ u0).setCell ⟨g, 1, none⟩ u1).setCell ⟨g, 2, none⟩ u2).setCell ⟨g, 3, none⟩ u3) g E #[u0, u1, u2, u3] :=
  ((((h.set 0 u0).set 1 u1).set 2 u2).set 3 u3)

set_option maxHeartbeats 400000 in
theorem within_any (n lo hi : Int) (w : World) : Calls Tryd.prog 101 #[.int .i64 n, .int .i64 lo, .int .i64 hi] w fun e w' => e = .returned (.bool (inB n lo hi)) ∧ w = w' := by
  have hz : inB n lo hi = decide (lo ≤ n ∧ n ≤ hi) := rfl
  by_cases h0 : lo ≤ n <;> by_cases h1 : n ≤ hi
  all_goals
    simp only [h0, h1, and_self, and_true, and_false, decide_true, decide_false] at hz
    have HZ := Lib.hid hz
    clear hz
    go_enter Tryd.func101, Tryd.ntmps101
    go_wp2
    go_ret
    exact ⟨ret_bool HZ.out.symm, rfl⟩

set_option maxHeartbeats 400000 in
theorem nan_any (n : Int) (w : World) : Calls Tryd.prog 109 #[.int .i64 n] w fun e w' => e = .returned (.bool false) ∧ w = w' := by
  go_enter Tryd.func109, Tryd.ntmps109
  go_wp2
  go_ret
  exact ⟨rfl, rfl⟩

set_option maxHeartbeats 400000 in
theorem cmp_any (a b : Int) (w : World) : Calls Tryd.prog 103 #[.int .i64 a, .int .i64 b] w fun e w' => e = .returned (.int .i64 (cmpI a b)) ∧ w = w' := by
  rcases Int.lt_trichotomy a b with h | h | h
  · have HZ := Lib.hid (show cmpI a b = -1 by unfold cmpI; rw [if_pos h])
    go_enter Tryd.func103, Tryd.ntmps103
    go_wp2
    go_ret
    exact ⟨ret_int HZ.out.symm, rfl⟩
  · subst h
    have HZ := Lib.hid (show cmpI a a = 0 by unfold cmpI; rw [if_neg (by omega), if_neg (by omega)])
    go_enter Tryd.func103, Tryd.ntmps103
    go_wp2
    go_ret
    exact ⟨ret_int HZ.out.symm, rfl⟩
  · have HZ := Lib.hid (show cmpI a b = 1 by unfold cmpI; rw [if_neg (by omega), if_pos h])
    go_enter Tryd.func103, Tryd.ntmps103
    go_wp2
    go_ret
    exact ⟨ret_int HZ.out.symm, rfl⟩

set_option maxHeartbeats 400000 in
theorem or_any (A : Option Addr) (c : Nat) (l : List Int) (w : World) (hn : l.length ≤ 1000) (hr : Rd w w.heap.size A (l.map (Value.int .i64))) : Calls Tryd.prog 102 #[.slice A l.length c] w fun e w' => e = .returned (.int .i64 (orI l)) ∧ w = w' := by
  have HR := Lib.hid hr
  clear hr
  go_enter Tryd.func102, Tryd.ntmps102
  go_wp2
  go_loopw [8] (fun i wr => ∃ k : Nat, k ≤ l.length ∧ i = .int .i64 k ∧ Hid (orI l = orI (l.drop k)) ∧ wr = w) (fun i _ => l.length - (intOf i).toNat)
  case atStart => exact ⟨0, Nat.zero_le _, rfl, rfl, rfl⟩
  case round =>
    obtain ⟨k, hk, rfl, hz, rfl⟩ := hrel
    by_cases hlt : k < l.length
    · obtain ⟨b, off, rfl, hB, hc⟩ := HR.out.one (k := k) (by simpa using hlt)
      simp only [List.getElem_map] at hc
      have hst : orI (l.drop k) = if l[k] = 0 then orI (l.drop (k + 1)) else l[k] := by rw [List.drop_eq_getElem_cons hlt, orI]
      have HS := Lib.hid hst
      clear hst
      by_cases h0 : l[k] = 0
      · have H0 := Lib.hid h0
        have hb : (l[k] != 0) = false := by simpa using h0
        clear h0
        go_wp2
        go_roundw
        case rel => exact ⟨k + 1, by omega, by go_num, (show _ = _ by rw [hz.out, HS.out, if_pos H0.out]), trivial⟩
        case measure => simp [intOf]; omega
      · have H0 := Lib.hid h0
        have hb : (l[k] != 0) = true := by simpa using h0
        clear h0
        go_wp2
        go_ret
        exact ⟨ret_int (by rw [hz.out, HS.out, if_neg H0.out]), rfl⟩
    · have e1 : orI l = 0 := by rw [hz.out, List.drop_of_length_le (by omega), orI]
      have E1 := Lib.hid e1
      clear e1
      go_wp2
      go_ret
      exact ⟨ret_int E1.out.symm, rfl⟩

set_option maxRecDepth 100000 in
set_option maxHeartbeats 1000000 in
theorem compare_any (a b : Key4) (w : World) : Calls Tryd.prog 87 #[a.val, b.val] w fun e w' => e = .returned (.int .i64 (cmpK a b)) ∧ Below w.heap.size w w' := by
  unfold Key4.val
  go_enter Tryd.func87, Tryd.ntmps87
  go_wp2_with fail
  obtain ⟨W1, hW1⟩ : ∃ W1, W1 = (w.alloc (.cells #[.int .i64 a.frame, .int .i64 a.emitter, .int .i64 a.kind, .int .i64 a.ord] 78)).alloc (.cells #[.int .i64 b.frame, .int .i64 b.emitter, .int .i64 b.kind, .int .i64 b.ord] 78) := ⟨_, rfl⟩
  have hba : Blk W1 w.heap.size 78 #[.int .i64 a.frame, .int .i64 a.emitter, .int .i64 a.kind, .int .i64 a.ord] := by rw [hW1]; exact (Blk.new _ _ _).alloc _
  have hbb : Blk W1 (w.heap.size + 1) 78 #[.int .i64 b.frame, .int .i64 b.emitter, .int .i64 b.kind, .int .i64 b.ord] := by
    rw [hW1]
    have := Blk.new (w.alloc (.cells #[.int .i64 a.frame, .int .i64 a.emitter, .int .i64 a.kind, .int .i64 a.ord] 78)) 78 #[.int .i64 b.frame, .int .i64 b.emitter, .int .i64 b.kind, .int .i64 b.ord]
    simpa using this
  have hsz : W1.heap.size = w.heap.size + 2 := by rw [hW1]; simp
  have hbw : Below w.heap.size w W1 := by rw [hW1]; exact bAlloc (bAlloc (Below.refl _ _) _) _
  have a0 := hba.cell 0
  have a1 := hba.cell 1
  have a2 := hba.cell 2
  have a3 := hba.cell 3
  have b0 := hbb.cell 0
  have b1 := hbb.cell 1
  have b2 := hbb.cell 2
  have b3 := hbb.cell 3
  simp only [List.getElem?_toArray, List.getElem?_cons_zero, List.getElem?_cons_succ] at a0 a1 a2 a3 b0 b1 b2 b3
  rw [← hW1]
  have hs1 : w.heap.size < W1.heap.size := by omega
  have hs2 : w.heap.size + 1 < W1.heap.size := by omega
  clear hW1 hba hbb hsz
  go_region_held3 (fun w' => w'.cell? ⟨w.heap.size, 0, none⟩ = some (.int .i64 a.frame) ∧ w'.cell? ⟨w.heap.size, 1, none⟩ = some (.int .i64 a.emitter) ∧ w'.cell? ⟨w.heap.size, 2, none⟩ = some (.int .i64 a.kind) ∧ w'.cell? ⟨w.heap.size, 3, none⟩ = some (.int .i64 a.ord) ∧
      w'.cell? ⟨w.heap.size + 1, 0, none⟩ = some (.int .i64 b.frame) ∧ w'.cell? ⟨w.heap.size + 1, 1, none⟩ = some (.int .i64 b.emitter) ∧ w'.cell? ⟨w.heap.size + 1, 2, none⟩ = some (.int .i64 b.kind) ∧ w'.cell? ⟨w.heap.size + 1, 3, none⟩ = some (.int .i64 b.ord))
    (first | go_keep)
    (first
      | (go_at_call 103; refine (cmp_any _ _ _).mono ?_; rintro e w4 ⟨rfl, rfl⟩)
      | (go_at_call 102; refine (or_any _ _ [cmpI a.frame b.frame, cmpI a.emitter b.emitter, cmpI a.kind b.kind, cmpI a.ord b.ord] _ (by simp) (by exact rd_new W1 _ 3 _ rfl _ (by simp))).mono ?_; rintro e w4 ⟨rfl, rfl⟩))
  go_wp2
  go_ret
  exact ⟨rfl, (bAlloc hbw _).drew⟩

end Go.Proofs.YtlonefjbcooaaaaDoor

namespace Go.Proofs.YtlonefjbcooaaaaDoor
open Go.RowKit
set_option maxRecDepth 100000 in
set_option maxHeartbeats 1000000 in
theorem key_any (k : Key4) (w : World) : Calls Tryd.prog 86 #[k.val] w fun e w' => e = .returned (.bool (keyOk k)) ∧ Below w.heap.size w w' := by
  unfold Key4.val
  go_enter Tryd.func86, Tryd.ntmps86
  go_wp2_with (go_at_call 101; refine (within_any _ _ _ _).mono ?_; rintro e w' ⟨rfl, rfl⟩)
  all_goals
    go_ret
    refine ⟨ret_bool ?_, (by repeat (first | exact Below.refl _ _ | (with_reducible assumption) | apply bAlloc | apply below_drewN | apply Below.drew))⟩
    simp [keyOk, *]

set_option maxRecDepth 100000 in
set_option maxHeartbeats 1000000 in
theorem right_any (x : Ev) (w : World) : Calls Tryd.prog 85 #[x.val] w fun e w' => e = .returned (.bool (evOk x)) ∧ Below w.heap.size w w' := by
  unfold Ev.val
  go_enter Tryd.func85, Tryd.ntmps85
  go_wp2_with fail
  refine (key_any x.key _).mono ?_
  rintro e w1 ⟨rfl, hb1⟩
  have hbk := (Blk.new w 80 #[.int .i64 x.frame, .int .i64 x.emitter, .int .i64 x.kind, .int .i64 x.ord, .int .i64 x.asset, .int .i64 x.gain, .int .i64 x.pan, .int .i64 x.prio, .int .i64 x.len]).on hb1
  have c4 := hbk.cell 4
  have c5 := hbk.cell 5
  have c6 := hbk.cell 6
  have c7 := hbk.cell 7
  have c8 := hbk.cell 8
  simp only [List.getElem?_toArray, List.getElem?_cons_zero, List.getElem?_cons_succ] at c4 c5 c6 c7 c8
  have hbw := bTrans (bAlloc (Below.refl w.heap.size w) (.cells #[.int .i64 x.frame, .int .i64 x.emitter, .int .i64 x.kind, .int .i64 x.ord, .int .i64 x.asset, .int .i64 x.gain, .int .i64 x.pan, .int .i64 x.prio, .int .i64 x.len] 80)) hb1
  clear hbk hb1
  cases hk : keyOk x.key
  all_goals
    have HK := Lib.hid hk
    clear hk
    go_wp2_with (go_at_call 101; refine (within_any _ _ _ _).mono ?_; rintro e w' ⟨rfl, rfl⟩)
    all_goals
      go_ret
      refine ⟨ret_bool ?_, hbw⟩
      simp [evOk, HK.out, *]
end Go.Proofs.YtlonefjbcooaaaaDoor

namespace Go.Proofs.YtlonefjbcooaaaaDoor
open Go.RowKit
set_option maxRecDepth 100000
/-- An element put in ahead of the i-th. -/
def insL {α : Type} (L : List α) (i : Nat) (x : α) : List α := L.take i ++ x :: L.drop i
theorem insL_length {α : Type} (L : List α) (i : Nat) (x : α) : (insL L i x).length = L.length + 1 := by
  unfold insL; rw [List.length_append, List.length_cons, List.length_take, List.length_drop]; omega
theorem insL_end {α : Type} (L : List α) (x : α) : insL L L.length x = L ++ [x] := by unfold insL; simp
theorem mem_insL {α : Type} {L : List α} {i : Nat} {x e : α} : e ∈ insL L i x ↔ e = x ∨ e ∈ L := by
  unfold insL
  rw [List.mem_append, List.mem_cons]
  constructor
  · rintro (h | h | h)
    · exact .inr (List.mem_of_mem_take h)
    · exact .inl h
    · exact .inr (List.mem_of_mem_drop h)
  · rintro (h | h)
    · exact .inr (.inl h)
    · rw [← List.take_append_drop i L, List.mem_append] at h
      rcases h with h | h
      · exact .inl h
      · exact .inr (.inr h)
def SortedE (L : List Ev) : Prop := L.Pairwise fun x y => x.key.Lt y.key
theorem Tryd.infoEv : (Tryd.prog.info? 80).map (fun i => (i.zero, i.size, i.bytes)) = some (some (.agg #[.int .i64 0, .int .i64 0, .int .i64 0, .int .i64 0, .int .i64 0, .int .i64 0, .int .i64 0, .int .i64 0, .int .i64 0]), 9, 72) := by kernel_rfl
end Go.Proofs.YtlonefjbcooaaaaDoor

namespace Go.Proofs.YtlonefjbcooaaaaDoor
open Go.RowKit Go.Shelf
attribute [local go_sem] Oper.semAt_some
set_option maxRecDepth 100000
set_option linter.unusedSimpArgs false
def risingF (last : Key4) : List Key4 → Bool
  | [] => true
  | k :: r => keyOk k && (decide (cmpK last k < 0) && risingF k r)
def key0 : Key4 := ⟨-1, 0, 0, 0⟩
def orderedB (L : List Ev) : Bool := decide (L.length ≤ 64) && (L.all evOk && risingF key0 (L.map Ev.key))
def idxW (k : Nat) : List Ev → Int
  | [] => -1
  | x :: r => if evOk x then idxW (k + 1) r else k
theorem idxW_all : ∀ (L : List Ev) (k : Nat), decide (0 ≤ idxW k L) = !L.all evOk
  | [], k => rfl
  | x :: r, k => by
    unfold idxW
    rw [List.all_cons]
    cases h : evOk x
    · rw [if_neg (by decide)]
      simp
    · rw [if_pos rfl, idxW_all r (k + 1), Bool.true_and]
theorem idxW_bd : ∀ (L : List Ev) (k : Nat), -1 ≤ idxW k L ∧ idxW k L ≤ k + L.length
  | [], k => by unfold idxW; simp
  | x :: r, k => by
    unfold idxW
    split
    · have := idxW_bd r (k + 1)
      simp only [List.length_cons]; omega
    · simp only [List.length_cons]; omega
set_option maxHeartbeats 1000000 in
theorem wrong_any (x : Ev) (w : World) : Calls Tryd.prog 69 #[x.val] w fun e w' => e = .returned (.bool (!evOk x)) ∧ Below w.heap.size w w' := by
  unfold Ev.val
  have hb0 := bAlloc (Below.refl w.heap.size w) (.cells #[.int .i64 x.frame, .int .i64 x.emitter, .int .i64 x.kind, .int .i64 x.ord, .int .i64 x.asset, .int .i64 x.gain, .int .i64 x.pan, .int .i64 x.prio, .int .i64 x.len] 80)
  go_enter Tryd.func69, Tryd.ntmps69
  go_wp2_with fail
  refine (right_any x _).mono ?_
  rintro e w1 ⟨rfl, hb1⟩
  go_wp2
  go_ret
  exact ⟨rfl, bTrans hb0 hb1⟩
set_option maxHeartbeats 2000000 in
theorem idxE_any (A : Option Addr) (c : Nat) (L : List Ev) (w : World) (hn : L.length ≤ 1000) (hr : Rd w w.heap.size A (L.flatMap Ev.cells)) :
    Calls Tryd.prog 84 #[.slice A L.length c, .func (.func 69) #[] #[]] w fun e w' => e = .returned (.int .i64 (idxW 0 L)) ∧ Below w.heap.size w w' := by
  have HR := Lib.hid hr
  clear hr
  go_enter Tryd.func84, Tryd.ntmps84
  go_wp2
  go_loopw [8] (fun i wr => ∃ k : Nat, k ≤ L.length ∧ i = .int .i64 k ∧ Hid (idxW 0 L = idxW k (L.drop k)) ∧ Below w.heap.size w wr) (fun i _ => L.length - (intOf i).toNat)
  case atStart => exact ⟨0, Nat.zero_le _, rfl, rfl, Below.refl _ _⟩
  case round =>
    obtain ⟨k, hk, rfl, hi, hb⟩ := hrel
    by_cases hlt : k < L.length
    · obtain ⟨b, off, rfl, hB, hc⟩ := (HR.out.below hb (Nat.le_refl _)).at_ Ev.cells_length (by omega) hlt
      have c0 := hc 0 _ rfl
      have c1 := hc 1 _ rfl
      have c2 := hc 2 _ rfl
      have c3 := hc 3 _ rfl
      have c4 := hc 4 _ rfl
      have c5 := hc 5 _ rfl
      have c6 := hc 6 _ rfl
      have c7 := hc 7 _ rfl
      have c8 := hc 8 _ rfl
      rw [Nat.add_zero] at c0
      clear hc
      have hst : idxW k (L.drop k) = if evOk L[k] then idxW (k + 1) (L.drop (k + 1)) else (k : Int) := by
        rw [List.drop_eq_getElem_cons hlt, idxW]
      have HS := Lib.hid hst
      clear hst
      go_wp2_with fail
      refine (wrong_any L[k] _).mono ?_
      rintro e w1 ⟨rfl, hb1⟩
      cases hin : evOk L[k] with
      | false =>
        have HI := Lib.hid hin
        clear hin
        go_wp2
        go_ret
        exact ⟨ret_int (by rw [hi.out, HS.out, HI.out]; rfl), bTrans hb hb1⟩
      | true =>
        have HI := Lib.hid hin
        clear hin
        go_wp2
        go_roundw
        case rel => exact ⟨k + 1, by omega, by go_num, (show _ = _ by rw [hi.out, HS.out, HI.out]; rfl), bTrans hb hb1⟩
        case measure => simp [intOf]; omega
    · have e0 : idxW 0 L = -1 := by rw [hi.out, List.drop_of_length_le (by omega), idxW]
      have E0 := Lib.hid e0
      clear e0
      go_wp2
      go_ret
      exact ⟨ret_int E0.out.symm, hb⟩
set_option maxHeartbeats 1000000 in
theorem cfE_any (A : Option Addr) (c : Nat) (L : List Ev) (w : World) (hn : L.length ≤ 1000) (hr : Rd w w.heap.size A (L.flatMap Ev.cells)) :
    Calls Tryd.prog 68 #[.slice A L.length c, .func (.func 69) #[] #[]] w fun e w' => e = .returned (.bool (!L.all evOk)) ∧ Below w.heap.size w w' := by
  have HX := Lib.hid (idxE_any A c L w hn hr)
  have hb := idxW_bd L 0
  have hd := idxW_all L 0
  obtain ⟨m, hm⟩ : ∃ m, L.length = m := ⟨_, rfl⟩
  rw [hm] at HX hb hn ⊢
  obtain ⟨x, hx⟩ : ∃ x, idxW 0 L = x := ⟨_, rfl⟩
  rw [hx] at HX hb hd
  have HD := Lib.hid hd
  clear hr hm hx hd
  go_enter Tryd.func68, Tryd.ntmps68
  go_wp2_with fail
  refine HX.out.mono ?_
  rintro e w1 ⟨rfl, hb1⟩
  go_wp2
  go_ret
  exact ⟨ret_bool HD.out, hb1⟩
/-! ### the keys, one by one -/
theorem keys_in (n : Nat) (v : Value) (hv : v.cells = #[v]) (w : World) (hs : ∃ A m c, v = .slice A m c) :
    CallsIn Fence.wide n Tryd.prog 71 #[v] w fun e w' => e = .returned (.func (.func 88) #[] #[.pointer (some ⟨w.heap.size, 0, none⟩)]) ∧ w' = w.alloc (.cells #[v] 85) := by
  obtain ⟨A, m, c, rfl⟩ := hs
  refine callsIn_of_wp Tryd.func71 rfl trivial ?_ rfl
  simp only [Tryd.ntmps71, List.size_toArray, List.length_cons, List.length_nil, Nat.reduceAdd, Nat.reduceSub, Array.replicate_succ, Array.replicate_zero, List.push_toArray, List.append_toArray, List.nil_append, List.cons_append]
  gi_wp2
  go_ret
  exact ⟨rfl, rfl⟩
theorem take_snoc {α : Type} (L : List α) (k : Nat) (hk : k < L.length) : L.take (k + 1) = L.take k ++ [L[k]] := by
  rw [List.take_succ_eq_append_getElem hk]
set_option maxHeartbeats 2000000 in
theorem keysC_in (n : Nat) (hn : 1 ≤ n) (l Bs n₀ : Nat) (A : Option Addr) (c : Nat) (L : List Ev) (hL : L.length ≤ 1000) (J Jx : List Key4 → World → Prop) (W : World) (hJ : AbidesFrom W.heap.size J)
    (hY : ∀ pre x W, J pre W → pre.length < L.length → YieldAt Fence.wide (n - 1) Tryd.prog l #[x.val] W fun e W' =>
      (e = .returned (.bool true) ∧ J (pre ++ [x]) W' ∧ Below n₀ W W') ∨ (e = .returned (.bool false) ∧ Jx (pre ++ [x]) W'))
    (hBs : W.cell? ⟨Bs, 0, none⟩ = some (.slice A L.length c)) (hBl : Bs < n₀) (hn0 : n₀ ≤ W.heap.size) (hr : Rd W n₀ A (L.flatMap Ev.cells)) (h0 : J [] W) :
    CallsIn Fence.wide n Tryd.prog 88 #[.func (.yield l) #[] #[], .pointer (some ⟨Bs, 0, none⟩)] W fun e W' => (∃ v, e = .returned v) ∧
      ((∃ ys, ys = L.map Ev.key ∧ J ys W') ∨ (∃ pre, (∃ k, k ≤ L.length ∧ pre = (L.map Ev.key).take k) ∧ Jx pre W')) := by
  have HR := Lib.hid hr
  have HBs := Lib.hid hBs
  have hlt0 : Bs < W.heap.size := by omega
  clear hr
  refine callsIn_of_wp Tryd.func88 rfl trivial ?_ rfl
  simp only [Tryd.ntmps88, List.size_toArray, List.length_cons, List.length_nil, Nat.reduceAdd, Nat.reduceSub, Array.replicate_succ, Array.replicate_zero, List.push_toArray, List.append_toArray, List.nil_append, List.cons_append]
  gi_wp2
  gi_loopw [7] (fun i wr => ∃ k : Nat, k ≤ L.length ∧ i = .int .i64 k ∧ J ((L.map Ev.key).take k) wr ∧ Below n₀ W wr) (fun i _ => L.length - (intOf i).toNat)
  case atStart => exact ⟨0, Nat.zero_le _, rfl, h0, Below.refl _ _⟩
  case round =>
    obtain ⟨k, hk, rfl, hJs, hb⟩ := hrel
    by_cases hlt : k < L.length
    · obtain ⟨b, off, rfl, hB, hc⟩ := (HR.out.below hb (Nat.le_refl _)).at_ Ev.cells_length (by omega) hlt
      have c0 := hc 0 _ rfl
      have c1 := hc 1 _ rfl
      have c2 := hc 2 _ rfl
      have c3 := hc 3 _ rfl
      have c4 := hc 4 _ rfl
      have c5 := hc 5 _ rfl
      have c6 := hc 6 _ rfl
      have c7 := hc 7 _ rfl
      have c8 := hc 8 _ rfl
      rw [Nat.add_zero] at c0
      clear hc
      have hlm : k < (L.map Ev.key).length := by rw [List.length_map]; exact hlt
      have hsn := take_snoc (L.map Ev.key) k hlm
      rw [List.getElem_map] at hsn
      have HSN := Lib.hid hsn
      have hJ2 := hJ _ wr (wr.alloc (.cells #[.int .i64 L[k].frame, .int .i64 L[k].emitter, .int .i64 L[k].kind, .int .i64 L[k].ord, .int .i64 L[k].asset, .int .i64 L[k].gain, .int .i64 L[k].pan, .int .i64 L[k].prio, .int .i64 L[k].len] 80)) none hJs (World.grownBy_alloc _ _ none) (fun r e => by cases e)
      obtain ⟨fn, tmps, assign, body, hy, hR⟩ := hY _ (L[k].key) _ hJ2 (by rw [List.length_take]; omega)
      have hba := hb.alloc (Nat.le_trans hn0 hb.size) (.cells #[.int .i64 L[k].frame, .int .i64 L[k].emitter, .int .i64 L[k].kind, .int .i64 L[k].ord, .int .i64 L[k].asset, .int .i64 L[k].gain, .int .i64 L[k].pan, .int .i64 L[k].prio, .int .i64 L[k].len] 80)
      dsimp only [Key4.val, Ev.key] at hy
      have HJ2 := Lib.hid hba
      clear hsn hJs hJ2 hba
      gi_wp2
      refine hR.mono ?_
      rintro e W3 (⟨rfl, hJ3, hk3⟩ | ⟨rfl, hJx3⟩)
      · gi_wp2
        go_roundw
        case rel => exact ⟨k + 1, by omega, by go_num, by rw [HSN.out]; exact hJ3, HJ2.out.trans hk3⟩
        case measure => simp [intOf]; omega
      · gi_wp2
        refine bodyPost_ret (results_none rfl _ _ _) rfl ?_
        exact ⟨⟨_, rfl⟩, .inr ⟨_, ⟨k + 1, by omega, HSN.out.symm⟩, hJx3⟩⟩
    · obtain rfl : k = L.length := by omega
      gi_wp2
      go_end0
      exact ⟨⟨_, rfl⟩, .inl ⟨_, by rw [List.take_of_length_le (by rw [List.length_map]; exact Nat.le_refl _)], hJs⟩⟩
theorem keys_stops (n : Nat) (hn : 1 ≤ n) (Bs n₀ : Nat) (A : Option Addr) (c : Nat) (L : List Ev) (hL : L.length ≤ 1000) (w : World) (hBs : w.cell? ⟨Bs, 0, none⟩ = some (.slice A L.length c)) (hBl : Bs < n₀) (hn0 : n₀ ≤ w.heap.size) (hr : Rd w n₀ A (L.flatMap Ev.cells)) :
    SeqStopsK Fence.wide n Tryd.prog 88 #[.pointer (some ⟨Bs, 0, none⟩)] (fun x : Key4 => #[x.val]) (Below n₀) (fun xs => xs = L.map Ev.key) (fun pre => ∃ k, k ≤ L.length ∧ pre = (L.map Ev.key).take k) L.length w := fun l J Jx W hW hJ _ hY h0 =>
  keysC_in n hn l Bs n₀ A c L hL J Jx W hJ hY ((hW.cell (p := ⟨Bs, 0, none⟩) (Nat.lt_of_lt_of_le hBl hn0)).trans hBs) hBl (Nat.le_trans hn0 hW.size) (hr.below hW hn0) h0
def lastF (a : Key4) : List Key4 → Key4
  | [] => a
  | k :: r => lastF k r
theorem lastF_snoc : ∀ (pre : List Key4) (a x : Key4), lastF a (pre ++ [x]) = x
  | [], _, _ => rfl
  | k :: r, _, x => lastF_snoc r k x
theorem risingF_snoc : ∀ (pre : List Key4) (a x : Key4), risingF a (pre ++ [x]) = (risingF a pre && (keyOk x && decide (cmpK (lastF a pre) x < 0)))
  | [], a, x => by simp [risingF, lastF]; rfl
  | k :: r, a, x => by
    show (keyOk k && (decide (cmpK a k < 0) && risingF k (r ++ [x]))) = _
    rw [risingF_snoc r k x]
    simp only [risingF, lastF, Bool.and_assoc]
    rfl
theorem risingF_take : ∀ (l : List Key4) (a : Key4) (k : Nat), risingF a (l.take k) = false → risingF a l = false
  | [], a, k, h => by simpa using h
  | x :: r, a, 0, h => by simp [risingF] at h
  | x :: r, a, k + 1, h => by
    rw [List.take_succ_cons] at h
    unfold risingF at h ⊢
    cases h1 : keyOk x
    · rfl
    · cases h2 : decide (cmpK a x < 0)
      · rfl
      · rw [h1, h2] at h
        simp only [Bool.true_and] at h
        rw [risingF_take r x k h]; rfl
theorem Blk.owned {W W' : World} {row : Option Nat} {g B : Nat} {E : TypeId} {cs : Array Value} (h : Blk W g E cs) (hg : W.grownBy W' row) (hr : ∀ r, row = some r → B ≤ r ∧ ∃ o : Obj, W.heap[r]? = some o ∧ o.isCells = false) : Blk W' g E cs :=
  h.grown hg (fun e => by
    obtain ⟨-, _, ho, hc⟩ := hr g e
    have h' : W.heap[g]? = some (.cells cs E (0, 0)) := h
    rw [h'] at ho
    cases ho
    cases hc)
theorem below_others {W W' : World} (h : Below W.heap.size W W') : KeepsOthers W W' :=
  ⟨h.size, fun k _ hk _ => (h.block k (Array.getElem?_eq_some_iff.1 hk).1).trans hk⟩
set_option maxHeartbeats 4000000 in
theorem rising_in (Bs : Nat) (A : Option Addr) (c : Nat) (L : List Ev) (hL : L.length ≤ 1000) (w : World) (hBs : w.cell? ⟨Bs, 0, none⟩ = some (.slice A L.length c)) (hBl : Bs < w.heap.size) (hr : Rd w w.heap.size A (L.flatMap Ev.cells)) :
    CallsIn Fence.wide 3 Tryd.prog 70 #[.func (.func 88) #[] #[.pointer (some ⟨Bs, 0, none⟩)]] w fun e w' => e = .returned (.bool (risingF key0 (L.map Ev.key))) ∧ Below w.heap.size w w' := by
  have HR := Lib.hid hr
  clear hr
  refine callsIn_of_wp_marks Tryd.func70 rfl trivial ?_ rfl
  simp only [Tryd.ntmps70, List.size_toArray, List.length_cons, List.length_nil, Nat.reduceAdd, Nat.reduceSub, Array.replicate_succ, Array.replicate_zero, List.push_toArray, List.append_toArray, List.nil_append, List.cons_append]
  gi_wp2
  have k0 : Blk ((w.alloc (.cells #[.bool false] 4)).alloc (.cells #[.int .i64 (-1), .int .i64 0, .int .i64 0, .int .i64 0] 78)) w.heap.size 4 #[.bool false] := (Blk.new _ _ _).alloc _
  have k1 : Blk ((w.alloc (.cells #[.bool false] 4)).alloc (.cells #[.int .i64 (-1), .int .i64 0, .int .i64 0, .int .i64 0] 78)) (w.heap.size + 1) 78 key0.cells.toArray := by
    have := Blk.new (w.alloc (.cells #[.bool false] 4)) 78 #[.int .i64 (-1), .int .i64 0, .int .i64 0, .int .i64 0]
    rw [World.size_alloc] at this
    exact this
  have hb2 : Below w.heap.size w ((w.alloc (.cells #[.bool false] 4)).alloc (.cells #[.int .i64 (-1), .int .i64 0, .int .i64 0, .int .i64 0] 78)) := bAlloc (bAlloc (Below.refl _ _) _) _
  have hz2 : ((w.alloc (.cells #[.bool false] 4)).alloc (.cells #[.int .i64 (-1), .int .i64 0, .int .i64 0, .int .i64 0] 78)).heap.size = w.heap.size + 2 := by simp
  obtain ⟨W2, hW2⟩ : ∃ W2, (w.alloc (.cells #[.bool false] 4)).alloc (.cells #[.int .i64 (-1), .int .i64 0, .int .i64 0, .int .i64 0] 78) = W2 := ⟨_, rfl⟩
  rw [hW2] at k0 k1 hb2 hz2 ⊢
  clear hW2
  refine wpIn_rangeFunc_ownH rfl (by decide) (gf := 88) (lb := #[.pointer (some ⟨Bs, 0, none⟩)]) rfl trivial (enters_of Tryd.func88 (by kernel_rfl) rfl)
    (keys_stops 2 (by decide) Bs w.heap.size A c L hL W2 ((hb2.cell (p := ⟨Bs, 0, none⟩) hBl).trans hBs) hBl (by omega) (HR.out.below hb2 (Nat.le_refl _))) belowK_t (belowK_b (by omega)) (Below.refl _ _) (fun _ => rfl)
    (fun pre W => (Blk W w.heap.size 4 #[.bool false] ∧ Blk W (w.heap.size + 1) 78 (lastF key0 pre).cells.toArray ∧ risingF key0 pre = true) ∧ Below w.heap.size w W)
    (fun c pre W => (c = .ret ∧ risingF key0 pre = false ∧ Blk W w.heap.size 4 #[.bool false]) ∧ Below w.heap.size w W)
    (OwnFrom.and (fun s A B row hs hg hr => ⟨hs.1.owned hg hr, hs.2.1.owned hg hr, hs.2.2⟩) (ownFrom_below (Nat.le_refl _) (by omega)))
    (fun c => OwnFrom.and (fun s A B row hs hg hr => ⟨hs.1, hs.2.1, hs.2.2.owned hg hr⟩) (ownFrom_below (Nat.le_refl _) (by omega)))
    ⟨⟨k0, k1, rfl⟩, hb2⟩
    (fun x a' W => ∃ Bx, w.heap.size + 1 < Bx ∧ Blk W Bx 78 x.cells.toArray ∧ a' = { tmps := #[.func (.func 88) #[] #[.pointer (some ⟨Bs, 0, none⟩)], undef, .pointer (some ⟨w.heap.size, 0, none⟩), .pointer (some ⟨w.heap.size + 1, 0, none⟩), .pointer (some ⟨Bx, 0, none⟩), key0.val, .func (.func 88) #[] #[.pointer (some ⟨Bs, 0, none⟩)], x.val, undef, undef, undef, undef, undef, undef, undef, undef, undef, undef], defers := [] })
    (fun x a' s A B row hs hg hr => by obtain ⟨Bx, h1, h2, h3⟩ := hs; exact ⟨Bx, h1, h2.owned hg hr, h3⟩)
    ?assign ?body ?done ?stop
  case assign =>
    rintro l pre x W K ⟨⟨h0, h1, h2⟩, hB⟩ hK
    have hx : x.val = .agg #[.int .i64 x.frame, .int .i64 x.emitter, .int .i64 x.kind, .int .i64 x.ord] := rfl
    rw [hx]
    have hl1 := h1.lt
    gi_wp2
    exact hK _ _ ((KeepsOthers.alloc _ _).from _) ((Below.refl _ W).alloc hB.size _) ⟨⟨h0.alloc _, h1.alloc _, h2⟩, hB.alloc hB.size _⟩ ⟨W.heap.size, hl1, Blk.new _ _ _, rfl⟩
  case body =>
    rintro l pre x a' W hl - ⟨⟨h0, h1, h2⟩, hB⟩ ⟨Bx, hBx, bX, rfl⟩ hlt
    have hsn := risingF_snoc pre key0 x
    rw [h2, Bool.true_and] at hsn
    have hls := lastF_snoc pre key0 x
    obtain ⟨y, hy⟩ : ∃ y, lastF key0 pre = y := ⟨_, rfl⟩
    rw [hy] at h1 hsn
    obtain ⟨x0, x1, x2, x3⟩ := (show Blk W Bx 78 #[.int .i64 x.frame, .int .i64 x.emitter, .int .i64 x.kind, .int .i64 x.ord] from bX).key
    have hbx := bX.lt
    have HSN := Lib.hid hsn
    have HLS := Lib.hid hls
    have H0 := Lib.hid h0
    have H1 := Lib.hid h1
    have HX := Lib.hid bX
    have HB := Lib.hid hB
    have hw0 : w.heap.size ≤ W.heap.size := hB.size
    clear hsn hls h0 h1 bX hB h2 hy
    cases hk : keyOk x
    · have hf : risingF key0 (pre ++ [x]) = false := by rw [HSN.out, hk]; rfl
      have HK := Lib.hid hk
      have HF := Lib.hid hf
      clear hk hf
      gi_wp2_with (first | (refine ⟨trivial, ?_⟩; gi_at_call 86; refine (CallsIn.inRound l (callsIn_wide.2 (key_any x _))).mono ?_; rw [HK.out]; rintro e w1 ⟨rfl, hb1⟩; have q0 := (H0.out.on hb1).cell 0; have q1 := (H0.out.on hb1).frozen 0; have ql := (H0.out.on hb1).lt; simp only [List.getElem?_toArray, List.getElem?_cons_zero] at q0; have HB1 := Lib.hid hb1; clear hb1))
      refine ⟨trivial, ?_⟩
      gi_wp2
      have hk1 := H0.out.on HB1.out
      exact ⟨((below_others HB1.out).trans (KeepsOthers.setCell _ _ _)).from _, ⟨rfl, HF.out, hk1.set 0 (.bool false)⟩, (HB.out.trans (HB1.out.mono hw0)).setCell (p := ⟨w.heap.size, 0, none⟩) (Nat.le_refl _) _⟩
    · have HK := Lib.hid hk
      clear hk
      by_cases hc : cmpK y x < 0
      · have hcd : decide (0 ≤ cmpK y x) = false := decide_eq_false (by omega)
        have hf : risingF key0 (pre ++ [x]) = true := by rw [HSN.out, HK.out, decide_eq_true hc]; rfl
        have HF := Lib.hid hf
        clear hf
        gi_wp2_with (first
          | (refine ⟨trivial, ?_⟩; gi_at_call 86; refine (CallsIn.inRound l (callsIn_wide.2 (key_any x _))).mono ?_; rw [HK.out]; rintro e w1 ⟨rfl, hb1⟩; have ⟨p0, p1, p2, p3⟩ := (HX.out.on hb1).key; have ⟨r0, r1, r2, r3⟩ := (H1.out.on hb1).key; have rl := (H1.out.on hb1).lt; have pl := (HX.out.on hb1).lt; have HB1 := Lib.hid hb1; clear hb1)
          | (refine ⟨trivial, ?_⟩; gi_at_call 87; refine (CallsIn.inRound l (callsIn_wide.2 (compare_any y x _))).mono ?_; rintro e w2 ⟨rfl, hb2⟩; have hb12 := bTrans HB1.out hb2; have ⟨s0, s1, s2, s3⟩ := (HX.out.on hb12).key; have ⟨t0, t1, t2, t3⟩ := (H1.out.on hb12).key; have u0 := (H1.out.on hb12).frozen 0; have u1 := (H1.out.on hb12).frozen 1; have u2 := (H1.out.on hb12).frozen 2; have u3 := (H1.out.on hb12).frozen 3; have tl := (H1.out.on hb12).lt; have sl := (HX.out.on hb12).lt; have HB2 := Lib.hid hb12; clear hb2 hb12))
        have hk0 := H0.out.on HB2.out
        have hk1 := H1.out.on HB2.out
        have hB2 := HB2.out.mono hw0
        have hBB : Below w.heap.size W ((((w2.setCell ⟨w.heap.size + 1, 0, none⟩ (.int .i64 x.frame)).setCell ⟨w.heap.size + 1, 1, none⟩ (.int .i64 x.emitter)).setCell ⟨w.heap.size + 1, 2, none⟩ (.int .i64 x.kind)).setCell ⟨w.heap.size + 1, 3, none⟩ (.int .i64 x.ord)) := (((hB2.setCell (p := ⟨w.heap.size + 1, 0, none⟩) (Nat.le_succ _) _).setCell (p := ⟨w.heap.size + 1, 1, none⟩) (Nat.le_succ _) _).setCell (p := ⟨w.heap.size + 1, 2, none⟩) (Nat.le_succ _) _).setCell (p := ⟨w.heap.size + 1, 3, none⟩) (Nat.le_succ _) _
        refine ⟨(((((below_others HB2.out).trans (KeepsOthers.setCell _ _ _)).trans (KeepsOthers.setCell _ _ _)).trans (KeepsOthers.setCell _ _ _)).trans (KeepsOthers.setCell _ _ _)).from _, hBB, ⟨(((hk0.farG (by omega) _ _).farG (by omega) _ _).farG (by omega) _ _).farG (by omega) _ _, ?_, HF.out⟩, HB.out.trans hBB⟩
        rw [HLS.out]
        exact Blk.set4 hk1
      · have hcd : decide (0 ≤ cmpK y x) = true := decide_eq_true (by omega)
        have hf : risingF key0 (pre ++ [x]) = false := by rw [HSN.out, HK.out, decide_eq_false hc]; rfl
        have HF := Lib.hid hf
        clear hf
        gi_wp2_with (first
          | (refine ⟨trivial, ?_⟩; gi_at_call 86; refine (CallsIn.inRound l (callsIn_wide.2 (key_any x _))).mono ?_; rw [HK.out]; rintro e w1 ⟨rfl, hb1⟩; have ⟨p0, p1, p2, p3⟩ := (HX.out.on hb1).key; have ⟨r0, r1, r2, r3⟩ := (H1.out.on hb1).key; have rl := (H1.out.on hb1).lt; have pl := (HX.out.on hb1).lt; have HB1 := Lib.hid hb1; clear hb1)
          | (refine ⟨trivial, ?_⟩; gi_at_call 87; refine (CallsIn.inRound l (callsIn_wide.2 (compare_any y x _))).mono ?_; rintro e w2 ⟨rfl, hb2⟩; have hb12 := bTrans HB1.out hb2; have q0 := (H0.out.on hb12).cell 0; have q1 := (H0.out.on hb12).frozen 0; have ql := (H0.out.on hb12).lt; simp only [List.getElem?_toArray, List.getElem?_cons_zero] at q0; have HB2 := Lib.hid hb12; clear hb2 hb12))
        have hk1 := H0.out.on HB2.out
        exact ⟨((below_others HB2.out).trans (KeepsOthers.setCell _ _ _)).from _, ⟨rfl, HF.out, hk1.set 0 (.bool false)⟩, (HB.out.trans (HB2.out.mono hw0)).setCell (p := ⟨w.heap.size, 0, none⟩) (Nat.le_refl _) _⟩
  case done =>
    rintro D ys W hD rfl ⟨⟨h0, h1, h2⟩, hB⟩ hK
    have q0 := h0.cell 0
    have q1 := h0.frozen 0
    have ql := h0.lt
    simp only [List.getElem?_toArray, List.getElem?_cons_zero] at q0
    have H2 := Lib.hid h2
    have H0 := Lib.hid h0
    clear h1 h2 h0
    gi_wp2
    have hK' := (KeepsOthers.setCell W ⟨w.heap.size, 0, none⟩ (.bool true)).same D _ hK rfl
    refine ⟨by simp, .inl ⟨_, _, rfl, run_takeDeferred hK', ?_⟩⟩
    have hc5 := cell_kept (World.cell?_setCell_same' W ⟨w.heap.size, 0, none⟩ (.bool true) (by rw [q0]; rfl)) (grownBy_putObj' _ D (.deferred none)) (fun r e => by cases e; exact ⟨_, hK', rfl⟩)
    refine ⟨.bool true, ?_, ret_bool H2.out.symm, (hB.setCell (p := ⟨w.heap.size, 0, none⟩) (Nat.le_refl _) _).trans (belowK_b (w := w) (Nat.le_refl _) _ D _ _ (by omega) hK' rfl rfl)⟩
    simp [results, Tryd.results70, go_sem, hc5]
  case stop =>
    rintro D c pre W hD ⟨k, hk, rfl⟩ ⟨⟨rfl, h1, h2⟩, hB⟩ hK
    have q0 := h2.cell 0
    simp only [List.getElem?_toArray, List.getElem?_cons_zero] at q0
    have H1 := Lib.hid (risingF_take _ _ _ h1)
    clear h1 h2
    gi_wp2
    refine ⟨by simp, .inl ⟨_, _, rfl, run_takeDeferred hK, ?_⟩⟩
    have hc5 := cell_kept q0 (grownBy_putObj' _ D (.deferred none)) (fun r e => by cases e; exact ⟨_, hK, rfl⟩)
    refine ⟨.bool false, ?_, ret_bool H1.out.symm, hB.trans (belowK_b (w := w) (Nat.le_refl _) W D _ _ (by omega) hK rfl rfl)⟩
    simp [results, Tryd.results70, go_sem, hc5]
/-- **Ordered.** -/
theorem rising_any (Bs : Nat) (A : Option Addr) (c : Nat) (L : List Ev) (hL : L.length ≤ 1000) (w : World) (hBs : w.cell? ⟨Bs, 0, none⟩ = some (.slice A L.length c)) (hBl : Bs < w.heap.size) (hr : Rd w w.heap.size A (L.flatMap Ev.cells)) :
    Calls Tryd.prog 70 #[.func (.func 88) #[] #[.pointer (some ⟨Bs, 0, none⟩)]] w fun e w' => e = .returned (.bool (risingF key0 (L.map Ev.key))) ∧ Below w.heap.size w w' :=
  callsIn_wide.1 (rising_in Bs A c L hL w hBs hBl hr)
theorem keys_any (A : Option Addr) (m c : Nat) (w : World) : Calls Tryd.prog 71 #[.slice A m c] w fun e w' => e = .returned (.func (.func 88) #[] #[.pointer (some ⟨w.heap.size, 0, none⟩)]) ∧ w' = w.alloc (.cells #[.slice A m c] 85) :=
  callsIn_wide.1 (keys_in 3 _ rfl w ⟨_, _, _, rfl⟩)
set_option maxHeartbeats 2000000 in
theorem ordered_any (A : Option Addr) (c : Nat) (L : List Ev) (hL : L.length ≤ 1000) (w : World) (hr : Rd w w.heap.size A (L.flatMap Ev.cells)) :
    Calls Tryd.prog 59 #[.slice A L.length c] w fun e w' => e = .returned (.bool (orderedB L)) ∧ Below w.heap.size w w' := by
  have HCF := Lib.hid (cfE_any A c L w hL hr)
  have HRI : Hid (∀ W, Below w.heap.size w W → Calls Tryd.prog 70 #[.func (.func 88) #[] #[.pointer (some ⟨W.heap.size, 0, none⟩)]] (W.alloc (.cells #[.slice A L.length c] 85)) fun e w' => e = .returned (.bool (risingF key0 (L.map Ev.key))) ∧ Below W.heap.size W w') := Lib.hid (fun W hW => by
    have hb := bAlloc (Below.refl W.heap.size W) (.cells #[.slice A L.length c] 85)
    have hw := bAlloc hW (.cells #[.slice A L.length c] 85)
    refine (rising_any W.heap.size A c L hL _ (by simp [go_sem]) (by simp) ((hr.below hw (Nat.le_refl _)).more hw.size)).mono ?_
    rintro e w' ⟨rfl, h⟩
    exact ⟨rfl, bTrans hb h⟩)
  have HO := Lib.hid (show (decide (L.length ≤ 64) && (L.all evOk && risingF key0 (L.map Ev.key))) = orderedB L from rfl)
  obtain ⟨m, hm⟩ : ∃ m, L.length = m := ⟨_, rfl⟩
  obtain ⟨p, hp⟩ : ∃ p, L.all evOk = p := ⟨_, rfl⟩
  obtain ⟨q, hq⟩ : ∃ q, risingF key0 (L.map Ev.key) = q := ⟨_, rfl⟩
  rw [hm, hp] at HCF
  rw [hm, hq] at HRI
  rw [hm, hp, hq] at HO
  rw [hm] at hL ⊢
  clear hm hp hq hr
  by_cases h64 : m ≤ 64
  · have g1 : decide ((m : Int) ≤ 64) = true := decide_eq_true (by omega)
    rw [decide_eq_true h64, Bool.true_and] at HO
    cases p
    · go_enter Tryd.func59, Tryd.ntmps59
      go_wp2_with (first | (go_at_call 68; refine HCF.out.mono ?_; rintro e w1 ⟨rfl, hb1⟩))
      go_ret
      exact ⟨ret_bool HO.out, hb1⟩
    · rw [Bool.true_and] at HO
      go_enter Tryd.func59, Tryd.ntmps59
      go_wp2_with (first
        | (go_at_call 68; refine HCF.out.mono ?_; rintro e w1 ⟨rfl, hb1⟩)
        | (go_at_call 71; refine (keys_any _ _ _ _).mono ?_; rintro e w2 ⟨rfl, rfl⟩)
        | (go_at_call 70; refine (HRI.out _ hb1).mono ?_; rintro e w3 ⟨rfl, hb3⟩))
      go_ret
      exact ⟨ret_bool HO.out, bTrans hb1 hb3⟩
  · have g1 : decide ((m : Int) ≤ 64) = false := decide_eq_false (by omega)
    rw [decide_eq_false h64, Bool.false_and] at HO
    go_enter Tryd.func59, Tryd.ntmps59
    go_wp2_with fail
    go_ret
    exact ⟨ret_bool HO.out, Below.refl _ _⟩
/-- The events of a page are in order. -/
theorem risingF_sorted : ∀ (L : List Ev) (a : Key4), SortedE L → (∀ e ∈ L, evOk e = true) → (∀ e ∈ L, a.Lt e.key) → risingF a (L.map Ev.key) = true
  | [], _, _, _, _ => rfl
  | x :: r, a, hs, hok, ha => by
    have hx := hok x (by simp)
    have hk : keyOk x.key = true := by
      unfold evOk at hx
      simp only [Bool.and_eq_true] at hx
      exact hx.1.1.1.1.1
    have hlt : cmpK a x.key < 0 := (cmpK_neg a x.key).2 (ha x (by simp))
    show (keyOk x.key && (decide (cmpK a x.key < 0) && risingF x.key (r.map Ev.key))) = true
    rw [hk, decide_eq_true hlt, risingF_sorted r x.key (List.pairwise_cons.1 hs).2 (fun e he => hok e (by simp [he])) (fun e he => (List.pairwise_cons.1 hs).1 e he)]
    rfl
end Go.Proofs.YtlonefjbcooaaaaDoor
