/-
  Rows of words and of numbers; script.numbers; the document's Cut and Numbers.
-/
import Derived.Test.YtlonefjbcooaaaaDoorScN
import Derived.Test.YtlonefjbcooaaaaDoorAppAny
import Derived.Test.YtlonefjbcooaaaaDoorMix
import Derived.Deep.Cut
import Derived.Deep.RegionWith
namespace Go.Proofs.YtlonefjbcooaaaaDoor
open Go.RowKit
set_option maxRecDepth 100000
set_option linter.unusedSimpArgs false
/-- A row's type, for append. -/
def AppT {α : Type} (T E : TypeId) (k : Nat) (f : α → List Value) : Prop :=
  Tryd.prog.underlying T = some (.slice E) ∧ (∃ i z, Tryd.prog.info? E = some i ∧ i.zero = some z ∧ i.size = k ∧ i.bytes ≤ 140 ∧ z.cells.size = k ∧ 0 < k) ∧ (∀ a, (f a).length = k) ∧ ∀ a, ∀ u ∈ f a, u.oneCell' = true
theorem wpList_app {α : Type} {T E : TypeId} {k : Nat} {f : α → List Value} (hT : AppT T E k f) {w : World} {ops : Array Oper} {rest : List Oper} {o : Oper} {a : Act} {Q : Exit → Act → World → Prop} (hgd : o.guard = none) (s x : Operand)
    (ho : o.op = .call { callee := .builtin .append, args := #[s, x], argTypes := #[T, T] })
    (base : Nat) (u : Value) (L M : List α) (hown : OwnL w base E k u f L) (hs : a.eval s = u)
    (B : Nat) (A : Option Addr) (m c : Nat) (hm : m = M.length) (hx : a.eval x = .slice A m c) (hr : Rd w B A (M.flatMap f)) (hn : L.length + M.length ≤ 1000000000) (hbase : base ≤ w.heap.size)
    (h : ∀ A' c' n' w', Hid (n' = L.length + M.length) → OwnL w' base E k (.slice A' n' c') f (L ++ M) → w.grownBy w' u.ownBlock → wpList Tryd.prog ops Q rest (a.put o.dst (.slice A' n' c')) w') : wpList Tryd.prog ops Q (o :: rest) a w := by
  subst hm
  obtain ⟨ht, ⟨i, z, hi, hz, hk, hb, hzs, hk0⟩, hf, h1⟩ := hT
  have hby : (L.length + M.length) * i.bytes ≤ 1000000000 * 140 := Nat.mul_le_mul hn hb
  refine wpList_append_rd hgd s x T ho base E i z k i.bytes ht hi hz hk rfl hzs hk0 u L.length (L.flatMap f) hs hown B A M.length c (M.flatMap f) hx (length_flatMap_const _ _ hf _) hr (rd_none hf hk0 hr) (fun u hu => ?_) (by unfold maxLen; omega) (by omega) hbase ?_
  · obtain ⟨e, -, he⟩ := List.mem_flatMap.1 hu
    exact h1 e u he
  intro v' w' hw hg _
  have ho' : OwnL w' base E k v' f (L ++ M) := OwnL.app (n := L.length + M.length) rfl hw
  obtain ⟨A', c', rfl⟩ := ho'.shape
  refine h A' c' _ w' (Lib.hid (by rw [List.length_append])) ?_ hg
  exact ho'
def iF (n : Nat) : List Value := [.int .i64 (n : Int)]
def sF (l : List UInt8) : List Value := [.string ⟨l.toArray⟩]
theorem sF_length (l : List UInt8) : (sF l).length = 1 := rfl
theorem iF_length (n : Nat) : (iF n).length = 1 := rfl
theorem infoI : ∃ i z, Tryd.prog.info? 3 = some i ∧ i.zero = some z ∧ i.size = 1 ∧ i.bytes ≤ 140 ∧ z.cells.size = 1 ∧ 0 < 1 := by
  obtain ⟨i, h1, h2⟩ := Option.map_eq_some_iff.1 (show (Tryd.prog.info? 3).map (fun i => (i.zero, i.size, i.bytes)) = some (some (.int .i64 0), 1, 8) by kernel_rfl)
  simp only [Prod.mk.injEq] at h2
  exact ⟨i, _, h1, h2.1, h2.2.1, by omega, rfl, by decide⟩
theorem infoS : ∃ i z, Tryd.prog.info? 9 = some i ∧ i.zero = some z ∧ i.size = 1 ∧ i.bytes ≤ 140 ∧ z.cells.size = 1 ∧ 0 < 1 := by
  obtain ⟨i, h1, h2⟩ := Option.map_eq_some_iff.1 (show (Tryd.prog.info? 9).map (fun i => (i.zero, i.size, i.bytes)) = some (some (.string ⟨#[]⟩), 1, 16) by kernel_rfl)
  simp only [Prod.mk.injEq] at h2
  exact ⟨i, _, h1, h2.1, h2.2.1, by omega, rfl, by decide⟩
theorem appI : AppT 49 3 1 iF := ⟨Tryd.underlying49, infoI, iF_length, fun a u hu => by simp only [iF, List.mem_singleton] at hu; subst hu; rfl⟩
theorem appS : AppT 43 9 1 sF := ⟨Tryd.underlying43, infoS, sF_length, fun a u hu => by simp only [sF, List.mem_singleton] at hu; subst hu; rfl⟩
theorem rd_one {α : Type} {f : α → List Value} (w : World) (E : TypeId) (cs : Array Value) (x : α) (h : cs.toList = f x) : Rd (w.alloc (.cells cs E)) (w.heap.size + 1) (some ⟨w.heap.size, 0, none⟩) ([x].flatMap f) := by
  have := rd_new w cs E _ rfl (w.heap.size + 1) (Nat.lt_succ_self _)
  rw [h] at this
  simpa using this

set_option maxHeartbeats 8000000 in
theorem numbers_any (A : Option Addr) (c : Nat) (ws : List (List UInt8)) (cnt : Nat) (w : World) (hn : ws.length ≤ 1000000) (hr : Rd w w.heap.size A (ws.flatMap sF)) (hl : ∀ l ∈ ws, l.length ≤ 1000000) (h : ScW w w.heap.size) :
    Calls Tryd.prog 36 #[.slice A ws.length c, .int .i64 cnt] w fun e w' => ∃ A' n' c' b, e = .returned (.tuple #[.slice A' n' c', .bool b]) ∧ Below w.heap.size w w' ∧
      (numsO ws = none → b = false) ∧ ∀ ns, numsO ws = some ns → b = decide (ws.length = cnt) ∧ OwnL w' w.heap.size 3 1 (.slice A' n' c') iF ns := by
  have HR := Lib.hid hr
  have HL := Lib.hid hl
  have HW := Lib.hid h
  have HT := Lib.hid (numsO_take ws)
  have HNL := Lib.hid (fun k ns (e : numsO (ws.take k) = some ns) => numsO_len e)
  obtain ⟨m, hm⟩ : ∃ m, ws.length = m := ⟨_, rfl⟩
  rw [hm] at hn ⊢
  have HM := Lib.hid hm
  clear hr hl h hm
  go_enter Tryd.func36, Tryd.ntmps36
  go_wp2_with fail
  go_loopw [6, 13] (fun out i wr => ∃ k : Nat, k ≤ m ∧ i = .int .i64 k ∧ ∃ A' n' c' ns, out = .slice A' n' c' ∧ Hid (OwnL wr w.heap.size 3 1 (.slice A' n' c') iF ns) ∧ Hid (numsO (ws.take k) = some ns) ∧ Hid (Below w.heap.size w wr)) (fun _ i _ => m - (intOf i).toNat)
  case atStart => exact ⟨0, Nat.zero_le _, rfl, none, 0, 0, [], rfl, Lib.hid OwnL.nil, Lib.hid rfl, Lib.hid (Below.refl _ _)⟩
  case round =>
    obtain ⟨k, hk, rfl, A', n', c', ns, rfl, HO, HNS, HB⟩ := hrel
    by_cases hlt : k < m
    · have hkL : k < ws.length := by rw [HM.out]; exact hlt
      obtain ⟨b, off, rfl, hB, hc⟩ := (HR.out.below HB.out (Nat.le_refl _)).at_ sF_length (by omega) hkL
      have x0 := hc 0 _ rfl
      rw [Nat.add_zero, Nat.mul_one] at x0
      have hst := HT.out k ns hkL HNS.out
      have hln := HNL.out k ns HNS.out
      rw [List.length_take] at hln
      have hlx := HL.out ws[k] (List.getElem_mem hkL)
      obtain ⟨x, hx⟩ : ∃ x, ws[k] = x := ⟨_, rfl⟩
      rw [hx] at x0 hst hlx
      have hHW := HW.out.on HB.out
      have HC := Lib.hid (number_any x wr hlx hHW)
      have hpk := numP_ok x
      have hblw := Nat.lt_of_lt_of_le hB HB.out.size
      have e0 : (0 : Int) ≤ (k : Int) := Int.natCast_nonneg _
      have e1 : (k : Int) < (m : Int) := by omega
      have hnl : ns.length ≤ 1000000 := by omega
      clear hc hx hHW hlx hln
      cases hnx : numO x with
      | none =>
        have HX := Lib.hid (hst.1 hnx)
        have hp2 : (numP x).2 = false := by rw [hpk.1, hnx]; rfl
        rw [hp2] at HC
        clear hst hpk hp2 hnx
        go_wp2_with (first | (go_at_call 51; refine HC.out.mono ?_; rintro e w3 ⟨rfl, hb3⟩; have HB3 := Lib.hid hb3; clear hb3))
        go_ret2
        exact ⟨none, 0, 0, false, rfl, bTrans HB.out HB3.out, fun _ => rfl, fun ns e => by rw [HX.out] at e; cases e⟩
      | some v =>
        have HX := Lib.hid (hst.2 v hnx)
        have hp2 : (numP x).2 = true := by rw [hpk.1, hnx]; rfl
        have hp1 := hpk.2 v hnx
        rw [hp2, hp1] at HC
        clear hst hpk hp2 hp1 hnx
        go_wp2_with (first
          | (go_at_call 51; refine HC.out.mono ?_; rintro e w3 ⟨rfl, hb3⟩; have HB3 := Lib.hid hb3; clear hb3; have HO3 := Lib.hid (HO.out.below HB3.out))
          | (at_builtin; refine wpList_app appI rfl (.tmp 24) (.tmp 26) rfl w.heap.size _ ns [v] (HO3.out.alloc _) rfl _ _ 1 1 rfl rfl (rd_one _ _ _ v rfl) (by simp; omega) (by have := HB.out.size; have := HB3.out.size; simp; omega) ?_
             intro A8 c8 n8 w8 hn8 ho8 hg8
             have HO8 := Lib.hid ho8
             have HG8 := Lib.hid hg8
             clear ho8 hg8))
        go_roundw
        case rel =>
          refine ⟨k + 1, by omega, by go_num, A8, n8, c8, ns ++ [v], rfl, HO8, HX, Lib.hid ?_⟩
          exact (bAlloc (bTrans HB.out HB3.out) _).grown HG8.out (by have := HB.out.size; have := HB3.out.size; simp; omega) (fun q e => HO.out.base_le q e)
        case measure => simp [intOf]; omega
    · obtain rfl : k = m := by omega
      have hns := HNS.out
      rw [List.take_of_length_le (by rw [HM.out]; exact Nat.le_refl _)] at hns
      have HX := Lib.hid hns
      have HN2 := Lib.hid HO.out.len
      have HN3 := Lib.hid (numsO_len hns)
      clear hns
      go_wp2
      go_ret2
      refine ⟨A', n', c', decide (k = cnt), ?_, HB.out, fun e => (by rw [HX.out] at e; cases e), fun ns' e => ?_⟩
      · have h1 := HN2.out
        have h2 := HN3.out
        rw [HM.out] at h2
        have h3 : ((n' : Int) == (cnt : Int)) = decide (k = cnt) := by
          rw [Bool.eq_iff_iff]; simp; omega
        rw [← h3]
        rfl
      · rw [HX.out] at e
        cases e
        exact ⟨rfl, HO.out⟩

theorem extract_mid (s : ByteArray) (p k : Nat) : s.extract p k = ⟨((s.data.toList.take k).drop p).toArray⟩ := by
  apply ByteArray.ext
  apply Array.toList_inj.1
  have : (s.extract p k).data = s.data.extract p k := by simp
  rw [this, Array.toList_extract, List.extract_eq_take_drop, List.toList_toArray, List.drop_take]
theorem cut_hit (x : UInt8) (l : List UInt8) (p k : Nat) (hp : p ≤ k) (hk : k < l.length) (hx : l[k] = x) (hn : x ∉ (l.take k).drop p) : cutL x (l.drop p) = (l.take k).drop p :: cutL x (l.drop (k + 1)) := by
  have : l.drop p = (l.take k).drop p ++ x :: l.drop (k + 1) := by
    have h1 : l = l.take k ++ l[k] :: l.drop (k + 1) := by rw [List.getElem_cons_drop hk, List.take_append_drop]
    have h2 := congrArg (List.drop p) h1
    rw [List.drop_append_of_le_length (by rw [List.length_take]; omega), hx] at h2
    exact h2
  rw [this, cutL_of x _ _ hn]
theorem cut_miss (x : UInt8) (l : List UInt8) (p k : Nat) (hp : p ≤ k) (hk : k < l.length) (hx : l[k] ≠ x) (hn : x ∉ (l.take k).drop p) : x ∉ (l.take (k + 1)).drop p := by
  rw [List.take_succ_eq_append_getElem hk, List.drop_append_of_le_length (by rw [List.length_take]; omega)]
  intro h
  rcases List.mem_append.1 h with h | h
  · exact hn h
  · exact hx (List.mem_singleton.1 h).symm
set_option maxHeartbeats 8000000 in
theorem rcut_any (s : ByteArray) (x : UInt8) (w : World) (hs : s.size ≤ 1000000) :
    Calls Tryd.prog 18 #[.string s, .int .u8 x.toNat] w fun e w' => ∃ A' c', e = .returned (.slice A' (cutL x s.data.toList).length c') ∧ OwnL w' w.heap.size 9 1 (.slice A' (cutL x s.data.toList).length c') sF (cutL x s.data.toList) ∧ Below w.heap.size w w' := by
  have hlen : s.data.toList.length = s.size := rfl
  have HL := Lib.hid hlen
  have HH := Lib.hid (fun p k hp hk => cut_hit x s.data.toList p k hp hk)
  have HM := Lib.hid (fun p k hp hk => cut_miss x s.data.toList p k hp hk)
  have HCL := Lib.hid (cutL_length_le x s.data.toList)
  clear hlen
  go_enter Tryd.func18, Tryd.ntmps18
  go_wp2_with fail
  go_loopw [5, 6, 7] (fun out fr i wr => ∃ k p : Nat, p ≤ k ∧ k ≤ s.size ∧ i = .int .i64 k ∧ fr = .int .i64 p ∧ ∃ A' n' c' D, out = .slice A' n' c' ∧ Hid (OwnL wr w.heap.size 9 1 (.slice A' n' c') sF D) ∧ Hid (cutL x s.data.toList = D ++ cutL x (s.data.toList.drop p)) ∧ Hid (x ∉ (s.data.toList.take k).drop p) ∧ D.length ≤ k ∧ Hid (Below w.heap.size w wr)) (fun _ _ i _ => s.size - (intOf i).toNat)
  case atStart => exact ⟨0, 0, Nat.le_refl _, Nat.zero_le _, rfl, rfl, some ⟨w.heap.size, 0, none⟩, 0, 0, [], rfl, Lib.hid (OwnL.lit [] #[] (Nat.le_refl _) (by simp) sF_length rfl rfl rfl), Lib.hid rfl, Lib.hid (by simp), Nat.le_refl _, Lib.hid (bAlloc (Below.refl _ _) _)⟩
  case round =>
    obtain ⟨k, p, hp, hk, rfl, rfl, A', n', c', D, rfl, HO, HD, HX, hDl, HB⟩ := hrel
    by_cases hlt : k < s.size
    · have hkL : k < s.data.toList.length := hlt
      have hh := HH.out p k hp hkL
      have hm := HM.out p k hp hkL
      rw [bytes_get s k hlt] at hh hm
      have hDl2 : D.length ≤ 1000000 := by omega
      have hps : p ≤ s.size := by omega
      by_cases hx : s[k] = x
      · have HC := Lib.hid (hh hx HX.out)
        have gx : ((s[k].toNat : Int) == (x.toNat : Int)) = true := by rw [hx]; simp
        have HE := Lib.hid (extract_mid s p k)
        clear hh hm hx
        go_wp2_with (first
          | (at_builtin; refine wpList_app appS rfl (.tmp 20) (.tmp 25) rfl w.heap.size _ D [(s.data.toList.take k).drop p] (HO.out.alloc _) rfl _ _ 1 1 rfl rfl (rd_one _ _ _ _ (by rw [HE.out]; rfl)) (by simp; omega) (by have := HB.out.size; simp; omega) ?_
             intro A8 c8 n8 w8 hn8 ho8 hg8
             have HO8 := Lib.hid ho8
             have HG8 := Lib.hid hg8
             clear ho8 hg8))
        go_roundw
        case rel =>
          refine ⟨k + 1, k + 1, Nat.le_refl _, by omega, by go_num, by go_num, A8, n8, c8, D ++ [(s.data.toList.take k).drop p], rfl, HO8, Lib.hid (by rw [HD.out, HC.out]; simp), Lib.hid (by simp), by simp; omega, Lib.hid ?_⟩
          exact (bAlloc HB.out _).grown HG8.out (by have := HB.out.size; simp; omega) (fun q e => HO.out.base_le q e)
        case measure => simp [intOf]; omega
      · have HC := Lib.hid (hm hx HX.out)
        have gx : ((s[k].toNat : Int) == (x.toNat : Int)) = false := by rw [beq_eq_false_iff_ne]; intro e; exact hx (UInt8.toNat_inj.1 (by omega))
        clear hh hm hx
        go_wp2
        go_roundw
        case rel => exact ⟨k + 1, p, by omega, by omega, by go_num, rfl, A', n', c', D, rfl, HO, HD, HC, by omega, HB⟩
        case measure => simp [intOf]; omega
    · obtain rfl : k = s.size := by omega
      have HE := Lib.hid (extract_mid s p s.size)
      have hx := HX.out
      rw [List.take_of_length_le (by rw [HL.out]; exact Nat.le_refl _)] at hx
      have hd := HD.out
      rw [cutL_none x _ hx] at hd
      have HD2 := Lib.hid hd
      clear hx hd
      have hDl2 : D.length ≤ 1000000 := by omega
      go_wp2_with (first
          | (at_builtin; refine wpList_app appS rfl (.tmp 29) (.tmp 33) rfl w.heap.size _ D [(s.data.toList.take s.size).drop p] (HO.out.alloc _) rfl _ _ 1 1 rfl rfl (rd_one _ _ _ _ (by rw [HE.out]; rfl)) (by simp; omega) (by have := HB.out.size; simp; omega) ?_
             intro A8 c8 n8 w8 hn8 ho8 hg8
             have HO8 := Lib.hid ho8
             have HG8 := Lib.hid hg8
             clear ho8 hg8))
      go_ret
      have ho := HO8.out
      rw [List.take_of_length_le (by rw [HL.out]; exact Nat.le_refl _), ← HD2.out] at ho
      have hn := ho.len
      rw [hn] at ho ⊢
      refine ⟨A8, c8, rfl, ho, ?_⟩
      exact (bAlloc HB.out _).grown HG8.out (by have := HB.out.size; simp; omega) (fun q e => HO.out.base_le q e)
end Go.Proofs.YtlonefjbcooaaaaDoor
