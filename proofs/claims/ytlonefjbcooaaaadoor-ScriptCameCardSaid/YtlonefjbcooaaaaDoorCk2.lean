/-
  The walks beneath: R11a, EvByA, EvByR, Same, ROrd, EventLeaf, EventSearch, EventAdd, Aw11, EvBy, ScBy.
-/
import Derived.Deep.DeepCutAuto
import Derived.Deep.Cut
import Derived.Outline
import Derived.Deep.RegionLaw
import Derived.Test.YtlonefjbcooaaaaDoorCk1
import Derived.Test.YtlonefjbcooaaaaDoorMild
import Derived.Test.YtlonefjbcooaaaaDoorMildL
import Derived.Test.YtlonefjbcooaaaaDoorOpenInt
import Derived.Test.YtlonefjbcooaaaaDoorMix
import Derived.Test.YtlonefjbcooaaaaDoorScPt
import Derived.Test.YtlonefjbcooaaaaDoorScWb
namespace Go.Proofs.YtlonefjbcooaaaaDoor
open Go.RowKit
set_option maxRecDepth 100000
theorem blk_at {w : World} {g : Nat} {E : TypeId} {cs : Array Value} (h : g = w.heap.size) : Blk (w.alloc (.cells cs E)) g E cs := by subst h; exact Blk.new _ _ _
theorem bcl {W w1 : World} (hb : Below W.heap.size W w1) : (∀ b o, b < W.heap.size → w1.cell? ⟨b, o, none⟩ = W.cell? ⟨b, o, none⟩) ∧ (∀ b o, b < W.heap.size → w1.frozen? ⟨b, o, none⟩ = W.frozen? ⟨b, o, none⟩) :=
  ⟨fun b o h => hb.cell (p := ⟨b, o, none⟩) h, fun b o h => hb.frozen (p := ⟨b, o, none⟩) h⟩
set_option maxHeartbeats 1000000 in
theorem r11Key_any (k : Key4) (w : World) : Calls Tryd.prog 47 #[k.val] w fun e w' => e = .returned (.bool (keyOk k)) ∧ Below w.heap.size w w' := by
  unfold Key4.val
  go_enter Tryd.func47, Tryd.ntmps47
  go_wp2
  all_goals
    go_ret
    refine ⟨ret_bool ?_, (by repeat (first | exact Below.refl _ _ | (with_reducible assumption) | apply bAlloc | apply below_drewN | apply Below.drew))⟩
    unfold keyOk inB
    first
      | (simp [*]; done)
      | (simp [*]; omega)
set_option maxHeartbeats 2000000 in
theorem r11Right_any (x : Ev) (w : World) : Calls Tryd.prog 31 #[x.val] w fun e w' => e = .returned (.bool (evOk x)) ∧ Below w.heap.size w w' := by
  unfold Ev.val
  go_enter Tryd.func31, Tryd.ntmps31
  go_wp2_with fail
  refine (r11Key_any x.key _).mono ?_
  rintro e w1 ⟨rfl, hb1⟩
  have hbk := (Blk.new w 80 #[.int .i64 x.frame, .int .i64 x.emitter, .int .i64 x.kind, .int .i64 x.ord, .int .i64 x.asset, .int .i64 x.gain, .int .i64 x.pan, .int .i64 x.prio, .int .i64 x.len]).on hb1
  have c4 := hbk.cell 4
  have c5 := hbk.cell 5
  have c6 := hbk.cell 6
  have c7 := hbk.cell 7
  have c8 := hbk.cell 8
  simp only [List.getElem?_toArray, List.getElem?_cons_zero, List.getElem?_cons_succ] at c4 c5 c6 c7 c8
  have hbw := bTrans (bAlloc (Below.refl w.heap.size w) (.cells #[.int .i64 x.frame, .int .i64 x.emitter, .int .i64 x.kind, .int .i64 x.ord, .int .i64 x.asset, .int .i64 x.gain, .int .i64 x.pan, .int .i64 x.prio, .int .i64 x.len] 80)) hb1
  clear hbk hb1
  cases hk : keyOk x.key
  all_goals
    have HK := Lib.hid hk
    clear hk
    go_wp2
    all_goals
      go_ret
      refine ⟨ret_bool ?_, hbw⟩
      unfold evOk inB
      first
        | (simp [HK.out, *]; done)
        | (simp [HK.out, *]; omega)
/-- The numbers of a key, by place. -/
def Key4.at (k : Key4) (i : Nat) : Int := if i = 0 then k.frame else if i = 1 then k.emitter else if i = 2 then k.kind else k.ord
theorem cmpK_at (a b : Key4) (k : Nat) (hk : k < 4) (h : ∀ j, j < k → a.at j = b.at j) : (a.at k < b.at k → cmpK a b = -1) ∧ (b.at k < a.at k → cmpK a b = 1) := by
  have hlt : ∀ a b : Key4, (∀ j, j < k → a.at j = b.at j) → a.at k < b.at k → a.Lt b := fun a b h hk' => by
    have h4 : k = 0 ∨ k = 1 ∨ k = 2 ∨ k = 3 := by omega
    unfold Key4.Lt
    rcases h4 with rfl | rfl | rfl | rfl
    · have h0 : a.frame < b.frame := hk'
      omega
    · have h0 : a.frame = b.frame := h 0 (by decide)
      have h1 : a.emitter < b.emitter := hk'
      omega
    · have h0 : a.frame = b.frame := h 0 (by decide)
      have h1 : a.emitter = b.emitter := h 1 (by decide)
      have h2 : a.kind < b.kind := hk'
      omega
    · have h0 : a.frame = b.frame := h 0 (by decide)
      have h1 : a.emitter = b.emitter := h 1 (by decide)
      have h2 : a.kind = b.kind := h 2 (by decide)
      have h3 : a.ord < b.ord := hk'
      omega
  have hb := cmpK_bd a b
  refine ⟨fun q => ?_, fun q => ?_⟩
  · have := (cmpK_neg a b).2 (hlt a b h q)
    omega
  · have := (cmpK_pos a b).2 (hlt b a (fun j hj => (h j hj).symm) q)
    omega
theorem cmpK_all (a b : Key4) (h : ∀ j, j < 4 → a.at j = b.at j) : cmpK a b = 0 := by
  rw [cmpK_zero]
  cases a; cases b
  have h0 := h 0 (by decide)
  have h1 := h 1 (by decide)
  have h2 := h 2 (by decide)
  have h3 := h 3 (by decide)
  exact Key4.mk.injEq .. ▸ ⟨h0, h1, h2, h3⟩
end Go.Proofs.YtlonefjbcooaaaaDoor

namespace Go.Proofs.YtlonefjbcooaaaaDoor
open Go.RowKit
set_option maxRecDepth 100000
set_option linter.unusedSimpArgs false
theorem num_int (n : Int) (h0 : 0 ≤ n) (h1 : n < 18446744073709551616) (w : World) : Calls Tryd.prog 46 #[.int .u64 n] w fun e w' => e = .returned (.string ⟨(numB n.toNat).toArray⟩) ∧ Below w.heap.size w w' := by
  have h := num_any n.toNat (by omega) w
  rw [Int.toNat_of_nonneg h0] at h
  exact h
def six (e : Ev) : List Int := [e.frame, e.emitter, e.kind, e.ord, e.asset, e.gain]
def numsB (l : List Int) : List UInt8 := l.flatMap fun n => numB n.toNat
theorem numsB_snoc (l : List Int) (j : Nat) (h : j < l.length) : numsB (l.take (j + 1)) = numsB (l.take j) ++ numB l[j].toNat := by
  unfold numsB
  rw [List.take_succ_eq_append_getElem h, List.flatMap_append]
  simp
theorem numsB_len : ∀ (l : List Int), (∀ n ∈ l, n < 18446744073709551616) → (numsB l).length ≤ 10 * l.length
  | [], _ => by simp [numsB]
  | n :: l, h => by
    have h1 := numB_le (n := n.toNat) (by have := h n (by simp); omega)
    have h2 := numsB_len l (fun m hm => h m (by simp [hm]))
    unfold numsB at *
    rw [List.flatMap_cons, List.length_append, List.length_cons]
    omega
theorem evB_six (e : Ev) : evB e = numsB (six e) ++ (numB (zig e.pan) ++ (numB e.prio.toNat ++ numB e.len.toNat)) := by
  simp [evB, numsB, six]
theorem bytes_take (L : List Ev) (k : Nat) (hk : k < L.length) : (L.take (k + 1)).flatMap evB = (L.take k).flatMap evB ++ evB L[k] := by
  rw [List.take_succ_eq_append_getElem hk, List.flatMap_append]
  simp
theorem ordered_ok {L : List Ev} (h : orderedB L = true) : L.length ≤ 64 ∧ ∀ e ∈ L, evOk e = true := by
  unfold orderedB at h
  simp only [Bool.and_eq_true, decide_eq_true_eq, List.all_eq_true] at h
  exact ⟨h.1, h.2.1⟩
set_option maxHeartbeats 1000000 in
theorem ebytes_bad (A : Option Addr) (c : Nat) (L : List Ev) (hL : L.length ≤ 1000) (w : World) (hr : Rd w w.heap.size A (L.flatMap Ev.cells)) (hok : orderedB L = false) :
    Calls Tryd.prog 45 #[.slice A L.length c] w fun e w' => e = .returned (.tuple #[.string ⟨#[]⟩, .int .i64 1]) ∧ Below w.heap.size w w' := by
  have HO := Lib.hid (ordered_any A c L hL w hr)
  rw [hok] at HO
  clear hr hok
  go_enter Tryd.func45, Tryd.ntmps45
  go_wp2_with (go_at_call 59; refine HO.out.mono ?_; rintro e w1 ⟨rfl, hb1⟩)
  go_ret2
  exact ⟨rfl, hb1⟩
set_option maxHeartbeats 8000000 in
theorem ebytes_any (A : Option Addr) (c : Nat) (L : List Ev) (hL : L.length ≤ 1000) (w : World) (hr : Rd w w.heap.size A (L.flatMap Ev.cells)) (hok : orderedB L = true) :
    Calls Tryd.prog 45 #[.slice A L.length c] w fun e w' => e = .returned (.tuple #[.string ⟨(bytesB L).toArray⟩, .int .i64 0]) ∧ Below w.heap.size w w' := by
  have HO := Lib.hid (ordered_any A c L hL w hr)
  rw [hok] at HO
  obtain ⟨h64, hev⟩ := ordered_ok hok
  have HEV := Lib.hid hev
  have HR := Lib.hid hr
  have HLN := Lib.hid (num_int L.length (by omega) (by omega))
  have hnl := numB_le (n := L.length) (by omega)
  obtain ⟨n, hn⟩ : ∃ n, L.length = n := ⟨_, rfl⟩
  have HBY := Lib.hid (show bytesB L = numB L.length ++ L.flatMap evB from rfl)
  rw [hn] at HO HBY HLN hnl hL h64 ⊢
  have HN := Lib.hid hn
  rw [show ((n : Int)).toNat = n from rfl] at HLN
  clear hr hok hev hn
  go_enter Tryd.func45, Tryd.ntmps45
  go_wp2_with (first | (go_at_call 59; refine HO.out.mono ?_; rintro e w1 ⟨rfl, hb1⟩) | (go_at_call 46; refine (HLN.out _).mono ?_; rintro e w2 ⟨rfl, hb2⟩))
  have HB2 := Lib.hid (bTrans hb1 hb2)
  clear hb1 hb2
  go_loopw [4, 18] (fun s v wr => ∃ k : Nat, k ≤ n ∧ v = .int .i64 k ∧ s = .string ⟨(numB n ++ (L.take k).flatMap evB).toArray⟩ ∧ Hid (Below w.heap.size w wr)) (fun _ v _ => n - (intOf v).toNat)
  case atStart => exact ⟨0, Nat.zero_le _, rfl, by simp, HB2⟩
  case round =>
    clear HB2 HLN HO
    obtain ⟨k, hk, rfl, rfl, HB⟩ := hrel
    by_cases hlt : k < n
    · have hkL : k < L.length := by rw [HN.out]; exact hlt
      obtain ⟨b, off, rfl, hbl, x0, x1, x2, x3, x4, x5, x6, x7, x8⟩ := (HR.out.below HB.out (Nat.le_refl _)).ev hkL
      have HTK := Lib.hid (bytes_take L k hkL)
      have hpl := bytesB_len (L.take k) (fun e he => HEV.out e (List.mem_of_mem_take he))
      have hx0 := ok_pos (HEV.out _ (List.getElem_mem hkL))
      obtain ⟨x, hx⟩ : ∃ x, L[k] = x := ⟨_, rfl⟩
      rw [hx] at x0 x1 x2 x3 x4 x5 x6 x7 x8 HTK hx0
      obtain ⟨pre, hpre⟩ : ∃ pre, numB n ++ (L.take k).flatMap evB = pre := ⟨_, rfl⟩
      have hpre2 : pre.length ≤ 6000 := by
        rw [← hpre, List.length_append]
        rw [List.length_take] at hpl
        omega
      have HNX : Hid (numB n ++ (L.take (k + 1)).flatMap evB = pre ++ evB x) := Lib.hid (by rw [HTK.out, ← List.append_assoc, hpre])
      rw [hpre]
      clear hpl hpre hx HTK hnl
      go_upto_region 7 with fail
      obtain ⟨W, hW⟩ : ∃ W, W = wr.alloc (.cells #[.int .i64 x.frame, .int .i64 x.emitter, .int .i64 x.kind, .int .i64 x.ord, .int .i64 x.asset, .int .i64 x.gain, .int .i64 x.pan, .int .i64 x.prio, .int .i64 x.len] 80) := ⟨_, rfl⟩
      have hbk : Blk W wr.heap.size 80 #[.int .i64 x.frame, .int .i64 x.emitter, .int .i64 x.kind, .int .i64 x.ord, .int .i64 x.asset, .int .i64 x.gain, .int .i64 x.pan, .int .i64 x.prio, .int .i64 x.len] := by rw [hW]; exact Blk.new _ _ _
      have hbW : Below w.heap.size w W := by rw [hW]; exact bAlloc HB.out _
      rw [← hW]
      have HBK := Lib.hid hbk
      have HBW := Lib.hid hbW
      obtain ⟨e0, e1, e2, e3, e4, e5, e6, e7, e8⟩ := Blk.ev hbk
      have hlW := hbk.lt
      clear hW hbk hbW x0 x1 x2 x3 x4 x5 x6 x7 x8 HB
      go_upto_region 8 with fail
      obtain ⟨V, hV⟩ : ∃ V, V = W.alloc (.cells #[.int .i64 x.frame, .int .i64 x.emitter, .int .i64 x.kind, .int .i64 x.ord, .int .i64 x.asset, .int .i64 x.gain] 3) := ⟨_, rfl⟩
      have hrow : Blk V W.heap.size 3 #[.int .i64 x.frame, .int .i64 x.emitter, .int .i64 x.kind, .int .i64 x.ord, .int .i64 x.asset, .int .i64 x.gain] := by rw [hV]; exact Blk.new _ _ _
      have hbV : Below w.heap.size w V := by rw [hV]; exact bAlloc HBW.out _
      have hbkV : Blk V wr.heap.size 80 #[.int .i64 x.frame, .int .i64 x.emitter, .int .i64 x.kind, .int .i64 x.ord, .int .i64 x.asset, .int .i64 x.gain, .int .i64 x.pan, .int .i64 x.prio, .int .i64 x.len] := by rw [hV]; exact HBK.out.alloc _
      rw [← hV]
      have HSIX : Hid (∀ U, Below V.heap.size V U → ∀ j (hj : j < (six x).length), U.cell? ⟨W.heap.size, j, none⟩ = some (.int .i64 ((six x)[j]))) := Lib.hid (fun U hU j hj => by
        rw [(hrow.on hU).cell]
        simp only [six, List.length_cons, List.length_nil] at hj
        obtain rfl | rfl | rfl | rfl | rfl | rfl : j = 0 ∨ j = 1 ∨ j = 2 ∨ j = 3 ∨ j = 4 ∨ j = 5 := by omega
        all_goals rfl)
      have H6 : Hid (∀ j (hj : j < (six x).length), 0 ≤ (six x)[j] ∧ (six x)[j] ≤ 1073741824) := Lib.hid (fun j hj => by
        simp only [six, List.length_cons, List.length_nil] at hj
        obtain rfl | rfl | rfl | rfl | rfl | rfl : j = 0 ∨ j = 1 ∨ j = 2 ∨ j = 3 ∨ j = 4 ∨ j = 5 := by omega
        all_goals (simp only [six, List.getElem_cons_zero, List.getElem_cons_succ]; omega))
      have H6L : Hid (∀ j, (numsB ((six x).take j)).length ≤ 60) := Lib.hid (fun j => by
        have := numsB_len ((six x).take j) (fun n hn => by
          obtain ⟨i, hi, rfl⟩ := List.mem_iff_getElem.1 (List.mem_of_mem_take hn)
          have := H6.out i hi
          omega)
        rw [List.length_take] at this
        simp only [six, List.length_cons, List.length_nil] at this ⊢
        omega)
      have hVl := hrow.lt
      have HBV := Lib.hid hbV
      have HBKV := Lib.hid hbkV
      clear hV hrow hbV hbkV e0 e1 e2 e3 e4 e5 e6 e7 e8 HBK HBW
      go_loopw [4, 40] (fun s v wq => ∃ j : Nat, j ≤ 6 ∧ v = .int .i64 j ∧ s = .string ⟨(pre ++ numsB ((six x).take j)).toArray⟩ ∧ Hid (Below V.heap.size V wq)) (fun _ v _ => 6 - (intOf v).toNat)
      case atStart => exact ⟨0, Nat.zero_le _, rfl, by simp [numsB], Lib.hid (Below.refl _ _)⟩
      case round =>
        obtain ⟨j, hj, rfl, rfl, HQ⟩ := hrel
        by_cases hl6 : j < 6
        · have hj6 : j < (six x).length := hl6
          have c0 := HSIX.out wr HQ.out j hj6
          obtain ⟨p0, p1⟩ := H6.out j hj6
          have HSN := Lib.hid (numsB_snoc (six x) j hj6)
          have hnl := H6L.out j
          have hVq := Nat.lt_of_lt_of_le hVl HQ.out.size
          obtain ⟨y, hy⟩ : ∃ y, (six x)[j] = y := ⟨_, rfl⟩
          rw [hy] at c0 p0 p1 HSN
          have hyl := numB_le (n := y.toNat) (by omega)
          have HC := Lib.hid (fun U => num_int y p0 (by omega) U)
          obtain ⟨p, hp⟩ : ∃ p, pre ++ numsB ((six x).take j) = p := ⟨_, rfl⟩
          have hpl : p.length ≤ 6060 := by rw [← hp, List.length_append]; omega
          have HNX2 : Hid (pre ++ numsB ((six x).take (j + 1)) = p ++ numB y.toNat) := Lib.hid (by rw [HSN.out, ← List.append_assoc, hp])
          rw [hp]
          clear hy HSN hp hnl
          go_wp2_with (go_at_call 46; refine (HC.out _).mono ?_; rintro e w3 ⟨rfl, hb3⟩)
          go_roundw
          case rel => exact ⟨j + 1, by omega, by go_num, by rw [HNX2.out, strN_append], Lib.hid (bTrans HQ.out hb3)⟩
          case measure => simp [intOf]; omega
        · obtain rfl : j = 6 := by omega
          have hbq := HBKV.out.on HQ.out
          obtain ⟨e0, e1, e2, e3, e4, e5, e6, e7, e8⟩ := Blk.ev hbq
          have hlq := hbq.lt
          have hnl := H6L.out 6
          have HBQ := Lib.hid (bTrans HBV.out HQ.out)
          rw [show (six x).take 6 = six x from rfl] at hnl ⊢
          have HEX := Lib.hid (evB_six x)
          obtain ⟨s, hs⟩ : ∃ s, numsB (six x) = s := ⟨_, rfl⟩
          rw [hs] at hnl HEX ⊢
          have HS := Lib.hid (fun U => signed_any x.pan (by omega) (by omega) U)
          unfold strN at HS
          have HP := Lib.hid (fun U => num_int x.prio (by omega) (by omega) U)
          have HL := Lib.hid (fun U => num_int x.len (by omega) (by omega) U)
          have l1 := numB_le (n := zig x.pan) (by unfold zig; split <;> omega)
          have l2 := numB_le (n := x.prio.toNat) (by omega)
          have l3 := numB_le (n := x.len.toNat) (by omega)
          clear hs hbq H6L H6 HSIX HQ
          go_wp2_with fail
          refine wp_region_mild (by kernel_rfl) (by kernel_rfl) ?_
          repeat (go_big_quiet_step ((first | (go_at_call 60; exact mild_of (HS.out _)) | (go_at_call 46; (with_reducible exact mild_of (HP.out _))) | (go_at_call 46; exact mild_of (HL.out _)))))
          refine wpQuiet_nil ?_
          intro w1 hw'
          obtain ⟨⟨wq, k1⟩, hw''⟩ := hw'
          subst hw''
          go_wp2
          go_roundw
          case rel => exact ⟨k + 1, by omega, by go_num, by rw [HNX.out, HEX.out]; simp only [strN_append, List.append_assoc], Lib.hid (bTrans HBQ.out k1)⟩
          case measure => simp [intOf]; omega
    · obtain rfl : k = n := by omega
      have HF : Hid (numB k ++ (L.take k).flatMap evB = bytesB L) := Lib.hid (by rw [HBY.out, List.take_of_length_le (by rw [HN.out]; exact Nat.le_refl _)])
      rw [HF.out]
      go_wp2
      go_ret2
      exact ⟨rfl, HB.out⟩
end Go.Proofs.YtlonefjbcooaaaaDoor

namespace Go.Proofs.YtlonefjbcooaaaaDoor
open Go.RowKit
set_option maxRecDepth 100000
set_option linter.unusedSimpArgs false
theorem rnum_int (n : Int) (h0 : 0 ≤ n) (h1 : n < 18446744073709551616) (w : World) : Calls Tryd.prog 33 #[.int .u64 n] w fun e w' => e = .returned (.string ⟨(numB n.toNat).toArray⟩) ∧ Below w.heap.size w w' := by
  have h := rnum_any n.toNat (by omega) w
  rw [Int.toNat_of_nonneg h0] at h
  exact h
set_option maxHeartbeats 8000000 in
theorem rbytes_any (A : Option Addr) (c : Nat) (L : List Ev) (hL : L.length ≤ 1000) (w : World) (hr : Rd w w.heap.size A (L.flatMap Ev.cells)) (hok : orderedB L = true) :
    Calls Tryd.prog 32 #[.slice A L.length c] w fun e w' => e = .returned (.string ⟨(bytesB L).toArray⟩) ∧ Below w.heap.size w w' := by
  obtain ⟨h64, hev⟩ := ordered_ok hok
  have HEV := Lib.hid hev
  have HR := Lib.hid hr
  have HLN := Lib.hid (rnum_int L.length (by omega) (by omega))
  have hnl := numB_le (n := L.length) (by omega)
  obtain ⟨n, hn⟩ : ∃ n, L.length = n := ⟨_, rfl⟩
  have HBY := Lib.hid (show bytesB L = numB L.length ++ L.flatMap evB from rfl)
  rw [hn] at HBY HLN hnl hL h64 ⊢
  have HN := Lib.hid hn
  rw [show ((n : Int)).toNat = n from rfl] at HLN
  clear hr hok hev hn
  go_enter Tryd.func32, Tryd.ntmps32
  go_wp2_with (first | (go_at_call 33; refine (HLN.out _).mono ?_; rintro e w2 ⟨rfl, hb2⟩))
  have HB2 := Lib.hid hb2
  clear hb2
  go_loopw [3, 4] (fun s v wr => ∃ k : Nat, k ≤ n ∧ v = .int .i64 k ∧ s = .string ⟨(numB n ++ (L.take k).flatMap evB).toArray⟩ ∧ Hid (Below w.heap.size w wr)) (fun _ v _ => n - (intOf v).toNat)
  case atStart => exact ⟨0, Nat.zero_le _, rfl, by simp, HB2⟩
  case round =>
    clear HB2 HLN
    obtain ⟨k, hk, rfl, rfl, HB⟩ := hrel
    by_cases hlt : k < n
    · have hkL : k < L.length := by rw [HN.out]; exact hlt
      obtain ⟨b, off, rfl, hbl, x0, x1, x2, x3, x4, x5, x6, x7, x8⟩ := (HR.out.below HB.out (Nat.le_refl _)).ev hkL
      have HTK := Lib.hid (bytes_take L k hkL)
      have hpl := bytesB_len (L.take k) (fun e he => HEV.out e (List.mem_of_mem_take he))
      have hx0 := ok_pos (HEV.out _ (List.getElem_mem hkL))
      obtain ⟨x, hx⟩ : ∃ x, L[k] = x := ⟨_, rfl⟩
      rw [hx] at x0 x1 x2 x3 x4 x5 x6 x7 x8 HTK hx0
      obtain ⟨pre, hpre⟩ : ∃ pre, numB n ++ (L.take k).flatMap evB = pre := ⟨_, rfl⟩
      have hpre2 : pre.length ≤ 6000 := by
        rw [← hpre, List.length_append]
        rw [List.length_take] at hpl
        omega
      have HNX : Hid (numB n ++ (L.take (k + 1)).flatMap evB = pre ++ evB x) := Lib.hid (by rw [HTK.out, ← List.append_assoc, hpre])
      rw [hpre]
      clear hpl hpre hx HTK hnl
      go_upto_region 6 with fail
      obtain ⟨W, hW⟩ : ∃ W, W = wr.alloc (.cells #[.int .i64 x.frame, .int .i64 x.emitter, .int .i64 x.kind, .int .i64 x.ord, .int .i64 x.asset, .int .i64 x.gain, .int .i64 x.pan, .int .i64 x.prio, .int .i64 x.len] 80) := ⟨_, rfl⟩
      have hbk : Blk W wr.heap.size 80 #[.int .i64 x.frame, .int .i64 x.emitter, .int .i64 x.kind, .int .i64 x.ord, .int .i64 x.asset, .int .i64 x.gain, .int .i64 x.pan, .int .i64 x.prio, .int .i64 x.len] := by rw [hW]; exact Blk.new _ _ _
      have hbW : Below w.heap.size w W := by rw [hW]; exact bAlloc HB.out _
      rw [← hW]
      have HBK := Lib.hid hbk
      have HBW := Lib.hid hbW
      obtain ⟨e0, e1, e2, e3, e4, e5, e6, e7, e8⟩ := Blk.ev hbk
      have hlW := hbk.lt
      have H0 := Lib.hid (fun U => rnum_int x.frame (by omega) (by omega) U)
      have H1 := Lib.hid (fun U => rnum_int x.emitter (by omega) (by omega) U)
      have H2 := Lib.hid (fun U => rnum_int x.kind (by omega) (by omega) U)
      have H3 := Lib.hid (fun U => rnum_int x.ord (by omega) (by omega) U)
      have H4 := Lib.hid (fun U => rnum_int x.asset (by omega) (by omega) U)
      have H5 := Lib.hid (fun U => rnum_int x.gain (by omega) (by omega) U)
      have H6 := Lib.hid (fun U => rsigned_any x.pan (by omega) (by omega) U)
      have H7 := Lib.hid (fun U => rnum_int x.prio (by omega) (by omega) U)
      have H8 := Lib.hid (fun U => rnum_int x.len (by omega) (by omega) U)
      unfold strN at H6
      have l0 := numB_le (n := x.frame.toNat) (by omega)
      have l1 := numB_le (n := x.emitter.toNat) (by omega)
      have l2 := numB_le (n := x.kind.toNat) (by omega)
      have l3 := numB_le (n := x.ord.toNat) (by omega)
      have l4 := numB_le (n := x.asset.toNat) (by omega)
      have l5 := numB_le (n := x.gain.toNat) (by omega)
      have l6 := numB_le (n := zig x.pan) (by unfold zig; split <;> omega)
      have l7 := numB_le (n := x.prio.toNat) (by omega)
      have l8 := numB_le (n := x.len.toNat) (by omega)
      clear hW hbk hbW x0 x1 x2 x3 x4 x5 x6 x7 x8 HB
      refine wp_region_mild (by kernel_rfl) (by kernel_rfl) ?_
      repeat (go_big_quiet_step ((go_at_call 33; first | (with_reducible exact mild_of (H0.out _)) | (with_reducible exact mild_of (H1.out _)) | (with_reducible exact mild_of (H2.out _)) | (with_reducible exact mild_of (H3.out _)))))
      refine wpQuiet_nil ?_
      intro w1 hw'
      obtain ⟨⟨wq, k1⟩, hw''⟩ := hw'
      subst hw''
      obtain ⟨k1c, k1f⟩ := bcl k1
      have k1z := k1.size
      have hl1 := Nat.lt_of_lt_of_le hlW k1z
      go_wp2_with fail
      refine wp_region_mild (by kernel_rfl) (by kernel_rfl) ?_
      repeat (go_big_quiet_step ((first | (go_at_call 48; exact mild_of (H6.out _)) | (go_at_call 33; first | (with_reducible exact mild_of (H4.out _)) | (with_reducible exact mild_of (H5.out _)) | (with_reducible exact mild_of (H7.out _)) | (with_reducible exact mild_of (H8.out _))))))
      refine wpQuiet_nil ?_
      intro w2 hw'
      obtain ⟨⟨wq, k2⟩, hw''⟩ := hw'
      subst hw''
      go_wp2
      go_roundw
      case rel => exact ⟨k + 1, by omega, by go_num, by rw [HNX.out]; unfold evB; simp only [strN_append, List.append_assoc], Lib.hid (bTrans (bTrans HBW.out k1) k2)⟩
      case measure => simp [intOf]; omega
    · obtain rfl : k = n := by omega
      have HF : Hid (numB k ++ (L.take k).flatMap evB = bytesB L) := Lib.hid (by rw [HBY.out, List.take_of_length_le (by rw [HN.out]; exact Nat.le_refl _)])
      rw [HF.out]
      go_wp2
      go_ret
      exact ⟨rfl, HB.out⟩
end Go.Proofs.YtlonefjbcooaaaaDoor

namespace Go.Proofs.YtlonefjbcooaaaaDoor
open Go.RowKit
set_option maxRecDepth 100000
set_option linter.unusedSimpArgs false
def evI (e : Ev) : List Int := [e.frame, e.emitter, e.kind, e.ord, e.asset, e.gain, e.pan, e.prio, e.len]
def k9 : List IntKind := [.i64, .i64, .i64, .i64, .i64, .i64, .i64, .i64, .i64]
theorem ev_ivals (e : Ev) : e.cells = ivals k9 (evI e) := rfl
theorem evI_inj {a b : Ev} (h : evI a = evI b) : a = b := by
  cases a; cases b
  simp only [evI, List.cons.injEq, and_true] at h
  simp [h]
instance : DecidableEq Ev := fun a b => if h : evI a = evI b then isTrue (evI_inj h) else isFalse (fun e => h (by rw [e]))
theorem ev_kinds : kindsOf Tryd.prog 100 80 = some k9 := by kernel_rfl
theorem evI_dec (a b : Ev) : decide (evI a = evI b) = decide (a = b) := by
  by_cases h : a = b
  · subst h; simp
  · rw [decide_eq_false h, decide_eq_false (fun e => h (evI_inj e))]
theorem ev_valOf (cs : List Value) : valOf Tryd.prog 80 cs = .agg cs.toArray := by unfold valOf; rw [Tryd.underlying80]
theorem ev_neq (a b : Ev) (w : World) : (binOp .neq 80 (.agg a.cells.toArray) (.agg b.cells.toArray)).run Tryd.prog w = .ok (.bool (!decide (a = b))) w := by
  have := neq_ints ev_kinds ev_valOf (evI a) (evI b) rfl rfl (ev_ivals a) (ev_ivals b) w
  rwa [evI_dec] at this
theorem ev_eql (a b : Ev) (w : World) : (binOp .eql 80 (.agg a.cells.toArray) (.agg b.cells.toArray)).run Tryd.prog w = .ok (.bool (decide (a = b))) w := by
  have := eql_ints ev_kinds ev_valOf (evI a) (evI b) rfl rfl (ev_ivals a) (ev_ivals b) w
  rwa [evI_dec] at this
section
variable {P : Program} {a : Act} {o : Oper}
theorem runs_neq {T T' : TypeId} {x y : Operand} {xs ys : Array Value} {v : Value} (ho : o.op = .binOp .neq T x y T') (hx : a.eval x = .agg xs) (hy : a.eval y = .agg ys) (hg : P.eqGuardType P.depth T = false) (hr : ∀ W, (binOp .neq T (.agg xs) (.agg ys)).run P W = .ok v W) (W : World) : RunsTo P o a W v := by
  unfold RunsTo execOp
  simp only [ho, hx, hy, Sem.run_bind, run_eqGuard_agg W .neq T x y xs ys hg, Result.andThen_ok, hr, Sem.run_pure]
theorem runs_eql {T T' : TypeId} {x y : Operand} {xs ys : Array Value} {v : Value} (ho : o.op = .binOp .eql T x y T') (hx : a.eval x = .agg xs) (hy : a.eval y = .agg ys) (hg : P.eqGuardType P.depth T = false) (hr : ∀ W, (binOp .eql T (.agg xs) (.agg ys)).run P W = .ok v W) (W : World) : RunsTo P o a W v := by
  unfold RunsTo execOp
  simp only [ho, hx, hy, Sem.run_bind, run_eqGuard_agg W .eql T x y xs ys hg, Result.andThen_ok, hr, Sem.run_pure]
theorem mix_run {ops : Array Oper} {w : World} {kd : Nat → Kd} {sp : Nat → Told} {E : Act → (World → Prop) → Prop} {rest : List Oper} {k : Nat} {D : World → Prop} (v : Value) (hw : Region.wanted o (yielded ops a.tmps) = true) (hk : kd k = .pure) (hr : ∀ W, RunsTo P o a W v)
    (h : wpMix P ops w kd sp E rest (k + 1) (a.put o.dst v) D) : wpMix P ops w kd sp E (o :: rest) k a D := by
  unfold wpMix mStep
  rw [if_pos hw, hk]
  exact ⟨v, hr, h⟩
/-- A value known, at the list of a plain region's operations; guarded or not. -/
theorem wpList_runs {ops : Array Oper} {rest : List Oper} {w : World} {Q : Exit → Act → World → Prop} (v : Value) (hw : Region.wanted o (yielded ops a.tmps) = true) (hr : RunsTo P o a w v) (h : wpList P ops Q rest (a.put o.dst v) w) : wpList P ops Q (o :: rest) a w :=
  wpList_step fun K hK => by
    simp only [hw, if_true]
    unfold Oper.wp
    unfold RunsTo at hr
    rw [hr]
    exact hK _ _ h
end
theorem Rd.evr {w : World} {B : Nat} {A : Option Addr} {l : List Ev} (h : Rd w B A (l.flatMap Ev.cells)) {k : Nat} (hk : k < l.length) :
    ∃ b off, A = some ⟨b, off, none⟩ ∧ b < B ∧ w.rangeAt b (off + k * 9) l[k].cells := by
  obtain ⟨b, off, hA, hb, hat⟩ := h.at_ Ev.cells_length (by omega) hk
  exact ⟨b, off, hA, hb, hat⟩
end Go.Proofs.YtlonefjbcooaaaaDoor

namespace Go.Proofs.YtlonefjbcooaaaaDoor
open Go.RowKit
set_option maxRecDepth 100000
set_option linter.unusedSimpArgs false
def bodyB (L : List Ev) : Bool := L.all evOk && risingF key0 (L.map Ev.key)
theorem lastF_take (L : List Ev) (k : Nat) (hk : k < L.length) : lastF key0 ((L.take (k + 1)).map Ev.key) = L[k].key := by
  rw [List.take_succ_eq_append_getElem hk, List.map_append]
  exact lastF_snoc _ _ _
theorem key0_lt {x : Key4} (h : keyOk x = true) : cmpK key0 x < 0 := by
  rw [cmpK_neg]
  left
  unfold keyOk at h
  simp only [Bool.and_eq_true, inB, decide_eq_true_eq] at h
  show (-1 : Int) < x.frame
  omega
theorem evOk_key {x : Ev} (h : evOk x = true) : keyOk x.key = true := by
  unfold evOk at h
  simp only [Bool.and_eq_true] at h
  exact h.1.1.1.1.1
theorem bodyB_bad (L : List Ev) (k : Nat) (hk : k < L.length) (h : evOk L[k] = false) : bodyB L = false := by
  unfold bodyB
  have : L.all evOk = false := by
    rw [← Bool.not_eq_true, List.all_eq_true]
    intro h'
    have := h' L[k] (List.getElem_mem hk)
    rw [h] at this
    cases this
  rw [this]; rfl
theorem bodyB_first (L : List Ev) (hk : 0 < L.length) (h : evOk L[0] = true) : bodyB (L.take 1) = true := by
  unfold bodyB
  rw [List.take_succ_eq_append_getElem hk]
  simp only [List.take_zero, List.nil_append, List.all_cons, List.all_nil, h, Bool.and_true, List.map_cons, List.map_nil, Bool.true_and]
  unfold risingF
  rw [evOk_key h, decide_eq_true (key0_lt (evOk_key h))]
  rfl
theorem bodyB_next (L : List Ev) (k : Nat) (hk : k + 1 < L.length) (hp : bodyB (L.take (k + 1)) = true) (h : evOk L[k + 1] = true) : bodyB (L.take (k + 2)) = decide (cmpK L[k].key L[k + 1].key < 0) := by
  unfold bodyB at hp ⊢
  rw [Bool.and_eq_true] at hp
  rw [List.take_succ_eq_append_getElem hk, List.all_append, List.map_append, hp.1]
  show (true && (evOk L[k + 1] && true) && risingF key0 ((L.take (k + 1)).map Ev.key ++ [L[k + 1].key])) = _
  rw [risingF_snoc, hp.2, lastF_take L k (by omega), h, evOk_key h]
  simp
theorem bodyB_take (L : List Ev) (k : Nat) (h : bodyB (L.take k) = false) : bodyB L = false := by
  unfold bodyB at h ⊢
  rw [Bool.and_eq_false_iff] at h ⊢
  rcases h with h | h
  · left
    rw [← Bool.not_eq_true, List.all_eq_true] at h ⊢
    exact fun h' => h fun x hx => h' x (List.mem_of_mem_take hx)
  · right
    rw [List.map_take] at h
    exact risingF_take _ _ _ h
end Go.Proofs.YtlonefjbcooaaaaDoor

namespace Go.Proofs.YtlonefjbcooaaaaDoor
open Go.RowKit
end Go.Proofs.YtlonefjbcooaaaaDoor

namespace Go.Proofs.YtlonefjbcooaaaaDoor
open Go.RowKit

def lbK (L : List Ev) (k : Key4) : Nat := (L.takeWhile fun x => decide (cmpK x.key k < 0)).length
theorem lbK_le (L : List Ev) (k : Key4) : lbK L k ≤ L.length := by
  unfold lbK; exact List.Sublist.length_le (List.takeWhile_sublist _)
theorem lb_iff (k : Key4) : ∀ (L : List Ev), SortedE L → ∀ j (h : j < L.length), (j < lbK L k ↔ cmpK L[j].key k < 0)
  | [], _, j, h => by simp at h
  | x :: L, hs, j, h => by
    unfold SortedE at hs
    rw [List.pairwise_cons] at hs
    unfold lbK
    by_cases hx : cmpK x.key k < 0
    · rw [List.takeWhile_cons_of_pos (by simpa using hx)]
      cases j with
      | zero => simpa using hx
      | succ j =>
        have ih := lb_iff k L hs.2 j (by simpa using h)
        unfold lbK at ih
        simp only [List.length_cons, Nat.add_lt_add_iff_right, List.getElem_cons_succ]
        exact ih
    · rw [List.takeWhile_cons_of_neg (by simpa using hx)]
      cases j with
      | zero => simpa using hx
      | succ j =>
        simp only [List.length_nil, Nat.not_lt_zero, List.getElem_cons_succ, false_iff]
        intro hc
        have hj : j < L.length := by simpa using h
        have h1 := hs.1 L[j] (List.getElem_mem hj)
        rw [cmpK_neg] at hc hx
        exact hx (h1.trans hc)

def foundK (L : List Ev) (k : Key4) : Bool := (L[lbK L k]?).any fun x => cmpK x.key k == 0

/-- The event that is found, or none's. -/
def zeroEv : Ev := ⟨0, 0, 0, 0, 0, 0, 0, 0, 0⟩
def findE (L : List Ev) (k : Key4) : Ev := if foundK L k then (L[lbK L k]?).getD zeroEv else zeroEv

end Go.Proofs.YtlonefjbcooaaaaDoor

namespace Go.Proofs.YtlonefjbcooaaaaDoor
open Go.RowKit

theorem ev_oneCell (x : Ev) : ∀ u ∈ x.cells, u.oneCell' = true := by
  intro u hu
  simp only [Ev.cells, List.mem_cons, List.not_mem_nil, or_false] at hu
  rcases hu with rfl | rfl | rfl | rfl | rfl | rfl | rfl | rfl | rfl <;> rfl

/-- What is added: of the page's frame, the how-many-th. -/
def Ev.at_ (x : Ev) (F o : Int) : Ev := ⟨F, x.emitter, x.kind, o, x.asset, x.gain, x.pan, x.prio, x.len⟩

end Go.Proofs.YtlonefjbcooaaaaDoor

namespace Go.Proofs.YtlonefjbcooaaaaDoor
open Go.RowKit
set_option maxRecDepth 100000

def x11 : Ev := ⟨0, 1, 1, 0, 0, 0, 0, 0, 0⟩
theorem x11_sorted : SortedE [x11.at_ 7 (0 : Nat)] := by simp [SortedE]

theorem x11_full : ∀ s : Nat, s < 1 → foundK [x11.at_ 7 (0 : Nat)] (x11.at_ 7 s).key = true := by
  intro s hs
  obtain rfl : s = 0 := by omega
  decide +kernel
theorem x11_key0 : (x11.at_ 7 (0 : Nat)).key.val = .agg #[.int .i64 7, .int .i64 1, .int .i64 1, .int .i64 0] := rfl
theorem x11_key1 : (x11.at_ 7 (1 : Nat)).key.val = .agg #[.int .i64 7, .int .i64 1, .int .i64 1, .int .i64 1] := rfl
theorem OwnL.caps {α : Type} {w : World} {base : Nat} {E : TypeId} {m : Nat} {f : α → List Value} {l : List α} {g n c : Nat} (h : OwnL w base E m (.slice (some ⟨g, 0, none⟩) n c) f l) : n ≤ c ∧ c ≤ 9223372036854775807 := by
  have hl := h.len
  obtain ⟨_, h | ⟨g', cap, cur, he, _, _, h1, h2, _⟩⟩ := h
  · exact absurd h.1 (by simp)
  · cases he
    have hml : Go.maxLen = 9223372036854775807 := rfl
    omega

end Go.Proofs.YtlonefjbcooaaaaDoor

namespace Go.Proofs.YtlonefjbcooaaaaDoor
open Go.RowKit
set_option maxRecDepth 100000
set_option linter.unusedSimpArgs false
/-- The answer of Bytes, whatever the list. -/
theorem bytes_all (A : Option Addr) (c : Nat) (L : List Ev) (hL : L.length ≤ 1000) (w : World) (hr : Rd w w.heap.size A (L.flatMap Ev.cells)) :
    Calls Tryd.prog 45 #[.slice A L.length c] w fun e w' => e = .returned (.tuple #[.string ⟨(if orderedB L = true then bytesB L else []).toArray⟩, .int .i64 (if orderedB L = true then 0 else 1)]) ∧ Below w.heap.size w w' := by
  cases h : orderedB L
  · exact ebytes_bad A c L hL w hr h
  · exact ebytes_any A c L hL w hr h
end Go.Proofs.YtlonefjbcooaaaaDoor

namespace Go.Proofs.YtlonefjbcooaaaaDoor
open Go.RowKit
set_option maxRecDepth 100000
set_option linter.unusedSimpArgs false
/-- A command, as it came in. -/
structure Cs where
  kind : Int
  ev : Ev
  late : Int
  played : Bool
def Cs.cells (c : Cs) : List Value := .int .i64 c.kind :: (c.ev.cells ++ [.int .i64 c.late, .bool c.played])
theorem Cs.cells_length (c : Cs) : c.cells.length = 12 := rfl
def kB (c : Cs) : List UInt8 := [UInt8.ofNat (c.kind % 256).toNat]
def eB (c : Cs) : List UInt8 := if evOk c.ev then bytesB [c.ev] else []
def lB (c : Cs) : List UInt8 := numB (c.late % 18446744073709551616).toNat
def pB (c : Cs) : List UInt8 := [if c.played then 1 else 0]
def csB (c : Cs) : List UInt8 := kB c ++ (eB c ++ (lB c ++ pB c))
theorem ordered_one (e : Ev) : orderedB [e] = evOk e := by
  cases h : evOk e with
  | false => simp [orderedB, h]
  | true =>
    have hk : keyOk e.key = true := by
      have h2 := h
      unfold evOk at h2
      simp only [Bool.and_eq_true] at h2
      exact h2.1.1.1.1.1
    simp [orderedB, risingF, h, hk, key0_lt hk]
theorem eB_len (c : Cs) : (eB c).length ≤ 100 := by
  unfold eB
  split
  · rename_i h
    have := evB_len h
    have h1 : (numB 1).length ≤ 10 := numB_le (by decide)
    simp only [bytesB, List.length_append, List.flatMap_cons, List.flatMap_nil, List.append_nil, List.length_cons, List.length_nil]
    simp at h1 ⊢
    omega
  · simp
theorem lB_len (c : Cs) : (lB c).length ≤ 10 := numB_le (by omega)
theorem csB_len (c : Cs) : (csB c).length ≤ 112 := by
  have := eB_len c
  have := lB_len c
  simp [csB, kB, pB]
  omega
theorem csL_len : ∀ L : List Cs, (L.flatMap csB).length ≤ 112 * L.length
  | [] => by simp
  | c :: r => by
    have := csB_len c
    have := csL_len r
    rw [List.flatMap_cons, List.length_append, List.length_cons]
    omega
theorem csL_take (L : List Cs) (k : Nat) (h : k < L.length) : (L.take (k + 1)).flatMap csB = (L.take k).flatMap csB ++ csB L[k] := by
  rw [List.take_succ_eq_append_getElem h, List.flatMap_append]
  simp only [List.flatMap_cons, List.flatMap_nil, List.append_nil]
theorem isB_lt {T e : TypeId} {B b : Nat} {bs : List Value} {w : World} (h : Lib.IsBuilder T e B b bs w) : b < w.heap.size := by
  have key : ∀ p, Lib.BuilderAt T e B b p bs w → b < w.heap.size := by
    rintro p ⟨_, v, h2, _⟩
    rcases Nat.lt_or_ge b w.heap.size with h | h
    · exact h
    · rw [Array.getElem?_eq_none h] at h2; cases h2
  rcases h with h | h
  · exact key _ h
  · exact key _ h
theorem infoE : ∃ i z, Tryd.prog.info? 80 = some i ∧ i.zero = some z ∧ i.size = 9 ∧ i.bytes ≤ 140 ∧ z.cells.size = 9 ∧ 0 < 9 := by
  obtain ⟨i, h1, h2⟩ := Option.map_eq_some_iff.1 Tryd.infoEv
  simp only [Prod.mk.injEq] at h2
  exact ⟨i, _, h1, h2.1, h2.2.1, by omega, rfl, by decide⟩
theorem appE : AppT 85 80 9 Ev.cells := ⟨Tryd.underlying85, infoE, Ev.cells_length, fun e u hu => by
  simp only [Ev.cells, List.mem_cons, List.not_mem_nil, or_false] at hu
  rcases hu with rfl | rfl | rfl | rfl | rfl | rfl | rfl | rfl | rfl <;> rfl⟩
theorem cmdInfo : (Tryd.prog.info? 82).map (·.size) = some 12 := by kernel_rfl
theorem byteCells_k (c : Cs) : Lib.byteCells (kB c) = [.int .u8 (c.kind % 256)] := by
  have h : (UInt8.ofNat (c.kind % 256).toNat).toNat = (c.kind % 256).toNat := by rw [UInt8.toNat_ofNat', Nat.mod_eq_of_lt (by omega)]
  simp only [kB, Lib.byteCells, List.map_cons, List.map_nil, h]
  congr 2
  omega
theorem byteCells_p (c : Cs) : Lib.byteCells (pB c) = [.int .u8 (if c.played then 1 else 0)] := by
  unfold pB
  cases c.played <;> rfl
set_option maxHeartbeats 8000000 in
theorem bytes_any (A : Option Addr) (c : Nat) (L : List Cs) (w : World) (hn : L.length ≤ 1000) (hr : Rd w w.heap.size A (L.flatMap Cs.cells)) :
    Calls Tryd.prog 30 #[.slice A L.length c] w fun e w' => e = .returned (.string ⟨(L.flatMap csB).toArray⟩) ∧ Below w.heap.size w w' := by
  have HR := Lib.hid hr
  have HTK := Lib.hid (fun k hk => csL_take L k hk)
  have HLN := Lib.hid (fun k => csL_len (L.take k))
  obtain ⟨m, hm⟩ : ∃ m, L.length = m := ⟨_, rfl⟩
  have HM := Lib.hid hm
  rw [hm] at hn ⊢
  clear hr hm
  go_enter Tryd.func30, Tryd.ntmps30
  go_upto_region 2 with fail
  refine named1 (F := fun W => Code.wp _ _ _ _ W) ?_
  intro w1 k1 hb1 hz1
  have HBU1 : Hid (Lib.IsBuilder 63 5 w.heap.size w.heap.size (Lib.byteCells ((L.take 0).flatMap csB)) w1) := Lib.hid (.inl ⟨Nat.le_refl _, .slice none 0 0, k1, World.ownsRow_nil _ _ _ _, by simp [Value.ownBlock]⟩)
  have HB1 := Lib.hid hb1
  clear k1 hb1 hz1
  go_wp2_with fail
  go_loopw [11] (fun i wr => ∃ j : Nat, j ≤ m ∧ i = .int .i64 j ∧ Hid (Lib.IsBuilder 63 5 w.heap.size w.heap.size (Lib.byteCells ((L.take j).flatMap csB)) wr) ∧ Hid (Below w.heap.size w wr)) (fun i _ => m - (intOf i).toNat)
  case atStart => exact ⟨0, Nat.zero_le _, rfl, HBU1, HB1⟩
  case round =>
    clear HBU1 HB1
    obtain ⟨j, hj, rfl, HBU, HB⟩ := hrel
    have hbl := HLN.out j
    rw [List.length_take, HM.out] at hbl
    by_cases hlt : j < m
    · have hjL : j < L.length := by rw [HM.out]; exact hlt
      obtain ⟨b, off, rfl, hb, hat⟩ := (HR.out.below HB.out (Nat.le_refl _)).at_ Cs.cells_length (by decide) hjL
      have htk := HTK.out j hjL
      obtain ⟨x, hx⟩ : ∃ x, L[j] = x := ⟨_, rfl⟩
      rw [hx] at hat htk
      have HRG : Hid (wr.rangeAt b (off + j * 12) x.cells) := Lib.hid hat
      have HTK1 := Lib.hid htk
      have h12 : x.cells.length = 12 := rfl
      have h11 : x.cells.toArray.all (·.oneCell') = true := by simp [Cs.cells, Ev.cells, Value.oneCell']
      have hbb : b < wr.heap.size := Nat.lt_of_lt_of_le hb HB.out.size
      have hwr := isB_lt HBU.out
      have e0 : (0 : Int) ≤ (j : Int) := Int.natCast_nonneg _
      have e1 : (j : Int) < (m : Int) := by omega
      obtain ⟨P, hP⟩ : ∃ P, (L.take j).flatMap csB = P := ⟨_, rfl⟩
      rw [hP] at HBU HTK1 hbl
      obtain ⟨xc, hxc⟩ : ∃ xc, x.cells = xc := ⟨_, rfl⟩
      rw [hxc] at HRG h12 h11
      have hxa : xc.toArray.size = 12 := by rw [List.size_toArray]; exact h12
      have HXC := Lib.hid hxc
      clear hat htk hx hP hxc
      go_upto_region 5 with (first
        | (refine wpList_load_mid rfl 82 (.tmp 13) rfl b (off + j * 12) rfl xc _ HRG.out Tryd.underlying82 rfl (by rw [h12]; exact cmdInfo) ?_)
        | (refine wpList_store_mid rfl 82 (.tmp 5) (.tmp 14) rfl wr.heap.size 0 xc.toArray rfl rfl (there_new _ _ _ (by rw [hxa]; rfl)) (by rw [hxa]; exact cmdInfo) h11 ?_
           refine named_put (F := fun W => wpList _ _ _ _ _ W) (by rw [Array.length_toList, hxa]; rfl) ?_
           intro w2 k2 hb2 hz2
           rw [Array.toArray_toList] at k2
           have HBr2 := Lib.hid hb2
           have K2 := Lib.hid k2
           have hl2 := k2.lt
           clear k2 hb2 hz2))
      have HB2 := Lib.hid (bTrans HB.out HBr2.out)
      have HBU2 := Lib.hid (isB_below HBU.out HBr2.out)
      have hK2 := K2.out
      rw [← HXC.out] at hK2
      have c0 := hK2.cell 0
      simp only [Cs.cells, List.getElem?_toArray, List.getElem?_cons_zero] at c0
      have hz2 := HB2.out.size
      clear HBr2 HBU HB HRG hK2
      go_upto_region 6 with (first
        | (go_at_call 44; refine (writeB_any w.heap.size w.heap.size _ _ _ HBU2.out (by rw [Lib.byteCells_length]; omega) hz2).mono ?_
           rintro e w3 ⟨rfl, hb3, hbl3, hkp3⟩
           have HBU3 : Hid (Lib.IsBuilder 63 5 w.heap.size w.heap.size (Lib.byteCells (P ++ kB x)) w3) := Lib.hid (.inr (by rw [Lib.byteCells_append, byteCells_k]; exact hb3))
           have HB3 := Lib.hid (HB2.out.trans hbl3)
           have K3 : Hid (Blk w3 wr.heap.size 82 xc.toArray) := Lib.hid ((hkp3 wr.heap.size _ _ _ K2.out (by decide) (by omega)).trans K2.out)
           clear hb3 hbl3 hkp3))
      have hre : w3.rangeAt wr.heap.size 1 x.ev.cells := fun i v hv => by
        have h1 := K3.out.cell (1 + i)
        rw [h1, ← HXC.out]
        have hi : i < 9 := (List.getElem?_eq_some_iff.1 hv).1
        simp only [Cs.cells, List.getElem?_toArray]
        rw [Nat.add_comm, List.getElem?_cons_succ, List.getElem?_append_left hi]
        exact hv
      have HRE := Lib.hid hre
      have hz3 := HB3.out.size
      have hl3 := K3.out.lt
      have heb := bytes_all (some ⟨w3.heap.size, 0, none⟩) 1 [x.ev] (by simp) (w3.alloc (.cells x.ev.cells.toArray 80)) (by
        have := rd_one (f := Ev.cells) w3 80 x.ev.cells.toArray x.ev rfl
        simpa using this)
      rw [ordered_one] at heb
      obtain ⟨er, her⟩ : ∃ er : Int, (if evOk x.ev = true then 0 else 1) = er := ⟨_, rfl⟩
      rw [her] at heb
      clear her
      have HEB : Hid (Calls Tryd.prog 45 #[.slice (some ⟨w3.heap.size, 0, none⟩) 1 1] (w3.alloc (.cells x.ev.cells.toArray 80)) fun e w' => e = .returned (.tuple #[.string ⟨(eB x).toArray⟩, .int .i64 er]) ∧ Below (w3.alloc (.cells x.ev.cells.toArray 80)).heap.size (w3.alloc (.cells x.ev.cells.toArray 80)) w') := Lib.hid heb
      have HBa := Lib.hid (show Below w3.heap.size w3 (w3.alloc (.cells x.ev.cells.toArray 80)) from bAlloc (Below.refl _ _) _)
      have heL := eB_len x
      have hlL := lB_len x
      clear hre heb HBU2 K2 HB2 c0
      go_upto_region 7 with (first
        | (refine wpList_load_mid rfl 80 (.tmp 20) rfl wr.heap.size 1 rfl x.ev.cells _ HRE.out Tryd.underlying80 rfl (by kernel_rfl) ?_)
        | (refine wpL_goes rfl (goL_bsN appE (by decide) (.tmp 21) rfl x.ev.cells.toArray rfl rfl) ?_; rintro _ _ ⟨rfl, rfl⟩)
        | (go_at_call 45; refine HEB.out.mono ?_; rintro e w4 ⟨rfl, hb4⟩; have HB34 := Lib.hid (bTrans HBa.out hb4); clear hb4))
      have HB4 := Lib.hid (bTrans HB3.out HB34.out)
      have HBU4 := Lib.hid (isB_below HBU3.out HB34.out)
      have K4 := Lib.hid (K3.out.on HB34.out)
      have hz4 := HB4.out.size
      clear HB34 HBU3 K3 HB3 HRE HEB HBa
      go_upto_region 8 with (first
        | (go_at_call 23; refine (write_any w.heap.size w.heap.size _ _ _ HBU4.out (by rw [Lib.byteCells_length]; simp [ByteArray.size, kB]; omega) hz4).mono ?_
           rintro e w5 ⟨rfl, hb5, hbl5, hkp5⟩
           have HBU5 : Hid (Lib.IsBuilder 63 5 w.heap.size w.heap.size (Lib.byteCells (P ++ kB x ++ eB x)) w5) := Lib.hid (.inr (by rw [Lib.byteCells_append (P ++ kB x)]; simpa [Lib.strCells_eq] using hb5))
           have HB5 := Lib.hid (HB4.out.trans hbl5)
           have K5 : Hid (Blk w5 wr.heap.size 82 xc.toArray) := Lib.hid ((hkp5 wr.heap.size _ _ _ K4.out (by decide) (by omega)).trans K4.out)
           clear hb5 hbl5 hkp5))
      have hK5 := K5.out
      rw [← HXC.out] at hK5
      have c10 := hK5.cell 10
      simp only [Cs.cells, Ev.cells, List.getElem?_toArray, List.cons_append, List.nil_append, List.getElem?_cons_zero, List.getElem?_cons_succ] at c10
      have hl5 := K5.out.lt
      have hz5 := HB5.out.size
      obtain ⟨N, hN⟩ : ∃ N : Nat, (x.late % 18446744073709551616).toNat = N := ⟨_, rfl⟩
      have hlate : IntKind.u64.wrap x.late = (N : Int) := by
        rw [← hN, Int.toNat_of_nonneg (by omega)]
        rfl
      have hlate2 : x.late % 18446744073709551616 = (N : Int) := by rw [← hN]; omega
      have hN64 : N < 18446744073709551616 := by omega
      have HNM := Lib.hid (fun V => num_any N hN64 V)
      have HLB : Hid (lB x = numB N) := Lib.hid (by unfold lB; rw [hN])
      have hnl : (numB N).length ≤ 10 := numB_le hN64
      clear HBU4 K4 HB4 hK5 hN
      go_upto_region 9 with (first
        | (go_at_call 46; refine (HNM.out _).mono ?_; unfold strN; rintro e w6 ⟨rfl, hb6⟩
           have HB6 := Lib.hid (bTrans HB5.out hb6)
           have HBU6 := Lib.hid (isB_below HBU5.out hb6)
           have K6 := Lib.hid (K5.out.on hb6)
           have hz6 := hb6.size
           clear hb6)
        | (go_at_call 23; refine (write_any w.heap.size w.heap.size _ _ _ HBU6.out (by rw [Lib.byteCells_length]; simp [ByteArray.size, kB]; omega) (by omega)).mono ?_
           rintro e w7 ⟨rfl, hb7, hbl7, hkp7⟩
           have HBU7 : Hid (Lib.IsBuilder 63 5 w.heap.size w.heap.size (Lib.byteCells (P ++ kB x ++ eB x ++ lB x)) w7) := Lib.hid (.inr (by rw [Lib.byteCells_append (P ++ kB x ++ eB x), HLB.out]; simpa [Lib.strCells_eq] using hb7))
           have HB7 := Lib.hid (HB6.out.trans hbl7)
           have K7 : Hid (Blk w7 wr.heap.size 82 xc.toArray) := Lib.hid ((hkp7 wr.heap.size _ _ _ K6.out (by decide) (by omega)).trans K6.out)
           clear hb7 hbl7 hkp7))
      have hK7 := K7.out
      rw [← HXC.out] at hK7
      have c11 := hK7.cell 11
      simp only [Cs.cells, Ev.cells, List.getElem?_toArray, List.cons_append, List.nil_append, List.getElem?_cons_zero, List.getElem?_cons_succ] at c11
      have hl7 := K7.out.lt
      have hz7 := HB7.out.size
      have HPB := Lib.hid (byteCells_p x)
      have HCS : Hid (csB x = kB x ++ (eB x ++ (lB x ++ pB x))) := Lib.hid rfl
      obtain ⟨pl, hpl⟩ : ∃ pl, x.played = pl := ⟨_, rfl⟩
      rw [hpl] at c11 HPB
      clear hK7 HBU6 K6 HB6 HBU5 K5 HB5 c10 HNM hlate hlate2 hpl
      cases pl with
      | false =>
        go_wp2_with (first
          | (go_at_call 44; refine (writeB_any w.heap.size w.heap.size _ _ _ HBU7.out (by rw [Lib.byteCells_length]; simp [kB]; omega) hz7).mono ?_
             rintro e w8 ⟨rfl, hb8, hbl8, -⟩
             have HBU8 : Hid (Lib.IsBuilder 63 5 w.heap.size w.heap.size (Lib.byteCells ((L.take (j + 1)).flatMap csB)) w8) := Lib.hid (.inr (by
               have hp := HPB.out
               simp only [Bool.false_eq_true, if_false, if_true] at hp
               rw [HTK1.out, HCS.out, show P ++ (kB x ++ (eB x ++ (lB x ++ pB x))) = (P ++ kB x ++ eB x ++ lB x) ++ pB x by simp, Lib.byteCells_append, hp]
               exact hb8))
             have HB8 := Lib.hid (HB7.out.trans hbl8)
             clear hb8 hbl8))
        go_roundw
        case rel => exact ⟨j + 1, by omega, by go_num, HBU8, HB8⟩
        case measure => simp [intOf]; omega
      | true =>
        go_wp2_with (first
          | (go_at_call 44; refine (writeB_any w.heap.size w.heap.size _ _ _ HBU7.out (by rw [Lib.byteCells_length]; simp [kB]; omega) hz7).mono ?_
             rintro e w8 ⟨rfl, hb8, hbl8, -⟩
             have HBU8 : Hid (Lib.IsBuilder 63 5 w.heap.size w.heap.size (Lib.byteCells ((L.take (j + 1)).flatMap csB)) w8) := Lib.hid (.inr (by
               have hp := HPB.out
               simp only [Bool.false_eq_true, if_false, if_true] at hp
               rw [HTK1.out, HCS.out, show P ++ (kB x ++ (eB x ++ (lB x ++ pB x))) = (P ++ kB x ++ eB x ++ lB x) ++ pB x by simp, Lib.byteCells_append, hp]
               exact hb8))
             have HB8 := Lib.hid (HB7.out.trans hbl8)
             clear hb8 hbl8))
        go_roundw
        case rel => exact ⟨j + 1, by omega, by go_num, HBU8, HB8⟩
        case measure => simp [intOf]; omega
    · obtain rfl : j = m := by omega
      have hfull : L.take j = L := List.take_of_length_le (by rw [HM.out]; exact Nat.le_refl _)
      rw [hfull] at HBU
      have HST := Lib.hid (Tryd.Builder_String_any w.heap.size w.heap.size (L.flatMap csB) wr HBU.out HB.out.size)
      clear hfull HBU
      go_wp2_with (first | (go_at_call 26; refine HST.out.mono ?_; rintro e w9 ⟨rfl, hb9⟩; have HB9 := Lib.hid (HB.out.trans hb9); clear hb9))
      go_ret
      exact ⟨rfl, HB9.out⟩
end Go.Proofs.YtlonefjbcooaaaaDoor
