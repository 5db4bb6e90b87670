/-
  The program's Bytes of a list of events.
-/
import Derived.Test.YtdjfpdndaobohaaNumS
import Derived.Test.YtdjfpdndaobohaaOrd
import Derived.Test.YtdjfpdndaobohaaMildL
import Derived.Test.YtdjfpdndaobohaaR11a
import Derived.Deep.Cut
namespace Go.Proofs.Ytdjfpdndaobohaa
open Go.RowKit
set_option maxRecDepth 100000
set_option linter.unusedSimpArgs false
theorem num_int (n : Int) (h0 : 0 ≤ n) (h1 : n < 18446744073709551616) (w : World) : Calls Try.prog 41 #[.int .u64 n] w fun e w' => e = .returned (.string ⟨(numB n.toNat).toArray⟩) ∧ Below w.heap.size w w' := by
  have h := num_any n.toNat (by omega) w
  rw [Int.toNat_of_nonneg h0] at h
  exact h
def six (e : Ev) : List Int := [e.frame, e.emitter, e.kind, e.ord, e.asset, e.gain]
def numsB (l : List Int) : List UInt8 := l.flatMap fun n => numB n.toNat
theorem numsB_snoc (l : List Int) (j : Nat) (h : j < l.length) : numsB (l.take (j + 1)) = numsB (l.take j) ++ numB l[j].toNat := by
  unfold numsB
  rw [List.take_succ_eq_append_getElem h, List.flatMap_append]
  simp
theorem numsB_len : ∀ (l : List Int), (∀ n ∈ l, n < 18446744073709551616) → (numsB l).length ≤ 10 * l.length
  | [], _ => by simp [numsB]
  | n :: l, h => by
    have h1 := numB_le (n := n.toNat) (by have := h n (by simp); omega)
    have h2 := numsB_len l (fun m hm => h m (by simp [hm]))
    unfold numsB at *
    rw [List.flatMap_cons, List.length_append, List.length_cons]
    omega
theorem evB_six (e : Ev) : evB e = numsB (six e) ++ (numB (zig e.pan) ++ (numB e.prio.toNat ++ numB e.len.toNat)) := by
  simp [evB, numsB, six]
theorem bytes_take (L : List Ev) (k : Nat) (hk : k < L.length) : (L.take (k + 1)).flatMap evB = (L.take k).flatMap evB ++ evB L[k] := by
  rw [List.take_succ_eq_append_getElem hk, List.flatMap_append]
  simp
theorem ordered_ok {L : List Ev} (h : orderedB L = true) : L.length ≤ 64 ∧ ∀ e ∈ L, evOk e = true := by
  unfold orderedB at h
  simp only [Bool.and_eq_true, decide_eq_true_eq, List.all_eq_true] at h
  exact ⟨h.1, h.2.1⟩
set_option maxHeartbeats 1000000 in
theorem ebytes_bad (A : Option Addr) (c : Nat) (L : List Ev) (hL : L.length ≤ 1000) (w : World) (hr : Rd w w.heap.size A (L.flatMap Ev.cells)) (hok : orderedB L = false) :
    Calls Try.prog 16 #[.slice A L.length c] w fun e w' => e = .returned (.tuple #[.string ⟨#[]⟩, .int .i64 1]) ∧ Below w.heap.size w w' := by
  have HO := Lib.hid (ordered_any A c L hL w hr)
  rw [hok] at HO
  clear hr hok
  go_enter Try.func16, Try.ntmps16
  go_wp2_with (go_at_call 15; refine HO.out.mono ?_; rintro e w1 ⟨rfl, hb1⟩)
  go_ret2
  exact ⟨rfl, hb1⟩
set_option maxHeartbeats 8000000 in
theorem ebytes_any (A : Option Addr) (c : Nat) (L : List Ev) (hL : L.length ≤ 1000) (w : World) (hr : Rd w w.heap.size A (L.flatMap Ev.cells)) (hok : orderedB L = true) :
    Calls Try.prog 16 #[.slice A L.length c] w fun e w' => e = .returned (.tuple #[.string ⟨(bytesB L).toArray⟩, .int .i64 0]) ∧ Below w.heap.size w w' := by
  have HO := Lib.hid (ordered_any A c L hL w hr)
  rw [hok] at HO
  obtain ⟨h64, hev⟩ := ordered_ok hok
  have HEV := Lib.hid hev
  have HR := Lib.hid hr
  have HLN := Lib.hid (num_int L.length (by omega) (by omega))
  have hnl := numB_le (n := L.length) (by omega)
  obtain ⟨n, hn⟩ : ∃ n, L.length = n := ⟨_, rfl⟩
  have HBY := Lib.hid (show bytesB L = numB L.length ++ L.flatMap evB from rfl)
  rw [hn] at HO HBY HLN hnl hL h64 ⊢
  have HN := Lib.hid hn
  rw [show ((n : Int)).toNat = n from rfl] at HLN
  clear hr hok hev hn
  go_enter Try.func16, Try.ntmps16
  go_wp2_with (first | (go_at_call 15; refine HO.out.mono ?_; rintro e w1 ⟨rfl, hb1⟩) | (go_at_call 41; refine (HLN.out _).mono ?_; rintro e w2 ⟨rfl, hb2⟩))
  have HB2 := Lib.hid (bTrans hb1 hb2)
  clear hb1 hb2
  go_loopw [4, 18] (fun s v wr => ∃ k : Nat, k ≤ n ∧ v = .int .i64 k ∧ s = .string ⟨(numB n ++ (L.take k).flatMap evB).toArray⟩ ∧ Hid (Below w.heap.size w wr)) (fun _ v _ => n - (intOf v).toNat)
  case atStart => exact ⟨0, Nat.zero_le _, rfl, by simp, HB2⟩
  case round =>
    clear HB2 HLN HO
    obtain ⟨k, hk, rfl, rfl, HB⟩ := hrel
    by_cases hlt : k < n
    · have hkL : k < L.length := by rw [HN.out]; exact hlt
      obtain ⟨b, off, rfl, hbl, x0, x1, x2, x3, x4, x5, x6, x7, x8⟩ := (HR.out.below HB.out (Nat.le_refl _)).ev hkL
      have HTK := Lib.hid (bytes_take L k hkL)
      have hpl := bytesB_len (L.take k) (fun e he => HEV.out e (List.mem_of_mem_take he))
      have hx0 := ok_pos (HEV.out _ (List.getElem_mem hkL))
      obtain ⟨x, hx⟩ : ∃ x, L[k] = x := ⟨_, rfl⟩
      rw [hx] at x0 x1 x2 x3 x4 x5 x6 x7 x8 HTK hx0
      obtain ⟨pre, hpre⟩ : ∃ pre, numB n ++ (L.take k).flatMap evB = pre := ⟨_, rfl⟩
      have hpre2 : pre.length ≤ 6000 := by
        rw [← hpre, List.length_append]
        rw [List.length_take] at hpl
        omega
      have HNX : Hid (numB n ++ (L.take (k + 1)).flatMap evB = pre ++ evB x) := Lib.hid (by rw [HTK.out, ← List.append_assoc, hpre])
      rw [hpre]
      clear hpl hpre hx HTK hnl
      go_upto_region 7 with fail
      obtain ⟨W, hW⟩ : ∃ W, W = wr.alloc (.cells #[.int .i64 x.frame, .int .i64 x.emitter, .int .i64 x.kind, .int .i64 x.ord, .int .i64 x.asset, .int .i64 x.gain, .int .i64 x.pan, .int .i64 x.prio, .int .i64 x.len] 25) := ⟨_, rfl⟩
      have hbk : Blk W wr.heap.size 25 #[.int .i64 x.frame, .int .i64 x.emitter, .int .i64 x.kind, .int .i64 x.ord, .int .i64 x.asset, .int .i64 x.gain, .int .i64 x.pan, .int .i64 x.prio, .int .i64 x.len] := by rw [hW]; exact Blk.new _ _ _
      have hbW : Below w.heap.size w W := by rw [hW]; exact bAlloc HB.out _
      rw [← hW]
      have HBK := Lib.hid hbk
      have HBW := Lib.hid hbW
      obtain ⟨e0, e1, e2, e3, e4, e5, e6, e7, e8⟩ := Blk.ev hbk
      have hlW := hbk.lt
      clear hW hbk hbW x0 x1 x2 x3 x4 x5 x6 x7 x8 HB
      go_upto_region 8 with fail
      obtain ⟨V, hV⟩ : ∃ V, V = W.alloc (.cells #[.int .i64 x.frame, .int .i64 x.emitter, .int .i64 x.kind, .int .i64 x.ord, .int .i64 x.asset, .int .i64 x.gain] 3) := ⟨_, rfl⟩
      have hrow : Blk V W.heap.size 3 #[.int .i64 x.frame, .int .i64 x.emitter, .int .i64 x.kind, .int .i64 x.ord, .int .i64 x.asset, .int .i64 x.gain] := by rw [hV]; exact Blk.new _ _ _
      have hbV : Below w.heap.size w V := by rw [hV]; exact bAlloc HBW.out _
      have hbkV : Blk V wr.heap.size 25 #[.int .i64 x.frame, .int .i64 x.emitter, .int .i64 x.kind, .int .i64 x.ord, .int .i64 x.asset, .int .i64 x.gain, .int .i64 x.pan, .int .i64 x.prio, .int .i64 x.len] := by rw [hV]; exact HBK.out.alloc _
      rw [← hV]
      have HSIX : Hid (∀ U, Below V.heap.size V U → ∀ j (hj : j < (six x).length), U.cell? ⟨W.heap.size, j, none⟩ = some (.int .i64 ((six x)[j]))) := Lib.hid (fun U hU j hj => by
        rw [(hrow.on hU).cell]
        simp only [six, List.length_cons, List.length_nil] at hj
        obtain rfl | rfl | rfl | rfl | rfl | rfl : j = 0 ∨ j = 1 ∨ j = 2 ∨ j = 3 ∨ j = 4 ∨ j = 5 := by omega
        all_goals rfl)
      have H6 : Hid (∀ j (hj : j < (six x).length), 0 ≤ (six x)[j] ∧ (six x)[j] ≤ 1073741824) := Lib.hid (fun j hj => by
        simp only [six, List.length_cons, List.length_nil] at hj
        obtain rfl | rfl | rfl | rfl | rfl | rfl : j = 0 ∨ j = 1 ∨ j = 2 ∨ j = 3 ∨ j = 4 ∨ j = 5 := by omega
        all_goals (simp only [six, List.getElem_cons_zero, List.getElem_cons_succ]; omega))
      have H6L : Hid (∀ j, (numsB ((six x).take j)).length ≤ 60) := Lib.hid (fun j => by
        have := numsB_len ((six x).take j) (fun n hn => by
          obtain ⟨i, hi, rfl⟩ := List.mem_iff_getElem.1 (List.mem_of_mem_take hn)
          have := H6.out i hi
          omega)
        rw [List.length_take] at this
        simp only [six, List.length_cons, List.length_nil] at this ⊢
        omega)
      have hVl := hrow.lt
      have HBV := Lib.hid hbV
      have HBKV := Lib.hid hbkV
      clear hV hrow hbV hbkV e0 e1 e2 e3 e4 e5 e6 e7 e8 HBK HBW
      go_loopw [4, 40] (fun s v wq => ∃ j : Nat, j ≤ 6 ∧ v = .int .i64 j ∧ s = .string ⟨(pre ++ numsB ((six x).take j)).toArray⟩ ∧ Hid (Below V.heap.size V wq)) (fun _ v _ => 6 - (intOf v).toNat)
      case atStart => exact ⟨0, Nat.zero_le _, rfl, by simp [numsB], Lib.hid (Below.refl _ _)⟩
      case round =>
        obtain ⟨j, hj, rfl, rfl, HQ⟩ := hrel
        by_cases hl6 : j < 6
        · have hj6 : j < (six x).length := hl6
          have c0 := HSIX.out wr HQ.out j hj6
          obtain ⟨p0, p1⟩ := H6.out j hj6
          have HSN := Lib.hid (numsB_snoc (six x) j hj6)
          have hnl := H6L.out j
          have hVq := Nat.lt_of_lt_of_le hVl HQ.out.size
          obtain ⟨y, hy⟩ : ∃ y, (six x)[j] = y := ⟨_, rfl⟩
          rw [hy] at c0 p0 p1 HSN
          have hyl := numB_le (n := y.toNat) (by omega)
          have HC := Lib.hid (fun U => num_int y p0 (by omega) U)
          obtain ⟨p, hp⟩ : ∃ p, pre ++ numsB ((six x).take j) = p := ⟨_, rfl⟩
          have hpl : p.length ≤ 6060 := by rw [← hp, List.length_append]; omega
          have HNX2 : Hid (pre ++ numsB ((six x).take (j + 1)) = p ++ numB y.toNat) := Lib.hid (by rw [HSN.out, ← List.append_assoc, hp])
          rw [hp]
          clear hy HSN hp hnl
          go_wp2_with (go_at_call 41; refine (HC.out _).mono ?_; rintro e w3 ⟨rfl, hb3⟩)
          go_roundw
          case rel => exact ⟨j + 1, by omega, by go_num, by rw [HNX2.out, strN_append], Lib.hid (bTrans HQ.out hb3)⟩
          case measure => simp [intOf]; omega
        · obtain rfl : j = 6 := by omega
          have hbq := HBKV.out.on HQ.out
          obtain ⟨e0, e1, e2, e3, e4, e5, e6, e7, e8⟩ := Blk.ev hbq
          have hlq := hbq.lt
          have hnl := H6L.out 6
          have HBQ := Lib.hid (bTrans HBV.out HQ.out)
          rw [show (six x).take 6 = six x from rfl] at hnl ⊢
          have HEX := Lib.hid (evB_six x)
          obtain ⟨s, hs⟩ : ∃ s, numsB (six x) = s := ⟨_, rfl⟩
          rw [hs] at hnl HEX ⊢
          have HS := Lib.hid (fun U => signed_any x.pan (by omega) (by omega) U)
          unfold strN at HS
          have HP := Lib.hid (fun U => num_int x.prio (by omega) (by omega) U)
          have HL := Lib.hid (fun U => num_int x.len (by omega) (by omega) U)
          have l1 := numB_le (n := zig x.pan) (by unfold zig; split <;> omega)
          have l2 := numB_le (n := x.prio.toNat) (by omega)
          have l3 := numB_le (n := x.len.toNat) (by omega)
          clear hs hbq H6L H6 HSIX HQ
          go_wp2_with fail
          refine wp_region_mild (by kernel_rfl) (by kernel_rfl) ?_
          repeat (go_big_quiet_step ((first | (go_at_call 42; exact mild_of (HS.out _)) | (go_at_call 41; (with_reducible exact mild_of (HP.out _))) | (go_at_call 41; exact mild_of (HL.out _)))))
          refine wpQuiet_nil ?_
          intro w1 hw'
          obtain ⟨⟨wq, k1⟩, hw''⟩ := hw'
          subst hw''
          go_wp2
          go_roundw
          case rel => exact ⟨k + 1, by omega, by go_num, by rw [HNX.out, HEX.out]; simp only [strN_append, List.append_assoc], Lib.hid (bTrans HBQ.out k1)⟩
          case measure => simp [intOf]; omega
    · obtain rfl : k = n := by omega
      have HF : Hid (numB k ++ (L.take k).flatMap evB = bytesB L) := Lib.hid (by rw [HBY.out, List.take_of_length_le (by rw [HN.out]; exact Nat.le_refl _)])
      rw [HF.out]
      go_wp2
      go_ret2
      exact ⟨rfl, HB.out⟩
end Go.Proofs.Ytdjfpdndaobohaa
