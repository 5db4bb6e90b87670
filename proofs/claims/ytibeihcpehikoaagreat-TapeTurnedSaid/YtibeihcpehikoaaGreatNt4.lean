/-
  The walks beneath: NumW, NumS, EvByA.
-/
import Derived.Laws.IdiomStrings
import Derived.Laws.Bits128
import Derived.Laws.BitsAllLaws
import Derived.Maps.OwnIn
import Derived.Maps.AppendAt
import Derived.Deep.Cut
import Derived.Test.YtibeihcpehikoaaGreatNt3
import Derived.Test.YtibeihcpehikoaaGreatNq1
import Derived.Test.YtibeihcpehikoaaGreatNq45
import Derived.Test.YtibeihcpehikoaaGreatNt1
import Derived.Test.YtibeihcpehikoaaGreatNq30
namespace Go.Proofs.YtibeihcpehikoaaGreat
open Go.RowKit
set_option maxRecDepth 100000
def strN (l : List UInt8) : Value := .string ⟨l.toArray⟩
def bcN (b : UInt8) : List Value := [.int .u8 (b.toNat : Int)]
theorem strN_append (a b : List UInt8) : (⟨a.toArray⟩ : ByteArray) ++ ⟨b.toArray⟩ = ⟨(a ++ b).toArray⟩ := by
  apply ByteArray.ext; simp
theorem Tryz.infoU8 : (Tryz.prog.info? 5).map (fun i => (i.zero, i.size, i.bytes)) = some (some (.int .u8 0), 1, 1) := by kernel_rfl
theorem u8_val {n : Nat} (h : n < 256) : ((UInt8.ofNat n).toNat : Int) = n := by rw [u8_nat h]
set_option maxHeartbeats 2000000 in
theorem num_any (N : Nat) (hN : N < 18446744073709551616) (w : World) : Calls Tryz.prog 88 #[.int .u64 N] w fun e w' => e = .returned (strN (numB N)) ∧ Below w.heap.size w w' := by
  obtain ⟨ib, hib, hbz, hb1, hb2⟩ := info_parts Tryz.infoU8
  have HL := Lib.hid (numB_le hN)
  go_enter Tryz.func88, Tryz.ntmps88
  go_wp2
  go_loopw [0, 3] (fun q v wr => ∃ (n : Nat) (pre : List UInt8), q = .int .u64 n ∧ n ≤ N ∧ Hid (pre ++ numB n = numB N) ∧ ∃ A c, v = .slice A pre.length c ∧ Hid (OwnL wr w.heap.size 5 1 (.slice A pre.length c) bcN pre) ∧ Below w.heap.size w wr) (fun q _ _ => (intOf q).toNat)
  case atStart => exact ⟨N, [], rfl, Nat.le_refl _, Lib.hid rfl, none, 0, rfl, Lib.hid OwnL.nil, Below.refl _ _⟩
  case round =>
    obtain ⟨n, pre, rfl, hn, HP, A, c, rfl, HO, hb⟩ := hrel
    have hlen : pre.length ≤ 10 := by
      have h1 := HL.out
      rw [← HP.out, List.length_append] at h1
      omega
    by_cases h : n < 128
    · have hP := HP.out
      rw [numB_small h] at hP
      have HP2 := Lib.hid hP
      have hv : ((UInt8.ofNat n).toNat : Int) = n := u8_val (by omega)
      have HV := Lib.hid hv
      clear hP hv HP
      go_wp2_with (at_builtin; refine wpList_append_own _ rfl (.tmp 15) (.tmp 18) 25 rfl w.heap.size 5 ib _ 1 1 Tryz.underlying25 hib hbz hb1 hb2 rfl (by decide) (.slice A pre.length c) pre.length (pre.flatMap bcN) rfl ?c0 ⟨wr.heap.size, 0, none⟩ 1 1 [.int .u8 (UInt8.ofNat n).toNat] rfl rfl ?c1 ?c2 ?c3 ?c4 ?c5 ?_)
      case c0 => exact World.ownsRow.alloc HO.out _
      case c1 => rw [HV.out]; exact cell_new_row wr #[.int .u8 n] 5 _ rfl
      case c2 => simp [Value.oneCell']
      case c3 => simp [maxLen]; omega
      case c4 => omega
      case c5 => have := hb.size; simp; omega
      intro v' w' hown' hgr hnil
      have hb3 : Below w.heap.size w w' := Below.grown (bAlloc hb _) hgr (by have := hb.size; simp; omega) HO.out.base_le
      have hw2 : OwnL w' w.heap.size 5 1 v' bcN (numB N) := by
        unfold OwnL
        rw [← HP2.out, List.length_append, List.flatMap_append]
        simpa [bcN] using hown'
      obtain ⟨A2, c2, hv2⟩ := hw2.shape
      subst hv2
      have hpos : 0 < (numB N).length := by rw [← HP2.out]; simp
      have hcv : (convert 25 9 (.slice A2 (numB N).length c2)).run Tryz.prog w' = .ok (strN (numB N)) w' := by
        obtain ⟨g, rfl, -, -, -⟩ := hw2.formA hpos
        exact run_convert_bytes_back (P := Tryz.prog) w' 25 9 5 ⟨g, 0, none⟩ c2 (numB N) Tryz.underlying25 Tryz.underlying5 Tryz.underlying9 (fun k hk => by
          rw [Go.WideShapes.add_plain, Nat.zero_add]
          exact hw2.one (h := fun b : UInt8 => Value.int .u8 (b.toNat : Int)) (fun _ => rfl) hk)
      clear hown' hgr hnil hw2
      go_wp2
      go_ret
      exact ⟨rfl, hb3⟩
    · have hP := HP.out
      rw [numB_big h] at hP
      have HP2 := Lib.hid hP
      have hv : ((UInt8.ofNat (128 + n % 128)).toNat : Int) = (n : Int) % 128 + 128 := by rw [u8_val (by omega)]; omega
      have HV := Lib.hid hv
      have hor : bits .or .u8 ((n : Int) % 128) 128 = (n : Int) % 128 + 128 := u8_or128_right _ (by omega) (by omega)
      clear hP hv HP
      go_wp2_with (at_builtin; refine wpList_append_own _ rfl (.tmp 8) (.tmp 13) 25 rfl w.heap.size 5 ib _ 1 1 Tryz.underlying25 hib hbz hb1 hb2 rfl (by decide) (.slice A pre.length c) pre.length (pre.flatMap bcN) rfl ?c0 ⟨wr.heap.size, 0, none⟩ 1 1 [.int .u8 (UInt8.ofNat (128 + n % 128)).toNat] rfl rfl ?c1 ?c2 ?c3 ?c4 ?c5 ?_)
      case c0 => exact World.ownsRow.alloc HO.out _
      case c1 => rw [HV.out]; exact cell_new_row wr #[.int .u8 ((n : Int) % 128 + 128)] 5 _ rfl
      case c2 => simp [Value.oneCell']
      case c3 => simp [maxLen]; omega
      case c4 => omega
      case c5 => have := hb.size; simp; omega
      intro v' w' hown' hgr hnil
      have hb3 : Below w.heap.size w w' := Below.grown (bAlloc hb _) hgr (by have := hb.size; simp; omega) HO.out.base_le
      have hw2 : OwnL w' w.heap.size 5 1 v' bcN (pre ++ [UInt8.ofNat (128 + n % 128)]) := by
        unfold OwnL
        rw [List.length_append, List.flatMap_append]
        simpa [bcN] using hown'
      obtain ⟨A2, c2, hv2⟩ := hw2.shape
      subst hv2
      have HW2 := Lib.hid hw2
      have HP3 : Hid ((pre ++ [UInt8.ofNat (128 + n % 128)]) ++ numB (n / 128) = numB N) := Lib.hid (by rw [← HP2.out]; simp)
      clear hown' hgr hnil hw2
      go_wp2
      go_roundw
      case rel => exact ⟨n / 128, pre ++ [UInt8.ofNat (128 + n % 128)], by go_num, by omega, HP3, A2, c2, rfl, HW2, hb3⟩
      case measure => simp [intOf]; omega
set_option maxHeartbeats 2000000 in
theorem rnum_any (N : Nat) (hN : N < 18446744073709551616) (w : World) : Calls Tryz.prog 93 #[.int .u64 N] w fun e w' => e = .returned (strN (numB N)) ∧ Below w.heap.size w w' := by
  obtain ⟨ib, hib, hbz, hb1, hb2⟩ := info_parts Tryz.infoU8
  have HL := Lib.hid (numB_le hN)
  go_enter Tryz.func93, Tryz.ntmps93
  go_wp2
  go_loopw [0, 3] (fun q v wr => ∃ (n : Nat) (pre : List UInt8), q = .int .u64 n ∧ n ≤ N ∧ Hid (pre ++ numB n = numB N) ∧ v = .string ⟨pre.toArray⟩ ∧ Below w.heap.size w wr) (fun q _ _ => (intOf q).toNat)
  case atStart => exact ⟨N, [], rfl, Nat.le_refl _, Lib.hid rfl, rfl, Below.refl _ _⟩
  case round =>
    obtain ⟨n, pre, rfl, hn, HP, rfl, hb⟩ := hrel
    have hlen : pre.length ≤ 10 := by
      have h1 := HL.out
      rw [← HP.out, List.length_append] at h1
      omega
    by_cases h : n < 128
    · have hP := HP.out
      rw [numB_small h] at hP
      have HP2 := Lib.hid hP
      have hcv : (convert 25 9 (.slice (some ⟨wr.heap.size, 0, none⟩) 1 1)).run Tryz.prog (wr.alloc (.cells #[.int .u8 n] 5)) = .ok (.string ⟨[UInt8.ofNat n].toArray⟩) (wr.alloc (.cells #[.int .u8 n] 5)) :=
        run_convert_bytes_back (P := Tryz.prog) _ 25 9 5 ⟨wr.heap.size, 0, none⟩ 1 [UInt8.ofNat n] Tryz.underlying25 Tryz.underlying5 Tryz.underlying9 (fun k hk => by
          simp at hk; subst hk
          rw [Go.WideShapes.add_plain]
          exact cell_new_row2 wr #[.int .u8 n] 5 _ rfl 0 _ (by simp; omega))
      clear hP HP
      go_wp2
      go_ret
      exact ⟨by rw [strN_append, HP2.out]; rfl, (by repeat (first | exact Below.refl _ _ | (with_reducible assumption) | apply bAlloc | apply below_drewN | apply Below.drew | (refine bSetG ?_ (by first | omega | (simp; omega)) _ _) | (refine bTrans ?_ (by with_reducible assumption))))⟩
    · have hP := HP.out
      rw [numB_big h] at hP
      have HP2 := Lib.hid hP
      have hcv : (convert 25 9 (.slice (some ⟨wr.heap.size, 0, none⟩) 1 1)).run Tryz.prog (wr.alloc (.cells #[.int .u8 (128 + (n : Int) % 128)] 5)) = .ok (.string ⟨[UInt8.ofNat (128 + n % 128)].toArray⟩) (wr.alloc (.cells #[.int .u8 (128 + (n : Int) % 128)] 5)) :=
        run_convert_bytes_back (P := Tryz.prog) _ 25 9 5 ⟨wr.heap.size, 0, none⟩ 1 [UInt8.ofNat (128 + n % 128)] Tryz.underlying25 Tryz.underlying5 Tryz.underlying9 (fun k hk => by
          simp at hk; subst hk
          rw [Go.WideShapes.add_plain]
          refine cell_new_row2 wr #[.int .u8 (128 + (n : Int) % 128)] 5 _ rfl 0 _ ?_
          simp; omega)
      obtain ⟨y, hy⟩ : ∃ y, UInt8.ofNat (128 + n % 128) = y := ⟨_, rfl⟩
      rw [hy] at hcv HP2
      have HP3 : Hid ((pre ++ [y]) ++ numB (n / 128) = numB N) := Lib.hid (by rw [← HP2.out]; simp)
      clear hP HP hy
      go_wp2
      go_roundw
      case rel => exact ⟨n / 128, pre ++ [y], by go_num, by omega, HP3, by rw [strN_append], (by repeat (first | exact Below.refl _ _ | (with_reducible assumption) | apply bAlloc | apply below_drewN | apply Below.drew | (refine bSetG ?_ (by first | omega | (simp; omega)) _ _) | (refine bTrans ?_ (by with_reducible assumption))))⟩
      case measure => simp [intOf]; omega
end Go.Proofs.YtibeihcpehikoaaGreat

namespace Go.Proofs.YtibeihcpehikoaaGreat
open Go.RowKit
set_option maxRecDepth 100000
theorem xor_ones (a : Nat) (ha : a < 18446744073709551616) : a ^^^ 18446744073709551615 = 18446744073709551615 - a := by
  have h := BitVec.xor_allOnes (x := BitVec.ofNat 64 a)
  have h2 := congrArg BitVec.toNat h
  rw [BitVec.toNat_xor, BitVec.toNat_not, BitVec.toNat_allOnes, BitVec.toNat_ofNat, Nat.mod_eq_of_lt (by omega)] at h2
  simpa using h2
theorem zig_nat (n : Int) (h0 : 0 ≤ n) : ((zig n : Nat) : Int) = 2 * n := by unfold zig; rw [if_pos h0]; omega
theorem zig_neg (n : Int) (h0 : n < 0) : ((zig n : Nat) : Int) = -2 * n - 1 := by unfold zig; rw [if_neg (by omega)]; omega
theorem zig_xor (n : Int) (h0 : -4611686018427387904 ≤ n) (h1 : n < 4611686018427387904) : bits .xor .u64 (IntKind.u64.wrap (n * 2)) (IntKind.u64.wrap (n / 9223372036854775808)) = ((zig n : Nat) : Int) := by
  rw [IntKind.wrap_u64, IntKind.wrap_u64]
  by_cases hn : 0 ≤ n
  · rw [zig_nat n hn, show n / 9223372036854775808 = 0 by omega, u64_xor _ _ (by omega) (by omega) (by decide) (by decide)]
    simp
    omega
  · rw [zig_neg n (by omega), show n / 9223372036854775808 = -1 by omega, u64_xor _ _ (by omega) (by omega) (by decide) (by decide)]
    rw [show ((-1 : Int) % 18446744073709551616).toNat = 18446744073709551615 from rfl, xor_ones _ (by omega)]
    omega
set_option maxHeartbeats 1000000 in
theorem signed_any (n : Int) (h0 : -4611686018427387904 ≤ n) (h1 : n < 4611686018427387904) (w : World) : Calls Tryz.prog 230 #[.int .i64 n] w fun e w' => e = .returned (strN (numB (zig n))) ∧ Below w.heap.size w w' := by
  have HC := Lib.hid (fun W => num_any (zig n) (by unfold zig; split <;> omega) W)
  have hx := zig_xor n h0 h1
  obtain ⟨z, hz⟩ : ∃ z, zig n = z := ⟨_, rfl⟩
  rw [hz] at HC hx ⊢
  clear hz
  go_enter Tryz.func230, Tryz.ntmps230
  go_wp2_with (go_at_call 88; refine (HC.out _).mono ?_; rintro e w1 ⟨rfl, hb⟩)
  go_ret
  exact ⟨rfl, hb⟩
set_option maxHeartbeats 1000000 in
theorem rsigned_any (n : Int) (h0 : -4611686018427387904 ≤ n) (h1 : n < 4611686018427387904) (w : World) : Calls Tryz.prog 162 #[.int .i64 n] w fun e w' => e = .returned (strN (numB (zig n))) ∧ Below w.heap.size w w' := by
  have HC := Lib.hid (fun W => rnum_any (zig n) (by unfold zig; split <;> omega) W)
  by_cases hn : 0 ≤ n
  · rw [zig_nat n hn] at HC
    go_enter Tryz.func162, Tryz.ntmps162
    go_wp2_with (go_at_call 93; refine (HC.out _).mono ?_; rintro e w1 ⟨rfl, hb⟩)
    go_ret
    exact ⟨rfl, hb⟩
  · rw [zig_neg n (by omega), show -2 * n - 1 = 2 * (-(n + 1)) + 1 by omega] at HC
    go_enter Tryz.func162, Tryz.ntmps162
    go_wp2_with (go_at_call 93; refine (HC.out _).mono ?_; rintro e w1 ⟨rfl, hb⟩)
    go_ret
    exact ⟨rfl, hb⟩
end Go.Proofs.YtibeihcpehikoaaGreat

namespace Go.Proofs.YtibeihcpehikoaaGreat
open Go.RowKit
set_option maxRecDepth 100000
set_option linter.unusedSimpArgs false
theorem num_int (n : Int) (h0 : 0 ≤ n) (h1 : n < 18446744073709551616) (w : World) : Calls Tryz.prog 88 #[.int .u64 n] w fun e w' => e = .returned (.string ⟨(numB n.toNat).toArray⟩) ∧ Below w.heap.size w w' := by
  have h := num_any n.toNat (by omega) w
  rw [Int.toNat_of_nonneg h0] at h
  exact h
def six (e : Ev) : List Int := [e.frame, e.emitter, e.kind, e.ord, e.asset, e.gain]
def numsB (l : List Int) : List UInt8 := l.flatMap fun n => numB n.toNat
theorem numsB_snoc (l : List Int) (j : Nat) (h : j < l.length) : numsB (l.take (j + 1)) = numsB (l.take j) ++ numB l[j].toNat := by
  unfold numsB
  rw [List.take_succ_eq_append_getElem h, List.flatMap_append]
  simp
theorem numsB_len : ∀ (l : List Int), (∀ n ∈ l, n < 18446744073709551616) → (numsB l).length ≤ 10 * l.length
  | [], _ => by simp [numsB]
  | n :: l, h => by
    have h1 := numB_le (n := n.toNat) (by have := h n (by simp); omega)
    have h2 := numsB_len l (fun m hm => h m (by simp [hm]))
    unfold numsB at *
    rw [List.flatMap_cons, List.length_append, List.length_cons]
    omega
theorem evB_six (e : Ev) : evB e = numsB (six e) ++ (numB (zig e.pan) ++ (numB e.prio.toNat ++ numB e.len.toNat)) := by
  simp [evB, numsB, six]
theorem bytes_take (L : List Ev) (k : Nat) (hk : k < L.length) : (L.take (k + 1)).flatMap evB = (L.take k).flatMap evB ++ evB L[k] := by
  rw [List.take_succ_eq_append_getElem hk, List.flatMap_append]
  simp
theorem ordered_ok {L : List Ev} (h : orderedB L = true) : L.length ≤ 64 ∧ ∀ e ∈ L, evOk e = true := by
  unfold orderedB at h
  simp only [Bool.and_eq_true, decide_eq_true_eq, List.all_eq_true] at h
  exact ⟨h.1, h.2.1⟩
set_option maxHeartbeats 8000000 in
theorem ebytes_any (A : Option Addr) (c : Nat) (L : List Ev) (hL : L.length ≤ 1000) (w : World) (hr : Rd w w.heap.size A (L.flatMap Ev.cells)) (hok : orderedB L = true) :
    Calls Tryz.prog 160 #[.slice A L.length c] w fun e w' => e = .returned (.tuple #[.string ⟨(bytesB L).toArray⟩, .int .i64 0]) ∧ Below w.heap.size w w' := by
  have HO := Lib.hid (ordered_any A c L hL w hr)
  rw [hok] at HO
  obtain ⟨h64, hev⟩ := ordered_ok hok
  have HEV := Lib.hid hev
  have HR := Lib.hid hr
  have HLN := Lib.hid (num_int L.length (by omega) (by omega))
  have hnl := numB_le (n := L.length) (by omega)
  obtain ⟨n, hn⟩ : ∃ n, L.length = n := ⟨_, rfl⟩
  have HBY := Lib.hid (show bytesB L = numB L.length ++ L.flatMap evB from rfl)
  rw [hn] at HO HBY HLN hnl hL h64 ⊢
  have HN := Lib.hid hn
  rw [show ((n : Int)).toNat = n from rfl] at HLN
  clear hr hok hev hn
  go_enter Tryz.func160, Tryz.ntmps160
  go_wp2_with (first | (go_at_call 229; refine HO.out.mono ?_; rintro e w1 ⟨rfl, hb1⟩) | (go_at_call 88; refine (HLN.out _).mono ?_; rintro e w2 ⟨rfl, hb2⟩))
  have HB2 := Lib.hid (bTrans hb1 hb2)
  clear hb1 hb2
  go_loopw [4, 18] (fun s v wr => ∃ k : Nat, k ≤ n ∧ v = .int .i64 k ∧ s = .string ⟨(numB n ++ (L.take k).flatMap evB).toArray⟩ ∧ Hid (Below w.heap.size w wr)) (fun _ v _ => n - (intOf v).toNat)
  case atStart => exact ⟨0, Nat.zero_le _, rfl, by simp, HB2⟩
  case round =>
    clear HB2 HLN HO
    obtain ⟨k, hk, rfl, rfl, HB⟩ := hrel
    by_cases hlt : k < n
    · have hkL : k < L.length := by rw [HN.out]; exact hlt
      obtain ⟨b, off, rfl, hbl, x0, x1, x2, x3, x4, x5, x6, x7, x8⟩ := (HR.out.below HB.out (Nat.le_refl _)).ev hkL
      have HTK := Lib.hid (bytes_take L k hkL)
      have hpl := bytesB_len (L.take k) (fun e he => HEV.out e (List.mem_of_mem_take he))
      have hx0 := ok_pos (HEV.out _ (List.getElem_mem hkL))
      obtain ⟨x, hx⟩ : ∃ x, L[k] = x := ⟨_, rfl⟩
      rw [hx] at x0 x1 x2 x3 x4 x5 x6 x7 x8 HTK hx0
      obtain ⟨pre, hpre⟩ : ∃ pre, numB n ++ (L.take k).flatMap evB = pre := ⟨_, rfl⟩
      have hpre2 : pre.length ≤ 6000 := by
        rw [← hpre, List.length_append]
        rw [List.length_take] at hpl
        omega
      have HNX : Hid (numB n ++ (L.take (k + 1)).flatMap evB = pre ++ evB x) := Lib.hid (by rw [HTK.out, ← List.append_assoc, hpre])
      rw [hpre]
      clear hpl hpre hx HTK hnl
      go_upto_region 7 with fail
      obtain ⟨W, hW⟩ : ∃ W, W = wr.alloc (.cells #[.int .i64 x.frame, .int .i64 x.emitter, .int .i64 x.kind, .int .i64 x.ord, .int .i64 x.asset, .int .i64 x.gain, .int .i64 x.pan, .int .i64 x.prio, .int .i64 x.len] 62) := ⟨_, rfl⟩
      have hbk : Blk W wr.heap.size 62 #[.int .i64 x.frame, .int .i64 x.emitter, .int .i64 x.kind, .int .i64 x.ord, .int .i64 x.asset, .int .i64 x.gain, .int .i64 x.pan, .int .i64 x.prio, .int .i64 x.len] := by rw [hW]; exact Blk.new _ _ _
      have hbW : Below w.heap.size w W := by rw [hW]; exact bAlloc HB.out _
      rw [← hW]
      have HBK := Lib.hid hbk
      have HBW := Lib.hid hbW
      obtain ⟨e0, e1, e2, e3, e4, e5, e6, e7, e8⟩ := Blk.ev hbk
      have hlW := hbk.lt
      clear hW hbk hbW x0 x1 x2 x3 x4 x5 x6 x7 x8 HB
      go_upto_region 8 with fail
      obtain ⟨V, hV⟩ : ∃ V, V = W.alloc (.cells #[.int .i64 x.frame, .int .i64 x.emitter, .int .i64 x.kind, .int .i64 x.ord, .int .i64 x.asset, .int .i64 x.gain] 3) := ⟨_, rfl⟩
      have hrow : Blk V W.heap.size 3 #[.int .i64 x.frame, .int .i64 x.emitter, .int .i64 x.kind, .int .i64 x.ord, .int .i64 x.asset, .int .i64 x.gain] := by rw [hV]; exact Blk.new _ _ _
      have hbV : Below w.heap.size w V := by rw [hV]; exact bAlloc HBW.out _
      have hbkV : Blk V wr.heap.size 62 #[.int .i64 x.frame, .int .i64 x.emitter, .int .i64 x.kind, .int .i64 x.ord, .int .i64 x.asset, .int .i64 x.gain, .int .i64 x.pan, .int .i64 x.prio, .int .i64 x.len] := by rw [hV]; exact HBK.out.alloc _
      rw [← hV]
      have HSIX : Hid (∀ U, Below V.heap.size V U → ∀ j (hj : j < (six x).length), U.cell? ⟨W.heap.size, j, none⟩ = some (.int .i64 ((six x)[j]))) := Lib.hid (fun U hU j hj => by
        rw [(hrow.on hU).cell]
        simp only [six, List.length_cons, List.length_nil] at hj
        obtain rfl | rfl | rfl | rfl | rfl | rfl : j = 0 ∨ j = 1 ∨ j = 2 ∨ j = 3 ∨ j = 4 ∨ j = 5 := by omega
        all_goals rfl)
      have H6 : Hid (∀ j (hj : j < (six x).length), 0 ≤ (six x)[j] ∧ (six x)[j] ≤ 1073741824) := Lib.hid (fun j hj => by
        simp only [six, List.length_cons, List.length_nil] at hj
        obtain rfl | rfl | rfl | rfl | rfl | rfl : j = 0 ∨ j = 1 ∨ j = 2 ∨ j = 3 ∨ j = 4 ∨ j = 5 := by omega
        all_goals (simp only [six, List.getElem_cons_zero, List.getElem_cons_succ]; omega))
      have H6L : Hid (∀ j, (numsB ((six x).take j)).length ≤ 60) := Lib.hid (fun j => by
        have := numsB_len ((six x).take j) (fun n hn => by
          obtain ⟨i, hi, rfl⟩ := List.mem_iff_getElem.1 (List.mem_of_mem_take hn)
          have := H6.out i hi
          omega)
        rw [List.length_take] at this
        simp only [six, List.length_cons, List.length_nil] at this ⊢
        omega)
      have hVl := hrow.lt
      have HBV := Lib.hid hbV
      have HBKV := Lib.hid hbkV
      clear hV hrow hbV hbkV e0 e1 e2 e3 e4 e5 e6 e7 e8 HBK HBW
      go_loopw [4, 40] (fun s v wq => ∃ j : Nat, j ≤ 6 ∧ v = .int .i64 j ∧ s = .string ⟨(pre ++ numsB ((six x).take j)).toArray⟩ ∧ Hid (Below V.heap.size V wq)) (fun _ v _ => 6 - (intOf v).toNat)
      case atStart => exact ⟨0, Nat.zero_le _, rfl, by simp [numsB], Lib.hid (Below.refl _ _)⟩
      case round =>
        obtain ⟨j, hj, rfl, rfl, HQ⟩ := hrel
        by_cases hl6 : j < 6
        · have hj6 : j < (six x).length := hl6
          have c0 := HSIX.out wr HQ.out j hj6
          obtain ⟨p0, p1⟩ := H6.out j hj6
          have HSN := Lib.hid (numsB_snoc (six x) j hj6)
          have hnl := H6L.out j
          have hVq := Nat.lt_of_lt_of_le hVl HQ.out.size
          obtain ⟨y, hy⟩ : ∃ y, (six x)[j] = y := ⟨_, rfl⟩
          rw [hy] at c0 p0 p1 HSN
          have hyl := numB_le (n := y.toNat) (by omega)
          have HC := Lib.hid (fun U => num_int y p0 (by omega) U)
          obtain ⟨p, hp⟩ : ∃ p, pre ++ numsB ((six x).take j) = p := ⟨_, rfl⟩
          have hpl : p.length ≤ 6060 := by rw [← hp, List.length_append]; omega
          have HNX2 : Hid (pre ++ numsB ((six x).take (j + 1)) = p ++ numB y.toNat) := Lib.hid (by rw [HSN.out, ← List.append_assoc, hp])
          rw [hp]
          clear hy HSN hp hnl
          go_wp2_with (go_at_call 88; refine (HC.out _).mono ?_; rintro e w3 ⟨rfl, hb3⟩)
          go_roundw
          case rel => exact ⟨j + 1, by omega, by go_num, by rw [HNX2.out, strN_append], Lib.hid (bTrans HQ.out hb3)⟩
          case measure => simp [intOf]; omega
        · obtain rfl : j = 6 := by omega
          have hbq := HBKV.out.on HQ.out
          obtain ⟨e0, e1, e2, e3, e4, e5, e6, e7, e8⟩ := Blk.ev hbq
          have hlq := hbq.lt
          have hnl := H6L.out 6
          have HBQ := Lib.hid (bTrans HBV.out HQ.out)
          rw [show (six x).take 6 = six x from rfl] at hnl ⊢
          have HEX := Lib.hid (evB_six x)
          obtain ⟨s, hs⟩ : ∃ s, numsB (six x) = s := ⟨_, rfl⟩
          rw [hs] at hnl HEX ⊢
          have HS := Lib.hid (fun U => signed_any x.pan (by omega) (by omega) U)
          unfold strN at HS
          have HP := Lib.hid (fun U => num_int x.prio (by omega) (by omega) U)
          have HL := Lib.hid (fun U => num_int x.len (by omega) (by omega) U)
          have l1 := numB_le (n := zig x.pan) (by unfold zig; split <;> omega)
          have l2 := numB_le (n := x.prio.toNat) (by omega)
          have l3 := numB_le (n := x.len.toNat) (by omega)
          clear hs hbq H6L H6 HSIX HQ
          go_wp2_with fail
          refine wp_region_mild (by kernel_rfl) (by kernel_rfl) ?_
          repeat (go_big_quiet_step ((first | (go_at_call 230; exact mild_of (HS.out _)) | (go_at_call 88; (with_reducible exact mild_of (HP.out _))) | (go_at_call 88; exact mild_of (HL.out _)))))
          refine wpQuiet_nil ?_
          intro w1 hw'
          obtain ⟨⟨wq, k1⟩, hw''⟩ := hw'
          subst hw''
          go_wp2
          go_roundw
          case rel => exact ⟨k + 1, by omega, by go_num, by rw [HNX.out, HEX.out]; simp only [strN_append, List.append_assoc], Lib.hid (bTrans HBQ.out k1)⟩
          case measure => simp [intOf]; omega
    · obtain rfl : k = n := by omega
      have HF : Hid (numB k ++ (L.take k).flatMap evB = bytesB L) := Lib.hid (by rw [HBY.out, List.take_of_length_le (by rw [HN.out]; exact Nat.le_refl _)])
      rw [HF.out]
      go_wp2
      go_ret2
      exact ⟨rfl, HB.out⟩
end Go.Proofs.YtibeihcpehikoaaGreat
