/-
  The walks beneath: NumW, NumS, EvByA, SumW, TapH, TapR.
-/
import Derived.Laws.IdiomStrings
import Derived.Laws.Bits128
import Derived.Laws.BitsAllLaws
import Derived.Maps.OwnIn
import Derived.Test.YtibeihcpehikoaaGreatNl3
import Derived.Test.YtibeihcpehikoaaGreatNl1
namespace Go.Proofs.YtibeihcpehikoaaGreat
open Go.RowKit
set_option maxRecDepth 100000
set_option maxHeartbeats 8000000
set_option linter.unusedSimpArgs false
section
def strN (l : List UInt8) : Value := .string ⟨l.toArray⟩
def bcN (b : UInt8) : List Value := [.int .u8 (b.toNat : Int)]
theorem strN_append (a b : List UInt8) : (⟨a.toArray⟩ : ByteArray) ++ ⟨b.toArray⟩ = ⟨(a ++ b).toArray⟩ := by
 apply ByteArray.ext; simp
theorem Tryz.infoU8 : (Tryz.prog.info? 5).map (fun i => (i.zero, i.size, i.bytes)) = some (some (.int .u8 0), 1, 1) := by kernel_rfl
theorem u8_val {n : Nat} (h : n < 256) : ((UInt8.ofNat n).toNat : Int) = n := by rw [u8_nat h]
theorem num_any (N : Nat) (hN : N < 18446744073709551616) (w : World) : Calls Tryz.prog 88 #[.int .u64 N] w fun e w' => e = .returned (strN (numB N)) ∧ Below w.heap.size w w' := by
 obtain ⟨ib, hib, hbz, hb1, hb2⟩ := info_parts Tryz.infoU8
 have HL := zz (numB_le hN)
 go_enter Tryz.func88, Tryz.ntmps88
 go_wp2
 go_loopw [0, 3] (fun q v wr => ∃ (n : Nat) (pre : List UInt8), q = .int .u64 n ∧ n ≤ N ∧ Hid (pre ++ numB n = numB N) ∧ ∃ A c, v = .slice A pre.length c ∧ Hid (OwnL wr w.heap.size 5 1 (.slice A pre.length c) bcN pre) ∧ Below w.heap.size w wr) (fun q _ _ => (intOf q).toNat)
 case atStart => exact ⟨N, [], rfl, zL _, zz rfl, none, 0, rfl, zz OwnL.nil, Below.refl _ _⟩
 case round =>
  obtain ⟨n, pre, rfl, hn, HP, A, c, rfl, HO, hb⟩ := hrel
  have hlen : pre.length ≤ 10 := by
   have h1 := HL.out
   rw [← HP.out, zG] at h1
   omega
  by_cases h : n < 128
  ·have hP := HP.out
   rw [numB_small h] at hP
   have HP2 := zz hP
   have hv : ((UInt8.ofNat n).toNat : Int) = n := u8_val (by omega)
   have HV := zz hv
   clear hP hv HP
   go_wp2_with (at_builtin; refine wpList_append_own _ rfl (.tmp 15) (.tmp 18) 25 rfl w.heap.size 5 ib _ 1 1 Tryz.underlying25 hib hbz hb1 hb2 rfl (by decide) (.slice A pre.length c) pre.length (pre.flatMap bcN) rfl ?c0 ⟨wr.heap.size, 0, none⟩ 1 1 [.int .u8 (UInt8.ofNat n).toNat] rfl rfl ?c1 ?c2 ?c3 ?c4 ?c5 ?_)
   case c0 => exact World.ownsRow.alloc HO.out _
   case c1 => rw [HV.out]; exact cell_new_row wr #[.int .u8 n] 5 _ rfl
   case c2 => simp [Value.oneCell']
   case c3 => simp [maxLen]; omega
   case c4 => omega
   case c5 => have := hb.size; simp; omega
   intro v' w' hown' hgr hnil
   have hb3 : Below w.heap.size w w' := Below.grown (bAlloc hb _) hgr (by have := hb.size; simp; omega) HO.out.base_le
   have hw2 : OwnL w' w.heap.size 5 1 v' bcN (numB N) := by
    unfold OwnL
    rw [← HP2.out, zG, List.flatMap_append]
    simpa [bcN] using hown'
   obtain ⟨A2, c2, hv2⟩ := hw2.shape
   subst hv2
   have hpos : 0 < (numB N).length := by rw [← HP2.out]; simp
   have hcv : (convert 25 9 (.slice A2 (numB N).length c2)).run Tryz.prog w' = .ok (strN (numB N)) w' := by
    obtain ⟨g, rfl, -, -, -⟩ := hw2.formA hpos
    exact run_convert_bytes_back (P := Tryz.prog) w' 25 9 5 ⟨g, 0, none⟩ c2 (numB N) Tryz.underlying25 Tryz.underlying5 Tryz.underlying9 (fun k hk => by
     rw [Go.WideShapes.add_plain, Nat.zero_add]
     exact hw2.one (h := fun b : UInt8 => Value.int .u8 (b.toNat : Int)) (fun _ => rfl) hk)
   clear hown' hgr hnil hw2
   go_wp2
   go_ret
   exact ⟨rfl, hb3⟩
  ·have hP := HP.out
   rw [numB_big h] at hP
   have HP2 := zz hP
   have hv : ((UInt8.ofNat (128 + n % 128)).toNat : Int) = (n : Int) % 128 + 128 := by rw [u8_val (by omega)]; omega
   have HV := zz hv
   have hor : bits .or .u8 ((n : Int) % 128) 128 = (n : Int) % 128 + 128 := u8_or128_right _ (by omega) (by omega)
   clear hP hv HP
   go_wp2_with (at_builtin; refine wpList_append_own _ rfl (.tmp 8) (.tmp 13) 25 rfl w.heap.size 5 ib _ 1 1 Tryz.underlying25 hib hbz hb1 hb2 rfl (by decide) (.slice A pre.length c) pre.length (pre.flatMap bcN) rfl ?c0 ⟨wr.heap.size, 0, none⟩ 1 1 [.int .u8 (UInt8.ofNat (128 + n % 128)).toNat] rfl rfl ?c1 ?c2 ?c3 ?c4 ?c5 ?_)
   case c0 => exact World.ownsRow.alloc HO.out _
   case c1 => rw [HV.out]; exact cell_new_row wr #[.int .u8 ((n : Int) % 128 + 128)] 5 _ rfl
   case c2 => simp [Value.oneCell']
   case c3 => simp [maxLen]; omega
   case c4 => omega
   case c5 => have := hb.size; simp; omega
   intro v' w' hown' hgr hnil
   have hb3 : Below w.heap.size w w' := Below.grown (bAlloc hb _) hgr (by have := hb.size; simp; omega) HO.out.base_le
   have hw2 : OwnL w' w.heap.size 5 1 v' bcN (pre ++ [UInt8.ofNat (128 + n % 128)]) := by
    unfold OwnL
    rw [zG, List.flatMap_append]
    simpa [bcN] using hown'
   obtain ⟨A2, c2, hv2⟩ := hw2.shape
   subst hv2
   have HW2 := zz hw2
   have HP3 : Hid ((pre ++ [UInt8.ofNat (128 + n % 128)]) ++ numB (n / 128) = numB N) := zz (by rw [← HP2.out]; simp)
   clear hown' hgr hnil hw2
   go_wp2
   go_roundw
   case rel => exact ⟨n / 128, pre ++ [UInt8.ofNat (128 + n % 128)], by go_num, by omega, HP3, A2, c2, rfl, HW2, hb3⟩
   case measure => simp [intOf]; omega
theorem rnum_any (N : Nat) (hN : N < 18446744073709551616) (w : World) : Calls Tryz.prog 93 #[.int .u64 N] w fun e w' => e = .returned (strN (numB N)) ∧ Below w.heap.size w w' := by
 obtain ⟨ib, hib, hbz, hb1, hb2⟩ := info_parts Tryz.infoU8
 have HL := zz (numB_le hN)
 go_enter Tryz.func93, Tryz.ntmps93
 go_wp2
 go_loopw [0, 3] (fun q v wr => ∃ (n : Nat) (pre : List UInt8), q = .int .u64 n ∧ n ≤ N ∧ Hid (pre ++ numB n = numB N) ∧ v = .string ⟨pre.toArray⟩ ∧ Below w.heap.size w wr) (fun q _ _ => (intOf q).toNat)
 case atStart => exact ⟨N, [], rfl, zL _, zz rfl, rfl, Below.refl _ _⟩
 case round =>
  obtain ⟨n, pre, rfl, hn, HP, rfl, hb⟩ := hrel
  have hlen : pre.length ≤ 10 := by
   have h1 := HL.out
   rw [← HP.out, zG] at h1
   omega
  by_cases h : n < 128
  ·have hP := HP.out
   rw [numB_small h] at hP
   have HP2 := zz hP
   have hcv : (convert 25 9 (.slice (some ⟨wr.heap.size, 0, none⟩) 1 1)).run Tryz.prog (wr.alloc (.cells #[.int .u8 n] 5)) = .ok (.string ⟨[UInt8.ofNat n].toArray⟩) (wr.alloc (.cells #[.int .u8 n] 5)) :=
    run_convert_bytes_back (P := Tryz.prog) _ 25 9 5 ⟨wr.heap.size, 0, none⟩ 1 [UInt8.ofNat n] Tryz.underlying25 Tryz.underlying5 Tryz.underlying9 (fun k hk => by
     simp at hk; subst hk
     rw [Go.WideShapes.add_plain]
     exact cell_new_row2 wr #[.int .u8 n] 5 _ rfl 0 _ (by simp; omega))
   clear hP HP
   go_wp2
   go_ret
   exact ⟨by rw [strN_append, HP2.out]; rfl, (by repeat (first | exact Below.refl _ _ | (with_reducible assumption) | apply bAlloc | apply below_drewN | apply Below.drew | (refine bSetG ?_ (by first | omega | (simp; omega)) _ _) | (refine bTrans ?_ (by with_reducible assumption))))⟩
  ·have hP := HP.out
   rw [numB_big h] at hP
   have HP2 := zz hP
   have hcv : (convert 25 9 (.slice (some ⟨wr.heap.size, 0, none⟩) 1 1)).run Tryz.prog (wr.alloc (.cells #[.int .u8 (128 + (n : Int) % 128)] 5)) = .ok (.string ⟨[UInt8.ofNat (128 + n % 128)].toArray⟩) (wr.alloc (.cells #[.int .u8 (128 + (n : Int) % 128)] 5)) :=
    run_convert_bytes_back (P := Tryz.prog) _ 25 9 5 ⟨wr.heap.size, 0, none⟩ 1 [UInt8.ofNat (128 + n % 128)] Tryz.underlying25 Tryz.underlying5 Tryz.underlying9 (fun k hk => by
     simp at hk; subst hk
     rw [Go.WideShapes.add_plain]
     refine cell_new_row2 wr #[.int .u8 (128 + (n : Int) % 128)] 5 _ rfl 0 _ ?_
     simp; omega)
   obtain ⟨y, hy⟩ : ∃ y, UInt8.ofNat (128 + n % 128) = y := ⟨_, rfl⟩
   rw [hy] at hcv HP2
   have HP3 : Hid ((pre ++ [y]) ++ numB (n / 128) = numB N) := zz (by rw [← HP2.out]; simp)
   clear hP HP hy
   go_wp2
   go_roundw
   case rel => exact ⟨n / 128, pre ++ [y], by go_num, by omega, HP3, by rw [strN_append], (by repeat (first | exact Below.refl _ _ | (with_reducible assumption) | apply bAlloc | apply below_drewN | apply Below.drew | (refine bSetG ?_ (by first | omega | (simp; omega)) _ _) | (refine bTrans ?_ (by with_reducible assumption))))⟩
   case measure => simp [intOf]; omega
end
section
theorem xor_ones (a : Nat) (ha : a < 18446744073709551616) : a ^^^ 18446744073709551615 = 18446744073709551615 - a := by
 have h := BitVec.xor_allOnes (x := BitVec.ofNat 64 a)
 have h2 := congrArg BitVec.toNat h
 rw [BitVec.toNat_xor, BitVec.toNat_not, BitVec.toNat_allOnes, BitVec.toNat_ofNat, Nat.mod_eq_of_lt (by omega)] at h2
 simpa using h2
theorem zig_nat (n : Int) (h0 : 0 ≤ n) : ((zig n : Nat) : Int) = 2 * n := by unfold zig; rw [if_pos h0]; omega
theorem zig_neg (n : Int) (h0 : n < 0) : ((zig n : Nat) : Int) = -2 * n - 1 := by unfold zig; rw [if_neg (by omega)]; omega
theorem zig_xor (n : Int) (h0 : -4611686018427387904 ≤ n) (h1 : n < 4611686018427387904) : bits .xor .u64 (IntKind.u64.wrap (n * 2)) (IntKind.u64.wrap (n / 9223372036854775808)) = ((zig n : Nat) : Int) := by
 rw [IntKind.wrap_u64, IntKind.wrap_u64]
 by_cases hn : 0 ≤ n
 ·rw [zig_nat n hn, show n / 9223372036854775808 = 0 by omega, u64_xor _ _ (by omega) (by omega) (by decide) (by decide)]
  simp
  omega
 ·rw [zig_neg n (by omega), show n / 9223372036854775808 = -1 by omega, u64_xor _ _ (by omega) (by omega) (by decide) (by decide)]
  rw [show ((-1 : Int) % 18446744073709551616).toNat = 18446744073709551615 from rfl, xor_ones _ (by omega)]
  omega
theorem signed_any (n : Int) (h0 : -4611686018427387904 ≤ n) (h1 : n < 4611686018427387904) (w : World) : Calls Tryz.prog 230 #[.int .i64 n] w fun e w' => e = .returned (strN (numB (zig n))) ∧ Below w.heap.size w w' := by
 have HC := zz (fun W => num_any (zig n) (by unfold zig; split <;> omega) W)
 have hx := zig_xor n h0 h1
 obtain ⟨z, hz⟩ : ∃ z, zig n = z := ⟨_, rfl⟩
 rw [hz] at HC hx ⊢
 clear hz
 go_enter Tryz.func230, Tryz.ntmps230
 go_wp2_with (go_at_call 88; refine (HC.out _).mono ?_; rintro e w1 ⟨rfl, hb⟩)
 go_ret
 exact ⟨rfl, hb⟩
theorem rsigned_any (n : Int) (h0 : -4611686018427387904 ≤ n) (h1 : n < 4611686018427387904) (w : World) : Calls Tryz.prog 162 #[.int .i64 n] w fun e w' => e = .returned (strN (numB (zig n))) ∧ Below w.heap.size w w' := by
 have HC := zz (fun W => rnum_any (zig n) (by unfold zig; split <;> omega) W)
 by_cases hn : 0 ≤ n
 ·rw [zig_nat n hn] at HC
  go_enter Tryz.func162, Tryz.ntmps162
  go_wp2_with (go_at_call 93; refine (HC.out _).mono ?_; rintro e w1 ⟨rfl, hb⟩)
  go_ret
  exact ⟨rfl, hb⟩
 ·rw [zig_neg n (by omega), show -2 * n - 1 = 2 * (-(n + 1)) + 1 by omega] at HC
  go_enter Tryz.func162, Tryz.ntmps162
  go_wp2_with (go_at_call 93; refine (HC.out _).mono ?_; rintro e w1 ⟨rfl, hb⟩)
  go_ret
  exact ⟨rfl, hb⟩
end
section
theorem num_int (n : Int) (h0 : 0 ≤ n) (h1 : n < 18446744073709551616) (w : World) : Calls Tryz.prog 88 #[.int .u64 n] w fun e w' => e = .returned (.string ⟨(numB n.toNat).toArray⟩) ∧ Below w.heap.size w w' := by
 have h := num_any n.toNat (by omega) w
 rw [Int.toNat_of_nonneg h0] at h
 exact h
def six (e : Ev) : List Int := [e.frame, e.emitter, e.kind, e.ord, e.asset, e.gain]
def numsB (l : List Int) : List UInt8 := l.flatMap fun n => numB n.toNat
theorem numsB_snoc (l : List Int) (j : Nat) (h : j < l.length) : numsB (l.take (j + 1)) = numsB (l.take j) ++ numB l[j].toNat := by
 unfold numsB
 rw [List.take_succ_eq_append_getElem h, List.flatMap_append]
 simp
theorem numsB_len : ∀ (l : List Int), (∀ n ∈ l, n < 18446744073709551616) → (numsB l).length ≤ 10 * l.length
 | [], _ => by simp [numsB]
 | n :: l, h => by
  have h1 := numB_le (n := n.toNat) (by have := h n (by simp); omega)
  have h2 := numsB_len l (fun m hm => h m (by simp [hm]))
  unfold numsB at *
  rw [List.flatMap_cons, zG, zH]
  omega
theorem evB_six (e : Ev) : evB e = numsB (six e) ++ (numB (zig e.pan) ++ (numB e.prio.toNat ++ numB e.len.toNat)) := by
 simp [evB, numsB, six]
theorem bytes_take (L : List Ev) (k : Nat) (hk : k < L.length) : (L.take (k + 1)).flatMap evB = (L.take k).flatMap evB ++ evB L[k] := by
 rw [List.take_succ_eq_append_getElem hk, List.flatMap_append]
 simp
theorem ordered_ok {L : List Ev} (h : orderedB L = true) : L.length ≤ 64 ∧ ∀ e ∈ L, evOk e = true := by
 unfold orderedB at h
 simp only [Bool.and_eq_true, decide_eq_true_eq, List.all_eq_true] at h
 exact ⟨h.1, h.2.1⟩
theorem ebytes_any (A : Option Addr) (c : Nat) (L : List Ev) (hL : L.length ≤ 1000) (w : World) (hr : Rd w w.heap.size A (L.flatMap Ev.cells)) (hok : orderedB L = true) :
  Calls Tryz.prog 160 #[.slice A L.length c] w fun e w' => e = .returned (.tuple #[.string ⟨(bytesB L).toArray⟩, .int .i64 0]) ∧ Below w.heap.size w w' := by
 have HO := zz (ordered_any A c L hL w hr)
 rw [hok] at HO
 obtain ⟨h64, hev⟩ := ordered_ok hok
 have HEV := zz hev
 have HR := zz hr
 have HLN := zz (num_int L.length (by omega) (by omega))
 have hnl := numB_le (n := L.length) (by omega)
 obtain ⟨n, hn⟩ : ∃ n, L.length = n := ⟨_, rfl⟩
 have HBY := zz (show bytesB L = numB L.length ++ L.flatMap evB from rfl)
 rw [hn] at HO HBY HLN hnl hL h64 ⊢
 have HN := zz hn
 rw [show ((n : Int)).toNat = n from rfl] at HLN
 clear hr hok hev hn
 go_enter Tryz.func160, Tryz.ntmps160
 go_wp2_with (first | (go_at_call 229; refine HO.out.mono ?_; rintro e w1 ⟨rfl, hb1⟩) | (go_at_call 88; refine (HLN.out _).mono ?_; rintro e w2 ⟨rfl, hb2⟩))
 have HB2 := zz (bTrans hb1 hb2)
 clear hb1 hb2
 go_loopw [4, 18] (fun s v wr => ∃ k : Nat, k ≤ n ∧ v = .int .i64 k ∧ s = .string ⟨(numB n ++ (L.take k).flatMap evB).toArray⟩ ∧ Hid (Below w.heap.size w wr)) (fun _ v _ => n - (intOf v).toNat)
 case atStart => exact ⟨0, Nat.zero_le _, rfl, by simp, HB2⟩
 case round =>
  clear HB2 HLN HO
  obtain ⟨k, hk, rfl, rfl, HB⟩ := hrel
  by_cases hlt : k < n
  ·have hkL : k < L.length := by rw [HN.out]; exact hlt
   obtain ⟨b, off, rfl, hbl, x0, x1, x2, x3, x4, x5, x6, x7, x8⟩ := (HR.out.below HB.out (zL _)).ev hkL
   have HTK := zz (bytes_take L k hkL)
   have hpl := bytesB_len (L.take k) (fun e he => HEV.out e (List.mem_of_mem_take he))
   have hx0 := ok_pos (HEV.out _ (List.getElem_mem hkL))
   obtain ⟨x, hx⟩ : ∃ x, L[k] = x := ⟨_, rfl⟩
   rw [hx] at x0 x1 x2 x3 x4 x5 x6 x7 x8 HTK hx0
   obtain ⟨pre, hpre⟩ : ∃ pre, numB n ++ (L.take k).flatMap evB = pre := ⟨_, rfl⟩
   have hpre2 : pre.length ≤ 6000 := by
    rw [← hpre, zG]
    rw [List.length_take] at hpl
    omega
   have HNX : Hid (numB n ++ (L.take (k + 1)).flatMap evB = pre ++ evB x) := zz (by rw [HTK.out, ← List.append_assoc, hpre])
   rw [hpre]
   clear hpl hpre hx HTK hnl
   go_upto_region 7 with fail
   obtain ⟨W, hW⟩ : ∃ W, W = wr.alloc (.cells #[.int .i64 x.frame, .int .i64 x.emitter, .int .i64 x.kind, .int .i64 x.ord, .int .i64 x.asset, .int .i64 x.gain, .int .i64 x.pan, .int .i64 x.prio, .int .i64 x.len] 62) := ⟨_, rfl⟩
   have hbk : Blk W wr.heap.size 62 #[.int .i64 x.frame, .int .i64 x.emitter, .int .i64 x.kind, .int .i64 x.ord, .int .i64 x.asset, .int .i64 x.gain, .int .i64 x.pan, .int .i64 x.prio, .int .i64 x.len] := by rw [hW]; exact Blk.new _ _ _
   have hbW : Below w.heap.size w W := by rw [hW]; exact bAlloc HB.out _
   rw [← hW]
   have HBK := zz hbk
   have HBW := zz hbW
   obtain ⟨e0, e1, e2, e3, e4, e5, e6, e7, e8⟩ := Blk.ev hbk
   have hlW := hbk.lt
   clear hW hbk hbW x0 x1 x2 x3 x4 x5 x6 x7 x8 HB
   go_upto_region 8 with fail
   obtain ⟨V, hV⟩ : ∃ V, V = W.alloc (.cells #[.int .i64 x.frame, .int .i64 x.emitter, .int .i64 x.kind, .int .i64 x.ord, .int .i64 x.asset, .int .i64 x.gain] 3) := ⟨_, rfl⟩
   have hrow : Blk V W.heap.size 3 #[.int .i64 x.frame, .int .i64 x.emitter, .int .i64 x.kind, .int .i64 x.ord, .int .i64 x.asset, .int .i64 x.gain] := by rw [hV]; exact Blk.new _ _ _
   have hbV : Below w.heap.size w V := by rw [hV]; exact bAlloc HBW.out _
   have hbkV : Blk V wr.heap.size 62 #[.int .i64 x.frame, .int .i64 x.emitter, .int .i64 x.kind, .int .i64 x.ord, .int .i64 x.asset, .int .i64 x.gain, .int .i64 x.pan, .int .i64 x.prio, .int .i64 x.len] := by rw [hV]; exact HBK.out.alloc _
   rw [← hV]
   have HSIX : Hid (∀ U, Below V.heap.size V U → ∀ j (hj : j < (six x).length), U.cell? ⟨W.heap.size, j, none⟩ = some (.int .i64 ((six x)[j]))) := zz (fun U hU j hj => by
    rw [(hrow.on hU).cell]
    simp only [six, zH, zI] at hj
    obtain rfl | rfl | rfl | rfl | rfl | rfl : j = 0 ∨ j = 1 ∨ j = 2 ∨ j = 3 ∨ j = 4 ∨ j = 5 := by omega
    all_goals rfl)
   have H6 : Hid (∀ j (hj : j < (six x).length), 0 ≤ (six x)[j] ∧ (six x)[j] ≤ 1073741824) := zz (fun j hj => by
    simp only [six, zH, zI] at hj
    obtain rfl | rfl | rfl | rfl | rfl | rfl : j = 0 ∨ j = 1 ∨ j = 2 ∨ j = 3 ∨ j = 4 ∨ j = 5 := by omega
    all_goals (simp only [six, List.getElem_cons_zero, List.getElem_cons_succ]; omega))
   have H6L : Hid (∀ j, (numsB ((six x).take j)).length ≤ 60) := zz (fun j => by
    have := numsB_len ((six x).take j) (fun n hn => by
     obtain ⟨i, hi, rfl⟩ := List.mem_iff_getElem.1 (List.mem_of_mem_take hn)
     have := H6.out i hi
     omega)
    rw [List.length_take] at this
    simp only [six, zH, zI] at this ⊢
    omega)
   have hVl := hrow.lt
   have HBV := zz hbV
   have HBKV := zz hbkV
   clear hV hrow hbV hbkV e0 e1 e2 e3 e4 e5 e6 e7 e8 HBK HBW
   go_loopw [4, 40] (fun s v wq => ∃ j : Nat, j ≤ 6 ∧ v = .int .i64 j ∧ s = .string ⟨(pre ++ numsB ((six x).take j)).toArray⟩ ∧ Hid (Below V.heap.size V wq)) (fun _ v _ => 6 - (intOf v).toNat)
   case atStart => exact ⟨0, Nat.zero_le _, rfl, by simp [numsB], zz (Below.refl _ _)⟩
   case round =>
    obtain ⟨j, hj, rfl, rfl, HQ⟩ := hrel
    by_cases hl6 : j < 6
    ·have hj6 : j < (six x).length := hl6
     have c0 := HSIX.out wr HQ.out j hj6
     obtain ⟨p0, p1⟩ := H6.out j hj6
     have HSN := zz (numsB_snoc (six x) j hj6)
     have hnl := H6L.out j
     have hVq := Nat.lt_of_lt_of_le hVl HQ.out.size
     obtain ⟨y, hy⟩ : ∃ y, (six x)[j] = y := ⟨_, rfl⟩
     rw [hy] at c0 p0 p1 HSN
     have hyl := numB_le (n := y.toNat) (by omega)
     have HC := zz (fun U => num_int y p0 (by omega) U)
     obtain ⟨p, hp⟩ : ∃ p, pre ++ numsB ((six x).take j) = p := ⟨_, rfl⟩
     have hpl : p.length ≤ 6060 := by rw [← hp, zG]; omega
     have HNX2 : Hid (pre ++ numsB ((six x).take (j + 1)) = p ++ numB y.toNat) := zz (by rw [HSN.out, ← List.append_assoc, hp])
     rw [hp]
     clear hy HSN hp hnl
     go_wp2_with (go_at_call 88; refine (HC.out _).mono ?_; rintro e w3 ⟨rfl, hb3⟩)
     go_roundw
     case rel => exact ⟨j + 1, by omega, by go_num, by rw [HNX2.out, strN_append], zz (bTrans HQ.out hb3)⟩
     case measure => simp [intOf]; omega
    ·obtain rfl : j = 6 := by omega
     have hbq := HBKV.out.on HQ.out
     obtain ⟨e0, e1, e2, e3, e4, e5, e6, e7, e8⟩ := Blk.ev hbq
     have hlq := hbq.lt
     have hnl := H6L.out 6
     have HBQ := zz (bTrans HBV.out HQ.out)
     rw [show (six x).take 6 = six x from rfl] at hnl ⊢
     have HEX := zz (evB_six x)
     obtain ⟨s, hs⟩ : ∃ s, numsB (six x) = s := ⟨_, rfl⟩
     rw [hs] at hnl HEX ⊢
     have HS := zz (fun U => signed_any x.pan (by omega) (by omega) U)
     unfold strN at HS
     have HP := zz (fun U => num_int x.prio (by omega) (by omega) U)
     have HL := zz (fun U => num_int x.len (by omega) (by omega) U)
     have l1 := numB_le (n := zig x.pan) (by unfold zig; split <;> omega)
     have l2 := numB_le (n := x.prio.toNat) (by omega)
     have l3 := numB_le (n := x.len.toNat) (by omega)
     clear hs hbq H6L H6 HSIX HQ
     go_wp2_with fail
     refine wp_region_mild (by kernel_rfl) (by kernel_rfl) ?_
     repeat (go_big_quiet_step ((first | (go_at_call 230; exact mild_of (HS.out _)) | (go_at_call 88; (with_reducible exact mild_of (HP.out _))) | (go_at_call 88; exact mild_of (HL.out _)))))
     refine wpQuiet_nil ?_
     intro w1 hw'
     obtain ⟨⟨wq, k1⟩, hw''⟩ := hw'
     subst hw''
     go_wp2
     go_roundw
     case rel => exact ⟨k + 1, by omega, by go_num, by rw [HNX.out, HEX.out]; simp only [strN_append, List.append_assoc], zz (bTrans HBQ.out k1)⟩
     case measure => simp [intOf]; omega
  ·obtain rfl : k = n := by omega
   have HF : Hid (numB k ++ (L.take k).flatMap evB = bytesB L) := zz (by rw [HBY.out, List.take_of_length_le (by rw [HN.out]; exact zL _)])
   rw [HF.out]
   go_wp2
   go_ret2
   exact ⟨rfl, HB.out⟩
end
section
def sizS : Value → Nat
 | .string b => b.size
 | _ => 0
theorem wraps_u32 (n : Int) (h₀ : 0 ≤ n) (h₁ : n < 2 ^ 32) : IntKind.u32.wrap n = n := by
 rw [IntKind.wrap_u32]; omega
theorem u32_and16 (n : Int) (h0 : 0 ≤ n) (h1 : n < 4294967296) : bits .and .u32 n 65535 = n % 65536 := bits_mask .u32 32 (by decide) wraps_u32 16 (by decide) n h0 (by omega)
theorem u32_join (a b : Int) (a0 : 0 ≤ a) (a1 : a < 65536) (b0 : 0 ≤ b) (b1 : b < 65536) : bits .or .u32 (a * 65536) b = a * 65536 + b :=
 bits_join .u32 32 (by decide) wraps_u32 16 _ _ (by omega) (by omega) (by omega) b0 (by omega) (by omega)
theorem bytes_get (s : ByteArray) (j : Nat) (h : j < s.size) : s.data.toList[j]'h = s[j] := by rw [Array.getElem_toList]; rfl
theorem nats_take (s : ByteArray) (j : Nat) (h : j < s.size) : (natsB s.data.toList).take (j + 1) = (natsB s.data.toList).take j ++ [s[j].toNat] := by
 have hl : j < (natsB s.data.toList).length := by rw [natsB_length]; exact h
 rw [List.take_succ_eq_append_getElem hl]
 have e : (natsB s.data.toList)[j] = s[j].toNat := by
  simp only [natsB, List.getElem_map]
  rw [bytes_get s j h]
 rw [e]
theorem raw_snoc (b : Nat × Nat) (l : List Nat) (x : Nat) : (l ++ [x]).foldl rawS b = ((l.foldl rawS b).1 + x, (l.foldl rawS b).2 + ((l.foldl rawS b).1 + x)) := by
 rw [List.foldl_append]; rfl
theorem extract_drop (s : ByteArray) (a : Nat) : (s.extract a s.size).data.toList = s.data.toList.drop a := by
 have : (s.extract a s.size).data = s.data.extract a s.size := by simp
 rw [this, Array.toList_extract, List.extract_eq_take_drop, List.take_of_length_le]
 rw [List.length_drop]
 exact zL _
theorem more_any (n : Nat) (hn : n < 4294967296) (s : ByteArray) (w : World) (hs : s.size ≤ 1000000000000) :
  Calls Tryz.prog 161 #[.int .u32 n, .string s] w fun e w' => e = .returned (.int .u32 (moreN n s.data.toList : Nat)) ∧ w = w' := by
 have HAND := zz (u32_and16 n (by omega) (by omega))
 have h0 := halfN_lt n
 have H0 : Hid (adF (halfN n) (natsB s.data.toList) = adF (halfN n) (natsB s.data.toList)) := rfl
 have HF : Hid (wordN (adF (halfN n) (natsB s.data.toList)) = moreN n s.data.toList) := rfl
 go_enter Tryz.func161, Tryz.ntmps161
 go_wp2
 go_loop [1, 5, 6] (fun sv lo hi => ∃ (t : ByteArray) (p : Nat × Nat), sv = .string t ∧ lo = .int .u32 (p.1 : Nat) ∧ hi = .int .u32 (p.2 : Nat) ∧ p.1 < 65521 ∧ p.2 < 65521 ∧ t.size ≤ 1000000000000 ∧ Hid (adF p (natsB t.data.toList) = adF (halfN n) (natsB s.data.toList))) (fun sv _ _ => sizS sv)
 case atStart =>
  refine ⟨s, halfN n, rfl, ?_, ?_, h0.1, h0.2, hs, rfl⟩
  ·rw [HAND.out]; unfold halfN
   rw [Int.tmod_eq_emod_of_nonneg (by omega)]
   simp
  ·unfold halfN; simp
 case round =>
  obtain ⟨t, p, rfl, rfl, rfl, hp1, hp2, ht, HA⟩ := hrel
  clear HAND h0 H0
  by_cases hz : 0 < t.size
  ·obtain ⟨m, hm, hm1, hm2, hm3⟩ : ∃ m : Nat, min (t.size : Int) 5552 = m ∧ m ≤ 5552 ∧ m ≤ t.size ∧ 0 < m := ⟨min t.size 5552, by omega, by omega, by omega, by omega⟩
   have hcase : (m = t.size ∧ t.size ≤ 5552) ∨ (m = 5552 ∧ 5552 < t.size) := by omega
   clear hm
   rcases hcase with ⟨e5, h5⟩ | ⟨e5, h5⟩
   case' inl =>
    have hc5 : (t.size : Int) ≤ 5552 := by omega
    have hmin : min (t.size : Int) 5552 = (t.size : Int) := by omega
    have em : (t.size : Int) = (m : Int) := by omega
   case' inr =>
    have hc5 : (5552 : Int) < (t.size : Int) := by omega
    have hmin : min (t.size : Int) 5552 = 5552 := by omega
    have em : (5552 : Int) = (m : Int) := by omega
   all_goals
    have EM := zz em
    clear em e5
    go_wp2
    rw [EM.out]
    clear hc5 hmin EM h5
    go_loop [5, 6, 22] (fun lo hi i => ∃ k : Nat, k ≤ m ∧ i = .int .i64 k ∧ lo = .int .u32 (((natsB t.data.toList).take k).foldl rawS p).1 ∧ hi = .int .u32 (((natsB t.data.toList).take k).foldl rawS p).2) (fun _ _ i => m - (intOf i).toNat)
    case atStart => exact ⟨0, Nat.zero_le _, rfl, rfl, rfl⟩
    case round =>
     obtain ⟨k, hk, rfl, rfl, rfl⟩ := hrel
     have hfit := fun j (hj : j ≤ 5552) => raw_fits ((natsB t.data.toList).take j) p.1 p.2 hp1 hp2 (by rw [List.length_take]; omega) (fun x hx => natsB_le _ x (List.mem_of_mem_take hx))
     by_cases hlt : k < m
     ·have hkt : k < t.size := by omega
      have h1 := hfit k (by omega)
      have h2 := hfit (k + 1) (by omega)
      have hst := nats_take t k hkt
      rw [hst, raw_snoc] at h2
      have HST : Hid (((natsB t.data.toList).take (k + 1)).foldl rawS p = _) := zz (by rw [hst, raw_snoc])
      clear hst hfit
      obtain ⟨q, hq⟩ : ∃ q, ((natsB t.data.toList).take k).foldl rawS p = q := ⟨_, rfl⟩
      have hq2 : ((natsB t.data.toList).take k).foldl rawS (p.1, p.2) = q := hq
      rw [hq2] at h1 h2
      rw [hq] at HST ⊢
      clear hq hq2
      go_wp2
      go_round
      case rel =>
       refine ⟨k + 1, by omega, by go_num, ?_, ?_⟩
       ·rw [HST.out]; go_num
       ·rw [HST.out]; go_num
      case measure => simp [intOf]; omega
     ·obtain rfl : k = m := by omega
      have h1 := hfit k (by omega)
      have had := raw_ad ((natsB t.data.toList).take k) p.1 p.2
      have hq2 : ∀ q, ((natsB t.data.toList).take k).foldl rawS p = q → ((natsB t.data.toList).take k).foldl rawS (p.1, p.2) = q := fun q h => h
      obtain ⟨q, hq⟩ : ∃ q, ((natsB t.data.toList).take k).foldl rawS p = q := ⟨_, rfl⟩
      rw [hq2 q hq] at h1 had
      rw [hq]
      have hnew : adF (q.1 % 65521, q.2 % 65521) (natsB (t.extract k t.size).data.toList) = adF (halfN n) (natsB s.data.toList) := by
       rw [had, ← HA.out, ← adF_app, extract_drop]
       congr 1
       rw [show (p.1 % 65521, p.2 % 65521) = p from by rw [Nat.mod_eq_of_lt hp1, Nat.mod_eq_of_lt hp2]]
       unfold natsB
       rw [List.map_drop, List.take_append_drop]
      have hsz : (t.extract k t.size).size = t.size - k := by simp
      have HN := zz hnew
      have HSZ := zz hsz
      clear hq hq2 had hfit hnew hsz HA
      go_wp2
      go_round
      case rel =>
       refine ⟨t.extract k t.size, (q.1 % 65521, q.2 % 65521), rfl, ?_, ?_, Nat.mod_lt _ (by decide), Nat.mod_lt _ (by decide), ?_, HN⟩
       ·simp
       ·simp
       ·rw [HSZ.out]; omega
      case measure =>
       simp [sizS]
       omega
  ·have ht0 : t.data.toList = [] := List.eq_nil_of_length_eq_zero (by have : t.data.toList.length = t.size := rfl; omega)
   have hp : p = adF (halfN n) (natsB s.data.toList) := by rw [← HA.out, ht0]; rfl
   have HW : Hid (wordN p = moreN n s.data.toList) := zz (by rw [hp]; exact HF.out)
   have HJ := zz (u32_join p.2 p.1 (by omega) (by omega) (by omega) (by omega))
   clear hp ht0 HA HF
   go_wp2
   go_ret
   refine ⟨ret_int ?_, rfl⟩
   rw [← HW.out]
   unfold wordN
   rw [HJ.out]
   omega
theorem of_any (s : ByteArray) (w : World) (hs : s.size ≤ 1000000000000) :
  Calls Tryz.prog 146 #[.string s] w fun e w' => e = .returned (.int .u32 (sumN s.data.toList : Nat)) ∧ w = w' := by
 have HM := zz (more_any 1 (by decide) s w hs)
 go_enter Tryz.func146, Tryz.ntmps146
 go_wp2_with (first | (go_at_call 161; refine HM.out.mono ?_; rintro e w1 ⟨rfl, rfl⟩))
 go_ret
 exact ⟨rfl, rfl⟩
theorem nats_drop (s : ByteArray) (j : Nat) (h : j < s.size) : (natsB s.data.toList).drop j = s[j].toNat :: (natsB s.data.toList).drop (j + 1) := by
 have hl : j < (natsB s.data.toList).length := by rw [natsB_length]; exact h
 rw [List.drop_eq_getElem_cons hl]
 have e : (natsB s.data.toList)[j] = s[j].toNat := by
  simp only [natsB, List.getElem_map]
  rw [bytes_get s j h]
 rw [e]
theorem rmore_any (n : Nat) (hn : n < 4294967296) (s : ByteArray) (w : World) (hs : s.size ≤ 1000000000000) :
  Calls Tryz.prog 163 #[.int .u32 n, .string s] w fun e w' => e = .returned (.int .u32 (moreN n s.data.toList : Nat)) ∧ w = w' := by
 have h0 := halfN_lt n
 have HF : Hid (wordN (adF (halfN n) (natsB s.data.toList)) = moreN n s.data.toList) := rfl
 go_enter Tryz.func163, Tryz.ntmps163
 go_wp2
 go_loop [5, 6, 7] (fun lo hi i => ∃ (k : Nat) (p : Nat × Nat), k ≤ s.size ∧ i = .int .i64 k ∧ lo = .int .u64 (p.1 : Nat) ∧ hi = .int .u64 (p.2 : Nat) ∧ p.1 < 65521 ∧ p.2 < 65521 ∧ Hid (adF p ((natsB s.data.toList).drop k) = adF (halfN n) (natsB s.data.toList))) (fun _ _ i => s.size - (intOf i).toNat)
 case atStart =>
  refine ⟨0, halfN n, Nat.zero_le _, rfl, ?_, ?_, h0.1, h0.2, rfl⟩
  ·unfold halfN; simp
  ·unfold halfN; simp
 case round =>
  obtain ⟨k, p, hk, rfl, rfl, rfl, hp1, hp2, HA⟩ := hrel
  clear h0
  by_cases hlt : k < s.size
  ·have hb := UInt8.toNat_lt s[k]
   have HN : Hid (adF ((p.1 + s[k].toNat) % 65521, (p.2 + (p.1 + s[k].toNat) % 65521) % 65521) ((natsB s.data.toList).drop (k + 1)) = adF (halfN n) (natsB s.data.toList)) := zz (by rw [← HA.out, nats_drop s k hlt]; rfl)
   go_wp2
   go_round
   case rel => exact ⟨k + 1, ((p.1 + s[k].toNat) % 65521, (p.2 + (p.1 + s[k].toNat) % 65521) % 65521), by omega, by go_num, by simp, by simp, Nat.mod_lt _ (by decide), Nat.mod_lt _ (by decide), HN⟩
   case measure => simp [intOf]; omega
  ·have hp : p = adF (halfN n) (natsB s.data.toList) := by
    rw [← HA.out, List.drop_of_length_le (by rw [natsB_length]; show s.size ≤ k; omega)]; rfl
   have HW : Hid (wordN p = moreN n s.data.toList) := zz (by rw [hp]; exact HF.out)
   clear hp HA HF
   go_wp2
   go_ret
   refine ⟨ret_int ?_, rfl⟩
   rw [← HW.out]
   unfold wordN
   omega
theorem rof_any (s : ByteArray) (w : World) (hs : s.size ≤ 1000000000000) :
  Calls Tryz.prog 87 #[.string s] w fun e w' => e = .returned (.int .u32 (sumN s.data.toList : Nat)) ∧ w = w' := by
 have HM := zz (rmore_any 1 (by decide) s w hs)
 go_enter Tryz.func87, Tryz.ntmps87
 go_wp2_with (first | (go_at_call 163; refine HM.out.mono ?_; rintro e w1 ⟨rfl, rfl⟩))
 go_ret
 exact ⟨rfl, rfl⟩
end
section
def evsT (xs : List TrR) : List (List Ev) := xs.map (·.L)
theorem evsT_length (xs : List TrR) : (evsT xs).length = xs.length := by unfold evsT; rw [List.length_map]
theorem evsT_get (xs : List TrR) (k : Nat) (h : k < xs.length) : (evsT xs)[k]'(by rw [evsT_length]; exact h) = xs[k].L := by simp only [evsT, List.getElem_map]
theorem hap_any (A : Option Addr) (c : Nat) (xs : List TrR) (w : World) (hn : xs.length ≤ 20000) (hr : Rd w w.heap.size A (xs.zipIdx.flatMap pgC)) (hrr : ∀ r ∈ xs, Rd w w.heap.size r.A (r.L.flatMap Ev.cells)) (ho : ∀ r ∈ xs, orderedB r.L = true) :
  Calls Tryz.prog 84 #[.slice A xs.length c] w fun e w' => e = .returned (.int .u32 (sumN (hapB (evsT xs)) : Nat)) ∧ Below w.heap.size w w' := by
 have H0 := zz (fun V => of_any ⟨#[]⟩ V (by decide))
 have HR := zz hr
 have HRR := zz hrr
 have HO := zz ho
 obtain ⟨n, hnn⟩ : ∃ n, xs.length = n := ⟨_, rfl⟩
 have HN := zz hnn
 rw [hnn] at hn ⊢
 clear hr hrr ho hnn
 go_enter Tryz.func84, Tryz.ntmps84
 go_wp2_with (first | (go_at_call 146; refine (H0.out _).mono ?_; rintro e w1 ⟨rfl, rfl⟩))
 go_loopw [3, 11] (fun v i wr => ∃ k : Nat, k ≤ n ∧ i = .int .i64 k ∧ v = .int .u32 (sumN (hapB ((evsT xs).take k)) : Nat) ∧ Hid (Below w.heap.size w wr)) (fun _ i _ => n - (intOf i).toNat)
 case atStart => exact ⟨0, Nat.zero_le _, rfl, rfl, zz (Below.refl _ _)⟩
 case round =>
  clear H0
  obtain ⟨k, hk, rfl, rfl, HB⟩ := hrel
  by_cases hlt : k < n
  ·have hks : k < xs.length := by rw [HN.out]; exact hlt
   have hzl : k < xs.zipIdx.length := by rw [List.length_zipIdx]; exact hks
   obtain ⟨b, off, rfl, hbl, hc⟩ := (HR.out.below HB.out (zL _)).at_ pgC_length (by decide) hzl
   have hbw : b < wr.heap.size := Nat.lt_of_lt_of_le hbl HB.out.size
   have hord := HO.out xs[k] (List.getElem_mem hks)
   have hrow := HRR.out xs[k] (List.getElem_mem hks)
   have hz : xs.zipIdx[k] = (xs[k], k) := by simp
   rw [hz] at hc
   have HSN := zz (hapB_take (evsT xs) k (by rw [evsT_length]; exact hks))
   rw [evsT_get xs k hks] at HSN
   obtain ⟨r, hx⟩ : ∃ r, xs[k] = r := ⟨_, rfl⟩
   rw [hx] at hc hord hrow HSN
   have c0 := hc 0 (.int .i64 (k : Nat)) rfl
   have c1 := hc 1 (.slice r.A r.L.length r.c) rfl
   rw [Nat.add_zero] at c0
   have hlen : r.L.length ≤ 64 := (ordered_ok hord).1
   have HBY := zz (fun (V : World) (hV : Below w.heap.size w V) => ebytes_any r.A r.c r.L (by omega) V ((hrow.below hV (zL _)).more hV.size) hord)
   have hbl2 := bytes_le r.L hord
   obtain ⟨m, hm⟩ : ∃ m, r.L.length = m := ⟨_, rfl⟩
   rw [hm] at c1 HBY
   have hsn := sumN_lt (hapB ((evsT xs).take k))
   have HMO : Hid (∀ V, Calls Tryz.prog 161 #[.int .u32 (sumN (hapB ((evsT xs).take k)) : Nat), .string ⟨(bytesB r.L).toArray⟩] V fun e w' => e = .returned (.int .u32 (sumN (hapB ((evsT xs).take (k + 1))) : Nat)) ∧ V = w') := zz (fun V => by
    have h := more_any (sumN (hapB ((evsT xs).take k))) hsn ⟨(bytesB r.L).toArray⟩ V (by show (bytesB r.L).toArray.size ≤ _; simp; omega)
    rw [show (⟨(bytesB r.L).toArray⟩ : ByteArray).data.toList = bytesB r.L from rfl, sumN_app, ← HSN.out] at h
    exact h)
   obtain ⟨S, hS⟩ : ∃ S, sumN (hapB ((evsT xs).take k)) = S := ⟨_, rfl⟩
   obtain ⟨BB, hBB⟩ : ∃ BB, bytesB r.L = BB := ⟨_, rfl⟩
   rw [hS] at HMO ⊢
   rw [hBB] at HMO HBY
   clear hc hord hrow hx hz hm hS hBB hsn hbl2 hlen hbl hzl HSN
   go_wp2_with (first
    | (go_at_call 160; refine (HBY.out _ (bAlloc HB.out _)).mono ?_; rintro e w2 ⟨rfl, hb2⟩; have HB2 := zz (bTrans (bAlloc HB.out _) hb2); clear hb2)
    | (go_at_call 161; refine (HMO.out _).mono ?_; rintro e w3 ⟨rfl, rfl⟩))
   go_roundw
   case rel => exact ⟨k + 1, by omega, by go_num, rfl, HB2⟩
   case measure => simp [intOf]; omega
  ·obtain rfl : n = k := by omega
   rw [List.take_of_length_le (by rw [evsT_length, HN.out]; exact zL _)]
   go_wp2
   go_ret
   exact ⟨rfl, HB.out⟩
end
section
def hapG (s d : Int) (a b : List Nat) : Nat := sumN (hapB ((preT (inpT d.toNat a b) (beginS s) (d.toNat + min a.length b.length)).map (·.2)))
theorem hapG_lt (s d : Int) (a b : List Nat) : hapG s d a b < 4294967296 := sumN_lt _
theorem pages_hap {s d : Int} {a b : List Nat} {xs : List TrR} (hs : U32 s) (hd : 0 ≤ d ∧ d ≤ 8) (ha : a.length ≤ 1000) (hb : b.length ≤ 1000) (hc : xs.map TrR.core = preT (inpT d.toNat a b) (beginS s) (d.toNat + min a.length b.length)) :
  xs.length ≤ 20000 ∧ (∀ r ∈ xs, orderedB r.L = true) ∧ sumN (hapB (evsT xs)) = hapG s d a b := by
 refine ⟨?_, ?_, ?_⟩
 ·have := rows_len hc; omega
 ·intro r hr
  have h1 : r.core ∈ preT (inpT d.toNat a b) (beginS s) (d.toNat + min a.length b.length) := by rw [← hc]; exact List.mem_map_of_mem hr
  exact preT_ordered (begin_ok hs) rfl rfl _ (by omega) _ h1
 ·unfold hapG evsT
  rw [← hc, List.map_map]
  rfl
theorem verify_good (s d x m : Int) (A B : Option Addr) (c c' : Nat) (a b : List Nat) (w : World) (hs : U32 s) (hok : rightTp d x 0 a b = true) (ha : a.length ≤ 1000) (hb : b.length ≤ 1000) (ra : Rd w w.heap.size A (a.flatMap btC)) (rb : Rd w w.heap.size B (b.flatMap btC)) :
  Calls Tryz.prog 33 #[.agg #[.int .u32 s, .int .i64 d, .int .i64 x, .int .i64 0, .slice A a.length c, .slice B b.length c', .int .u32 m]] w fun e w' => e = .returned (.int .i64 (if (hapG s d a b : Int) = m then 0 else 13)) ∧ Below w.heap.size w w' := by
 have hof : ofB d a b = false := by
  unfold rightTp at hok
  simp only [Bool.and_eq_true, Bool.not_eq_true'] at hok
  exact hok.2.2.2
 have hd : 0 ≤ d ∧ d ≤ 8 := by
  unfold ofB at hof
  simp only [Bool.or_eq_false_iff, decide_eq_false_iff_not] at hof
  omega
 have HRI := zz (fun (V : World) (hV : Below w.heap.size w V) => right_tape s d x 0 m A B c c' a b V ha hb ((ra.below hV (zL _)).more hV.size) ((rb.below hV (zL _)).more hV.size))
 rw [hok] at HRI
 have HPG := zz (fun (V : World) (hV : Below w.heap.size w V) => pages_good s d x 0 A B c c' a b (d.toNat + min a.length b.length) V hs hof (by omega) ha hb ((ra.below hV (zL _)).more hV.size) ((rb.below hV (zL _)).more hV.size))
 have HPH := zz (fun (xs : List TrR) => pages_hap (xs := xs) hs hd ha hb)
 obtain ⟨na, hna⟩ : ∃ na, a.length = na := ⟨_, rfl⟩
 obtain ⟨nb, hnb⟩ : ∃ nb, b.length = nb := ⟨_, rfl⟩
 obtain ⟨H, hH⟩ : ∃ H, hapG s d a b = H := ⟨_, rfl⟩
 rw [hna, hnb] at HRI HPG HPH ⊢
 rw [hH] at HPH ⊢
 clear ra rb ha hb hna hnb hok hof hd hH
 go_enter Tryz.func33, Tryz.ntmps33
 go_upto_region 1 with fail
 refine named1 (F := fun W => Code.wp _ _ _ _ W) ?_
 intro w1 k0 hb1 hz1
 have q7 := k0; have r0a := q7.cell 0; have r0b := q7.cell 1; have r0c := q7.cell 2; have r0d := q7.cell 3; have r0e := q7.cell 4; have r0f := q7.cell 5; have r0g := q7.cell 6; have r0l := q7.lt; simp only [zA, zB, zC] at r0a r0b r0c r0d r0e r0f r0g; clear q7
 have K0 := zz k0
 clear hz1 k0
 go_upto_region 6 with (first
  | (go_at_call 35; refine (HRI.out _ hb1).mono ?_; rintro e w2 ⟨rfl, hb2⟩; have HB2 := zz (bTrans hb1 hb2); have K2 := zz (K0.out.on hb2); have q7 := K2.out; have p0a := q7.cell 0; have p0b := q7.cell 1; have p0c := q7.cell 2; have p0d := q7.cell 3; have p0e := q7.cell 4; have p0f := q7.cell 5; have p0g := q7.cell 6; have p0l := q7.lt; simp only [zA, zB, zC] at p0a p0b p0c p0d p0e p0f p0g; clear q7; clear hb2 r0a r0b r0c r0d r0e r0f r0g r0l K0)
  | (go_at_call 16; refine (HPG.out _ HB2.out).mono ?_; rintro e w3 ⟨A', cp, xs, rfl, hcr, hown, hrows, hb3⟩; have HB3 := zz (bTrans HB2.out hb3); have K3 := zz (K2.out.on hb3); have HCR := zz hcr; have HOWN := zz hown; have HROWS := zz hrows; clear hb3 hcr hown hrows))
 obtain ⟨hxl, hxo, hxs⟩ := HPH.out xs HCR.out
 have hhp := fun (V : World) (hV : Below w3.heap.size w3 V) => hap_any A' cp xs V hxl (HOWN.out.below hV).rd (fun r hr => ((HROWS.out r hr).1.below hV).rd) hxo
 rw [hxs] at hhp
 have HHP := zz hhp
 obtain ⟨nx, hnx⟩ : ∃ nx, xs.length = nx := ⟨_, rfl⟩
 rw [hnx] at HHP ⊢
 have q7 := K3.out; have s0a := q7.cell 0; have s0b := q7.cell 1; have s0c := q7.cell 2; have s0d := q7.cell 3; have s0e := q7.cell 4; have s0f := q7.cell 5; have s0g := q7.cell 6; have s0l := q7.lt; simp only [zA, zB, zC] at s0a s0b s0c s0d s0e s0f s0g; clear q7
 clear hxl hxo hxs hhp hnx HCR HOWN HROWS HRI HPG HPH p0a p0b p0c p0d p0e p0f p0g p0l K2 HB2 hb1
 by_cases hHm : (H : Int) = m
 ·have hmm : ((H : Int) != m) = false := by simp [hHm]
  have HE := zz hHm
  clear hHm
  refine wp_region_mild (by kernel_rfl) (by kernel_rfl) ?_
  repeat (go_big_quiet_step (first | (go_at_call 84; exact mild_of (HHP.out _ (Ext.below _))) | fail))
  refine wpQuiet_nil ?_
  intro w5 hw'
  obtain ⟨⟨wq, k5⟩, hw''⟩ := hw'
  subst hw''
  go_wp2
  go_ret
  exact ⟨rfl, bTrans HB3.out k5⟩
 ·have hmm : ((H : Int) != m) = true := by simp [hHm]
  have HE := zz hHm
  clear hHm
  refine wp_region_mild (by kernel_rfl) (by kernel_rfl) ?_
  repeat (go_big_quiet_step (first | (go_at_call 84; exact mild_of (HHP.out _ (Ext.below _))) | fail))
  refine wpQuiet_nil ?_
  intro w5 hw'
  obtain ⟨⟨wq, k5⟩, hw''⟩ := hw'
  subst hw''
  go_wp2
  go_ret
  exact ⟨rfl, bTrans HB3.out k5⟩
end
end Go.Proofs.YtibeihcpehikoaaGreat
