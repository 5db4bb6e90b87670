/-
  The walks beneath: SumW, TapH, TapR.
-/
import Derived.Test.YtibeihcpehikoaaGreatNt3
import Derived.Test.YtibeihcpehikoaaGreatNt4
import Derived.Test.YtibeihcpehikoaaGreatNq41
import Derived.Test.YtibeihcpehikoaaGreatNt1
namespace Go.Proofs.YtibeihcpehikoaaGreat
open Go.RowKit
set_option maxRecDepth 100000
def sizS : Value → Nat
  | .string b => b.size
  | _ => 0
theorem wraps_u32 (n : Int) (h₀ : 0 ≤ n) (h₁ : n < 2 ^ 32) : IntKind.u32.wrap n = n := by
  rw [IntKind.wrap_u32]; omega
theorem u32_and16 (n : Int) (h0 : 0 ≤ n) (h1 : n < 4294967296) : bits .and .u32 n 65535 = n % 65536 := bits_mask .u32 32 (by decide) wraps_u32 16 (by decide) n h0 (by omega)
theorem u32_join (a b : Int) (a0 : 0 ≤ a) (a1 : a < 65536) (b0 : 0 ≤ b) (b1 : b < 65536) : bits .or .u32 (a * 65536) b = a * 65536 + b :=
  bits_join .u32 32 (by decide) wraps_u32 16 _ _ (by omega) (by omega) (by omega) b0 (by omega) (by omega)
theorem bytes_get (s : ByteArray) (j : Nat) (h : j < s.size) : s.data.toList[j]'h = s[j] := by rw [Array.getElem_toList]; rfl
theorem nats_take (s : ByteArray) (j : Nat) (h : j < s.size) : (natsB s.data.toList).take (j + 1) = (natsB s.data.toList).take j ++ [s[j].toNat] := by
  have hl : j < (natsB s.data.toList).length := by rw [natsB_length]; exact h
  rw [List.take_succ_eq_append_getElem hl]
  have e : (natsB s.data.toList)[j] = s[j].toNat := by
    simp only [natsB, List.getElem_map]
    rw [bytes_get s j h]
  rw [e]
theorem raw_snoc (b : Nat × Nat) (l : List Nat) (x : Nat) : (l ++ [x]).foldl rawS b = ((l.foldl rawS b).1 + x, (l.foldl rawS b).2 + ((l.foldl rawS b).1 + x)) := by
  rw [List.foldl_append]; rfl
theorem extract_drop (s : ByteArray) (a : Nat) : (s.extract a s.size).data.toList = s.data.toList.drop a := by
  have : (s.extract a s.size).data = s.data.extract a s.size := by simp
  rw [this, Array.toList_extract, List.extract_eq_take_drop, List.take_of_length_le]
  rw [List.length_drop]
  exact Nat.le_refl _
set_option maxHeartbeats 4000000 in
theorem more_any (n : Nat) (hn : n < 4294967296) (s : ByteArray) (w : World) (hs : s.size ≤ 1000000000000) :
    Calls Tryz.prog 161 #[.int .u32 n, .string s] w fun e w' => e = .returned (.int .u32 (moreN n s.data.toList : Nat)) ∧ w = w' := by
  have HAND := Lib.hid (u32_and16 n (by omega) (by omega))
  have h0 := halfN_lt n
  have H0 : Hid (adF (halfN n) (natsB s.data.toList) = adF (halfN n) (natsB s.data.toList)) := rfl
  have HF : Hid (wordN (adF (halfN n) (natsB s.data.toList)) = moreN n s.data.toList) := rfl
  go_enter Tryz.func161, Tryz.ntmps161
  go_wp2
  go_loop [1, 5, 6] (fun sv lo hi => ∃ (t : ByteArray) (p : Nat × Nat), sv = .string t ∧ lo = .int .u32 (p.1 : Nat) ∧ hi = .int .u32 (p.2 : Nat) ∧ p.1 < 65521 ∧ p.2 < 65521 ∧ t.size ≤ 1000000000000 ∧ Hid (adF p (natsB t.data.toList) = adF (halfN n) (natsB s.data.toList))) (fun sv _ _ => sizS sv)
  case atStart =>
    refine ⟨s, halfN n, rfl, ?_, ?_, h0.1, h0.2, hs, rfl⟩
    · rw [HAND.out]; unfold halfN
      rw [Int.tmod_eq_emod_of_nonneg (by omega)]
      simp
    · unfold halfN; simp
  case round =>
    obtain ⟨t, p, rfl, rfl, rfl, hp1, hp2, ht, HA⟩ := hrel
    clear HAND h0 H0
    by_cases hz : 0 < t.size
    · obtain ⟨m, hm, hm1, hm2, hm3⟩ : ∃ m : Nat, min (t.size : Int) 5552 = m ∧ m ≤ 5552 ∧ m ≤ t.size ∧ 0 < m := ⟨min t.size 5552, by omega, by omega, by omega, by omega⟩
      have hcase : (m = t.size ∧ t.size ≤ 5552) ∨ (m = 5552 ∧ 5552 < t.size) := by omega
      clear hm
      rcases hcase with ⟨e5, h5⟩ | ⟨e5, h5⟩
      case' inl =>
        have hc5 : (t.size : Int) ≤ 5552 := by omega
        have hmin : min (t.size : Int) 5552 = (t.size : Int) := by omega
        have em : (t.size : Int) = (m : Int) := by omega
      case' inr =>
        have hc5 : (5552 : Int) < (t.size : Int) := by omega
        have hmin : min (t.size : Int) 5552 = 5552 := by omega
        have em : (5552 : Int) = (m : Int) := by omega
      all_goals
        have EM := Lib.hid em
        clear em e5
        go_wp2
        rw [EM.out]
        clear hc5 hmin EM h5
        go_loop [5, 6, 22] (fun lo hi i => ∃ k : Nat, k ≤ m ∧ i = .int .i64 k ∧ lo = .int .u32 (((natsB t.data.toList).take k).foldl rawS p).1 ∧ hi = .int .u32 (((natsB t.data.toList).take k).foldl rawS p).2) (fun _ _ i => m - (intOf i).toNat)
        case atStart => exact ⟨0, Nat.zero_le _, rfl, rfl, rfl⟩
        case round =>
          obtain ⟨k, hk, rfl, rfl, rfl⟩ := hrel
          have hfit := fun j (hj : j ≤ 5552) => raw_fits ((natsB t.data.toList).take j) p.1 p.2 hp1 hp2 (by rw [List.length_take]; omega) (fun x hx => natsB_le _ x (List.mem_of_mem_take hx))
          by_cases hlt : k < m
          · have hkt : k < t.size := by omega
            have h1 := hfit k (by omega)
            have h2 := hfit (k + 1) (by omega)
            have hst := nats_take t k hkt
            rw [hst, raw_snoc] at h2
            have HST : Hid (((natsB t.data.toList).take (k + 1)).foldl rawS p = _) := Lib.hid (by rw [hst, raw_snoc])
            clear hst hfit
            obtain ⟨q, hq⟩ : ∃ q, ((natsB t.data.toList).take k).foldl rawS p = q := ⟨_, rfl⟩
            have hq2 : ((natsB t.data.toList).take k).foldl rawS (p.1, p.2) = q := hq
            rw [hq2] at h1 h2
            rw [hq] at HST ⊢
            clear hq hq2
            go_wp2
            go_round
            case rel =>
              refine ⟨k + 1, by omega, by go_num, ?_, ?_⟩
              · rw [HST.out]; go_num
              · rw [HST.out]; go_num
            case measure => simp [intOf]; omega
          · obtain rfl : k = m := by omega
            have h1 := hfit k (by omega)
            have had := raw_ad ((natsB t.data.toList).take k) p.1 p.2
            have hq2 : ∀ q, ((natsB t.data.toList).take k).foldl rawS p = q → ((natsB t.data.toList).take k).foldl rawS (p.1, p.2) = q := fun q h => h
            obtain ⟨q, hq⟩ : ∃ q, ((natsB t.data.toList).take k).foldl rawS p = q := ⟨_, rfl⟩
            rw [hq2 q hq] at h1 had
            rw [hq]
            have hnew : adF (q.1 % 65521, q.2 % 65521) (natsB (t.extract k t.size).data.toList) = adF (halfN n) (natsB s.data.toList) := by
              rw [had, ← HA.out, ← adF_app, extract_drop]
              congr 1
              rw [show (p.1 % 65521, p.2 % 65521) = p from by rw [Nat.mod_eq_of_lt hp1, Nat.mod_eq_of_lt hp2]]
              unfold natsB
              rw [List.map_drop, List.take_append_drop]
            have hsz : (t.extract k t.size).size = t.size - k := by simp
            have HN := Lib.hid hnew
            have HSZ := Lib.hid hsz
            clear hq hq2 had hfit hnew hsz HA
            go_wp2
            go_round
            case rel =>
              refine ⟨t.extract k t.size, (q.1 % 65521, q.2 % 65521), rfl, ?_, ?_, Nat.mod_lt _ (by decide), Nat.mod_lt _ (by decide), ?_, HN⟩
              · simp
              · simp
              · rw [HSZ.out]; omega
            case measure =>
              simp [sizS]
              omega
    · have ht0 : t.data.toList = [] := List.eq_nil_of_length_eq_zero (by have : t.data.toList.length = t.size := rfl; omega)
      have hp : p = adF (halfN n) (natsB s.data.toList) := by rw [← HA.out, ht0]; rfl
      have HW : Hid (wordN p = moreN n s.data.toList) := Lib.hid (by rw [hp]; exact HF.out)
      have HJ := Lib.hid (u32_join p.2 p.1 (by omega) (by omega) (by omega) (by omega))
      clear hp ht0 HA HF
      go_wp2
      go_ret
      refine ⟨ret_int ?_, rfl⟩
      rw [← HW.out]
      unfold wordN
      rw [HJ.out]
      omega
theorem of_any (s : ByteArray) (w : World) (hs : s.size ≤ 1000000000000) :
    Calls Tryz.prog 146 #[.string s] w fun e w' => e = .returned (.int .u32 (sumN s.data.toList : Nat)) ∧ w = w' := by
  have HM := Lib.hid (more_any 1 (by decide) s w hs)
  go_enter Tryz.func146, Tryz.ntmps146
  go_wp2_with (first | (go_at_call 161; refine HM.out.mono ?_; rintro e w1 ⟨rfl, rfl⟩))
  go_ret
  exact ⟨rfl, rfl⟩
theorem nats_drop (s : ByteArray) (j : Nat) (h : j < s.size) : (natsB s.data.toList).drop j = s[j].toNat :: (natsB s.data.toList).drop (j + 1) := by
  have hl : j < (natsB s.data.toList).length := by rw [natsB_length]; exact h
  rw [List.drop_eq_getElem_cons hl]
  have e : (natsB s.data.toList)[j] = s[j].toNat := by
    simp only [natsB, List.getElem_map]
    rw [bytes_get s j h]
  rw [e]
set_option maxHeartbeats 4000000 in
theorem rmore_any (n : Nat) (hn : n < 4294967296) (s : ByteArray) (w : World) (hs : s.size ≤ 1000000000000) :
    Calls Tryz.prog 163 #[.int .u32 n, .string s] w fun e w' => e = .returned (.int .u32 (moreN n s.data.toList : Nat)) ∧ w = w' := by
  have h0 := halfN_lt n
  have HF : Hid (wordN (adF (halfN n) (natsB s.data.toList)) = moreN n s.data.toList) := rfl
  go_enter Tryz.func163, Tryz.ntmps163
  go_wp2
  go_loop [5, 6, 7] (fun lo hi i => ∃ (k : Nat) (p : Nat × Nat), k ≤ s.size ∧ i = .int .i64 k ∧ lo = .int .u64 (p.1 : Nat) ∧ hi = .int .u64 (p.2 : Nat) ∧ p.1 < 65521 ∧ p.2 < 65521 ∧ Hid (adF p ((natsB s.data.toList).drop k) = adF (halfN n) (natsB s.data.toList))) (fun _ _ i => s.size - (intOf i).toNat)
  case atStart =>
    refine ⟨0, halfN n, Nat.zero_le _, rfl, ?_, ?_, h0.1, h0.2, rfl⟩
    · unfold halfN; simp
    · unfold halfN; simp
  case round =>
    obtain ⟨k, p, hk, rfl, rfl, rfl, hp1, hp2, HA⟩ := hrel
    clear h0
    by_cases hlt : k < s.size
    · have hb := UInt8.toNat_lt s[k]
      have HN : Hid (adF ((p.1 + s[k].toNat) % 65521, (p.2 + (p.1 + s[k].toNat) % 65521) % 65521) ((natsB s.data.toList).drop (k + 1)) = adF (halfN n) (natsB s.data.toList)) := Lib.hid (by rw [← HA.out, nats_drop s k hlt]; rfl)
      go_wp2
      go_round
      case rel => exact ⟨k + 1, ((p.1 + s[k].toNat) % 65521, (p.2 + (p.1 + s[k].toNat) % 65521) % 65521), by omega, by go_num, by simp, by simp, Nat.mod_lt _ (by decide), Nat.mod_lt _ (by decide), HN⟩
      case measure => simp [intOf]; omega
    · have hp : p = adF (halfN n) (natsB s.data.toList) := by
        rw [← HA.out, List.drop_of_length_le (by rw [natsB_length]; show s.size ≤ k; omega)]; rfl
      have HW : Hid (wordN p = moreN n s.data.toList) := Lib.hid (by rw [hp]; exact HF.out)
      clear hp HA HF
      go_wp2
      go_ret
      refine ⟨ret_int ?_, rfl⟩
      rw [← HW.out]
      unfold wordN
      omega
theorem rof_any (s : ByteArray) (w : World) (hs : s.size ≤ 1000000000000) :
    Calls Tryz.prog 87 #[.string s] w fun e w' => e = .returned (.int .u32 (sumN s.data.toList : Nat)) ∧ w = w' := by
  have HM := Lib.hid (rmore_any 1 (by decide) s w hs)
  go_enter Tryz.func87, Tryz.ntmps87
  go_wp2_with (first | (go_at_call 163; refine HM.out.mono ?_; rintro e w1 ⟨rfl, rfl⟩))
  go_ret
  exact ⟨rfl, rfl⟩
end Go.Proofs.YtibeihcpehikoaaGreat

namespace Go.Proofs.YtibeihcpehikoaaGreat
open Go.RowKit
set_option maxRecDepth 100000
set_option linter.unusedSimpArgs false
def evsT (xs : List TrR) : List (List Ev) := xs.map (·.L)
theorem evsT_length (xs : List TrR) : (evsT xs).length = xs.length := by unfold evsT; rw [List.length_map]
theorem evsT_get (xs : List TrR) (k : Nat) (h : k < xs.length) : (evsT xs)[k]'(by rw [evsT_length]; exact h) = xs[k].L := by simp only [evsT, List.getElem_map]
set_option maxHeartbeats 4000000 in
theorem hap_any (A : Option Addr) (c : Nat) (xs : List TrR) (w : World) (hn : xs.length ≤ 20000) (hr : Rd w w.heap.size A (xs.zipIdx.flatMap pgC)) (hrr : ∀ r ∈ xs, Rd w w.heap.size r.A (r.L.flatMap Ev.cells)) (ho : ∀ r ∈ xs, orderedB r.L = true) :
    Calls Tryz.prog 84 #[.slice A xs.length c] w fun e w' => e = .returned (.int .u32 (sumN (hapB (evsT xs)) : Nat)) ∧ Below w.heap.size w w' := by
  have H0 := Lib.hid (fun V => of_any ⟨#[]⟩ V (by decide))
  have HR := Lib.hid hr
  have HRR := Lib.hid hrr
  have HO := Lib.hid ho
  obtain ⟨n, hnn⟩ : ∃ n, xs.length = n := ⟨_, rfl⟩
  have HN := Lib.hid hnn
  rw [hnn] at hn ⊢
  clear hr hrr ho hnn
  go_enter Tryz.func84, Tryz.ntmps84
  go_wp2_with (first | (go_at_call 146; refine (H0.out _).mono ?_; rintro e w1 ⟨rfl, rfl⟩))
  go_loopw [3, 11] (fun v i wr => ∃ k : Nat, k ≤ n ∧ i = .int .i64 k ∧ v = .int .u32 (sumN (hapB ((evsT xs).take k)) : Nat) ∧ Hid (Below w.heap.size w wr)) (fun _ i _ => n - (intOf i).toNat)
  case atStart => exact ⟨0, Nat.zero_le _, rfl, rfl, Lib.hid (Below.refl _ _)⟩
  case round =>
    clear H0
    obtain ⟨k, hk, rfl, rfl, HB⟩ := hrel
    by_cases hlt : k < n
    · have hks : k < xs.length := by rw [HN.out]; exact hlt
      have hzl : k < xs.zipIdx.length := by rw [List.length_zipIdx]; exact hks
      obtain ⟨b, off, rfl, hbl, hc⟩ := (HR.out.below HB.out (Nat.le_refl _)).at_ pgC_length (by decide) hzl
      have hbw : b < wr.heap.size := Nat.lt_of_lt_of_le hbl HB.out.size
      have hord := HO.out xs[k] (List.getElem_mem hks)
      have hrow := HRR.out xs[k] (List.getElem_mem hks)
      have hz : xs.zipIdx[k] = (xs[k], k) := by simp
      rw [hz] at hc
      have HSN := Lib.hid (hapB_take (evsT xs) k (by rw [evsT_length]; exact hks))
      rw [evsT_get xs k hks] at HSN
      obtain ⟨r, hx⟩ : ∃ r, xs[k] = r := ⟨_, rfl⟩
      rw [hx] at hc hord hrow HSN
      have c0 := hc 0 (.int .i64 (k : Nat)) rfl
      have c1 := hc 1 (.slice r.A r.L.length r.c) rfl
      rw [Nat.add_zero] at c0
      have hlen : r.L.length ≤ 64 := (ordered_ok hord).1
      have HBY := Lib.hid (fun (V : World) (hV : Below w.heap.size w V) => ebytes_any r.A r.c r.L (by omega) V ((hrow.below hV (Nat.le_refl _)).more hV.size) hord)
      have hbl2 := bytes_le r.L hord
      obtain ⟨m, hm⟩ : ∃ m, r.L.length = m := ⟨_, rfl⟩
      rw [hm] at c1 HBY
      have hsn := sumN_lt (hapB ((evsT xs).take k))
      have HMO : Hid (∀ V, Calls Tryz.prog 161 #[.int .u32 (sumN (hapB ((evsT xs).take k)) : Nat), .string ⟨(bytesB r.L).toArray⟩] V fun e w' => e = .returned (.int .u32 (sumN (hapB ((evsT xs).take (k + 1))) : Nat)) ∧ V = w') := Lib.hid (fun V => by
        have h := more_any (sumN (hapB ((evsT xs).take k))) hsn ⟨(bytesB r.L).toArray⟩ V (by show (bytesB r.L).toArray.size ≤ _; simp; omega)
        rw [show (⟨(bytesB r.L).toArray⟩ : ByteArray).data.toList = bytesB r.L from rfl, sumN_app, ← HSN.out] at h
        exact h)
      obtain ⟨S, hS⟩ : ∃ S, sumN (hapB ((evsT xs).take k)) = S := ⟨_, rfl⟩
      obtain ⟨BB, hBB⟩ : ∃ BB, bytesB r.L = BB := ⟨_, rfl⟩
      rw [hS] at HMO ⊢
      rw [hBB] at HMO HBY
      clear hc hord hrow hx hz hm hS hBB hsn hbl2 hlen hbl hzl HSN
      go_wp2_with (first
        | (go_at_call 160; refine (HBY.out _ (bAlloc HB.out _)).mono ?_; rintro e w2 ⟨rfl, hb2⟩; have HB2 := Lib.hid (bTrans (bAlloc HB.out _) hb2); clear hb2)
        | (go_at_call 161; refine (HMO.out _).mono ?_; rintro e w3 ⟨rfl, rfl⟩))
      go_roundw
      case rel => exact ⟨k + 1, by omega, by go_num, rfl, HB2⟩
      case measure => simp [intOf]; omega
    · obtain rfl : n = k := by omega
      rw [List.take_of_length_le (by rw [evsT_length, HN.out]; exact Nat.le_refl _)]
      go_wp2
      go_ret
      exact ⟨rfl, HB.out⟩
end Go.Proofs.YtibeihcpehikoaaGreat

namespace Go.Proofs.YtibeihcpehikoaaGreat
open Go.RowKit
set_option maxRecDepth 100000
set_option linter.unusedSimpArgs false
/-- The sum of what happens in a game of these inputs. -/
def hapG (s d : Int) (a b : List Nat) : Nat := sumN (hapB ((preT (inpT d.toNat a b) (beginS s) (d.toNat + min a.length b.length)).map (·.2)))
theorem hapG_lt (s d : Int) (a b : List Nat) : hapG s d a b < 4294967296 := sumN_lt _
/-- The pages of a game, as they lie, are what 'happened' wants. -/
theorem pages_hap {s d : Int} {a b : List Nat} {xs : List TrR} (hs : U32 s) (hd : 0 ≤ d ∧ d ≤ 8) (ha : a.length ≤ 1000) (hb : b.length ≤ 1000) (hc : xs.map TrR.core = preT (inpT d.toNat a b) (beginS s) (d.toNat + min a.length b.length)) :
    xs.length ≤ 20000 ∧ (∀ r ∈ xs, orderedB r.L = true) ∧ sumN (hapB (evsT xs)) = hapG s d a b := by
  refine ⟨?_, ?_, ?_⟩
  · have := rows_len hc; omega
  · intro r hr
    have h1 : r.core ∈ preT (inpT d.toNat a b) (beginS s) (d.toNat + min a.length b.length) := by rw [← hc]; exact List.mem_map_of_mem hr
    exact preT_ordered (begin_ok hs) rfl rfl _ (by omega) _ h1
  · unfold hapG evsT
    rw [← hc, List.map_map]
    rfl
set_option maxHeartbeats 8000000 in
theorem verify_good (s d x m : Int) (A B : Option Addr) (c c' : Nat) (a b : List Nat) (w : World) (hs : U32 s) (hok : rightTp d x 0 a b = true) (ha : a.length ≤ 1000) (hb : b.length ≤ 1000) (ra : Rd w w.heap.size A (a.flatMap btC)) (rb : Rd w w.heap.size B (b.flatMap btC)) :
    Calls Tryz.prog 33 #[.agg #[.int .u32 s, .int .i64 d, .int .i64 x, .int .i64 0, .slice A a.length c, .slice B b.length c', .int .u32 m]] w fun e w' => e = .returned (.int .i64 (if (hapG s d a b : Int) = m then 0 else 13)) ∧ Below w.heap.size w w' := by
  have hof : ofB d a b = false := by
    unfold rightTp at hok
    simp only [Bool.and_eq_true, Bool.not_eq_true'] at hok
    exact hok.2.2.2
  have hd : 0 ≤ d ∧ d ≤ 8 := by
    unfold ofB at hof
    simp only [Bool.or_eq_false_iff, decide_eq_false_iff_not] at hof
    omega
  have HRI := Lib.hid (fun (V : World) (hV : Below w.heap.size w V) => right_tape s d x 0 m A B c c' a b V ha hb ((ra.below hV (Nat.le_refl _)).more hV.size) ((rb.below hV (Nat.le_refl _)).more hV.size))
  rw [hok] at HRI
  have HPG := Lib.hid (fun (V : World) (hV : Below w.heap.size w V) => pages_good s d x 0 A B c c' a b (d.toNat + min a.length b.length) V hs hof (by omega) ha hb ((ra.below hV (Nat.le_refl _)).more hV.size) ((rb.below hV (Nat.le_refl _)).more hV.size))
  have HPH := Lib.hid (fun (xs : List TrR) => pages_hap (xs := xs) hs hd ha hb)
  obtain ⟨na, hna⟩ : ∃ na, a.length = na := ⟨_, rfl⟩
  obtain ⟨nb, hnb⟩ : ∃ nb, b.length = nb := ⟨_, rfl⟩
  obtain ⟨H, hH⟩ : ∃ H, hapG s d a b = H := ⟨_, rfl⟩
  rw [hna, hnb] at HRI HPG HPH ⊢
  rw [hH] at HPH ⊢
  clear ra rb ha hb hna hnb hok hof hd hH
  go_enter Tryz.func33, Tryz.ntmps33
  go_upto_region 1 with fail
  refine named1 (F := fun W => Code.wp _ _ _ _ W) ?_
  intro w1 k0 hb1 hz1
  have q7 := k0; have r0a := q7.cell 0; have r0b := q7.cell 1; have r0c := q7.cell 2; have r0d := q7.cell 3; have r0e := q7.cell 4; have r0f := q7.cell 5; have r0g := q7.cell 6; have r0l := q7.lt; simp only [List.getElem?_toArray, List.getElem?_cons_zero, List.getElem?_cons_succ] at r0a r0b r0c r0d r0e r0f r0g; clear q7
  have K0 := Lib.hid k0
  clear hz1 k0
  go_upto_region 6 with (first
    | (go_at_call 35; refine (HRI.out _ hb1).mono ?_; rintro e w2 ⟨rfl, hb2⟩; have HB2 := Lib.hid (bTrans hb1 hb2); have K2 := Lib.hid (K0.out.on hb2); have q7 := K2.out; have p0a := q7.cell 0; have p0b := q7.cell 1; have p0c := q7.cell 2; have p0d := q7.cell 3; have p0e := q7.cell 4; have p0f := q7.cell 5; have p0g := q7.cell 6; have p0l := q7.lt; simp only [List.getElem?_toArray, List.getElem?_cons_zero, List.getElem?_cons_succ] at p0a p0b p0c p0d p0e p0f p0g; clear q7; clear hb2 r0a r0b r0c r0d r0e r0f r0g r0l K0)
    | (go_at_call 16; refine (HPG.out _ HB2.out).mono ?_; rintro e w3 ⟨A', cp, xs, rfl, hcr, hown, hrows, hb3⟩; have HB3 := Lib.hid (bTrans HB2.out hb3); have K3 := Lib.hid (K2.out.on hb3); have HCR := Lib.hid hcr; have HOWN := Lib.hid hown; have HROWS := Lib.hid hrows; clear hb3 hcr hown hrows))
  obtain ⟨hxl, hxo, hxs⟩ := HPH.out xs HCR.out
  have hhp := fun (V : World) (hV : Below w3.heap.size w3 V) => hap_any A' cp xs V hxl (HOWN.out.below hV).rd (fun r hr => ((HROWS.out r hr).1.below hV).rd) hxo
  rw [hxs] at hhp
  have HHP := Lib.hid hhp
  obtain ⟨nx, hnx⟩ : ∃ nx, xs.length = nx := ⟨_, rfl⟩
  rw [hnx] at HHP ⊢
  have q7 := K3.out; have s0a := q7.cell 0; have s0b := q7.cell 1; have s0c := q7.cell 2; have s0d := q7.cell 3; have s0e := q7.cell 4; have s0f := q7.cell 5; have s0g := q7.cell 6; have s0l := q7.lt; simp only [List.getElem?_toArray, List.getElem?_cons_zero, List.getElem?_cons_succ] at s0a s0b s0c s0d s0e s0f s0g; clear q7
  clear hxl hxo hxs hhp hnx HCR HOWN HROWS HRI HPG HPH p0a p0b p0c p0d p0e p0f p0g p0l K2 HB2 hb1
  by_cases hHm : (H : Int) = m
  · have hmm : ((H : Int) != m) = false := by simp [hHm]
    have HE := Lib.hid hHm
    clear hHm
    refine wp_region_mild (by kernel_rfl) (by kernel_rfl) ?_
    repeat (go_big_quiet_step (first | (go_at_call 84; exact mild_of (HHP.out _ (Ext.below _))) | fail))
    refine wpQuiet_nil ?_
    intro w5 hw'
    obtain ⟨⟨wq, k5⟩, hw''⟩ := hw'
    subst hw''
    go_wp2
    go_ret
    exact ⟨rfl, bTrans HB3.out k5⟩
  · have hmm : ((H : Int) != m) = true := by simp [hHm]
    have HE := Lib.hid hHm
    clear hHm
    refine wp_region_mild (by kernel_rfl) (by kernel_rfl) ?_
    repeat (go_big_quiet_step (first | (go_at_call 84; exact mild_of (HHP.out _ (Ext.below _))) | fail))
    refine wpQuiet_nil ?_
    intro w5 hw'
    obtain ⟨⟨wq, k5⟩, hw''⟩ := hw'
    subst hw''
    go_wp2
    go_ret
    exact ⟨rfl, bTrans HB3.out k5⟩
end Go.Proofs.YtibeihcpehikoaaGreat
