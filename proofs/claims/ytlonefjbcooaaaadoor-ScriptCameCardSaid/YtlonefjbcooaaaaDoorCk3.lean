/-
  The walks beneath: SumP, SumN, SumW, ScCa, ScHd, ScCd, ScCw, ScOp, ScOu, ScTab.
-/
import Derived.Lib.LaidTab
import Derived.Stop.LaidErr
import Derived.Test.YtlonefjbcooaaaaDoorBase
import Derived.Test.YtlonefjbcooaaaaDoorCk1
import Derived.Test.YtlonefjbcooaaaaDoorCk2
import Derived.Test.YtlonefjbcooaaaaDoorMixY
import Derived.Test.YtlonefjbcooaaaaDoorScPr
import Derived.Test.YtlonefjbcooaaaaDoorScSm
import Derived.Test.YtlonefjbcooaaaaDoorMildL
import Derived.Test.YtlonefjbcooaaaaDoorScPt
import Derived.Test.YtlonefjbcooaaaaDoorScN
import Derived.Test.YtlonefjbcooaaaaDoorCards
namespace Go.Proofs.YtlonefjbcooaaaaDoor
def adS (b : Nat × Nat) (x : Nat) : Nat × Nat := ((b.1 + x) % 65521, (b.2 + (b.1 + x) % 65521) % 65521)
def rawS (b : Nat × Nat) (x : Nat) : Nat × Nat := (b.1 + x, b.2 + (b.1 + x))
/-- The bytes gone on with. -/
def adF (b : Nat × Nat) (s : List Nat) : Nat × Nat := s.foldl adS b
theorem adF_app (b : Nat × Nat) (s t : List Nat) : adF b (s ++ t) = adF (adF b s) t := by unfold adF; rw [List.foldl_append]
theorem raw_ad : ∀ (s : List Nat) (l h : Nat), ((s.foldl rawS (l, h)).1 % 65521, (s.foldl rawS (l, h)).2 % 65521) = adF (l % 65521, h % 65521) s
  | [], _, _ => rfl
  | x :: s, l, h => by
    have := raw_ad s (l + x) (h + (l + x))
    unfold adF at this ⊢
    rw [List.foldl_cons, List.foldl_cons]
    show _ = List.foldl adS (adS (l % 65521, h % 65521) x) s
    have e : adS (l % 65521, h % 65521) x = ((l + x) % 65521, (h + (l + x)) % 65521) := by
      unfold adS
      simp only [Prod.mk.injEq]
      constructor
      · omega
      · omega
    rw [e]
    exact this
theorem raw_bd : ∀ (s : List Nat) (l h : Nat), (∀ x ∈ s, x ≤ 255) → (s.foldl rawS (l, h)).1 ≤ l + 255 * s.length ∧ 2 * (s.foldl rawS (l, h)).2 ≤ 2 * h + 2 * (s.length * l) + 255 * (s.length * (s.length + 1))
  | [], l, h, _ => by simp
  | x :: s, l, h, hx => by
    obtain ⟨h1, h2⟩ := raw_bd s (l + x) (h + (l + x)) (fun y hy => hx y (by simp [hy]))
    have hx0 := hx x (by simp)
    rw [List.foldl_cons, List.length_cons]
    show (s.foldl rawS (l + x, h + (l + x))).1 ≤ _ ∧ 2 * (s.foldl rawS (l + x, h + (l + x))).2 ≤ _
    refine ⟨by omega, ?_⟩
    have e1 : (s.length + 1) * l = s.length * l + l := Nat.succ_mul _ _
    have e2 : s.length * (l + x) = s.length * l + s.length * x := Nat.mul_add _ _ _
    have e3 : s.length * x ≤ s.length * 255 := Nat.mul_le_mul_left _ hx0
    have e4 : (s.length + 1) * (s.length + 1 + 1) = s.length * (s.length + 1) + 2 * s.length + 2 := by
      rw [Nat.succ_mul, Nat.mul_succ]; omega
    rw [e1, e4]
    rw [e2] at h2
    omega
/-- A stretch fits into 32 bits. -/
theorem raw_fits (s : List Nat) (l h : Nat) (hl : l < 65521) (hh : h < 65521) (hs : s.length ≤ 5552) (hx : ∀ x ∈ s, x ≤ 255) : (s.foldl rawS (l, h)).1 < 4294967296 ∧ (s.foldl rawS (l, h)).2 < 4294967296 := by
  obtain ⟨h1, h2⟩ := raw_bd s l h hx
  have e1 : s.length * l ≤ 5552 * 65520 := Nat.mul_le_mul hs (by omega)
  have e2 : s.length * (s.length + 1) ≤ 5552 * 5553 := Nat.mul_le_mul hs (by omega)
  constructor <;> omega
theorem adF_lt (b : Nat × Nat) (hb : b.1 < 65521 ∧ b.2 < 65521) : ∀ s, (adF b s).1 < 65521 ∧ (adF b s).2 < 65521 := fun s => by
  induction s generalizing b with
  | nil => exact hb
  | cons x s ih => exact ih (adS b x) ⟨Nat.mod_lt _ (by decide), Nat.mod_lt _ (by decide)⟩
end Go.Proofs.YtlonefjbcooaaaaDoor

namespace Go.Proofs.YtlonefjbcooaaaaDoor
def natsB (s : List UInt8) : List Nat := s.map UInt8.toNat
theorem natsB_le (s : List UInt8) : ∀ x ∈ natsB s, x ≤ 255 := fun x hx => by
  obtain ⟨b, -, rfl⟩ := List.mem_map.1 hx
  have := UInt8.toNat_lt b
  omega
theorem natsB_length (s : List UInt8) : (natsB s).length = s.length := by unfold natsB; rw [List.length_map]
/-- Both halves of a sum that is gone on with. -/
def halfN (n : Nat) : Nat × Nat := (n % 65536 % 65521, n / 65536 % 65521)
theorem halfN_lt (n : Nat) : (halfN n).1 < 65521 ∧ (halfN n).2 < 65521 := ⟨Nat.mod_lt _ (by decide), Nat.mod_lt _ (by decide)⟩
def wordN (p : Nat × Nat) : Nat := p.2 * 65536 + p.1
theorem halfN_word {p : Nat × Nat} (h : p.1 < 65521 ∧ p.2 < 65521) : halfN (wordN p) = p := by
  unfold halfN wordN
  obtain ⟨a, b⟩ := p
  simp only at h
  simp only [Prod.mk.injEq]
  constructor <;> omega
/-- A sum gone on with. -/
def moreN (n : Nat) (s : List UInt8) : Nat := wordN (adF (halfN n) (natsB s))
def sumN (s : List UInt8) : Nat := moreN 1 s
theorem moreN_lt (n : Nat) (s : List UInt8) : moreN n s < 4294967296 := by
  obtain ⟨h1, h2⟩ := adF_lt _ (halfN_lt n) (natsB s)
  unfold moreN wordN
  omega
theorem moreN_app (n : Nat) (s t : List UInt8) : moreN (moreN n s) t = moreN n (s ++ t) := by
  have h := adF_lt _ (halfN_lt n) (natsB s)
  unfold moreN
  rw [halfN_word h, ← adF_app, natsB, natsB, natsB, ← List.map_append]
theorem sumN_app (s t : List UInt8) : moreN (sumN s) t = sumN (s ++ t) := moreN_app 1 s t
theorem sumN_lt (s : List UInt8) : sumN s < 4294967296 := moreN_lt 1 s
theorem sumN_nil : sumN [] = 1 := rfl
end Go.Proofs.YtlonefjbcooaaaaDoor

namespace Go.Proofs.YtlonefjbcooaaaaDoor
open Go.RowKit
set_option maxRecDepth 100000
def sizS : Value → Nat
  | .string b => b.size
  | _ => 0
theorem wraps_u32 (n : Int) (h₀ : 0 ≤ n) (h₁ : n < 2 ^ 32) : IntKind.u32.wrap n = n := by
  rw [IntKind.wrap_u32]; omega
theorem u32_and16 (n : Int) (h0 : 0 ≤ n) (h1 : n < 4294967296) : bits .and .u32 n 65535 = n % 65536 := bits_mask .u32 32 (by decide) wraps_u32 16 (by decide) n h0 (by omega)
theorem u32_join (a b : Int) (a0 : 0 ≤ a) (a1 : a < 65536) (b0 : 0 ≤ b) (b1 : b < 65536) : bits .or .u32 (a * 65536) b = a * 65536 + b :=
  bits_join .u32 32 (by decide) wraps_u32 16 _ _ (by omega) (by omega) (by omega) b0 (by omega) (by omega)
theorem sbytes_get (s : ByteArray) (j : Nat) (h : j < s.size) : s.data.toList[j]'h = s[j] := by rw [Array.getElem_toList]; rfl
theorem nats_take (s : ByteArray) (j : Nat) (h : j < s.size) : (natsB s.data.toList).take (j + 1) = (natsB s.data.toList).take j ++ [s[j].toNat] := by
  have hl : j < (natsB s.data.toList).length := by rw [natsB_length]; exact h
  rw [List.take_succ_eq_append_getElem hl]
  have e : (natsB s.data.toList)[j] = s[j].toNat := by
    simp only [natsB, List.getElem_map]
    rw [sbytes_get s j h]
  rw [e]
theorem raw_snoc (b : Nat × Nat) (l : List Nat) (x : Nat) : (l ++ [x]).foldl rawS b = ((l.foldl rawS b).1 + x, (l.foldl rawS b).2 + ((l.foldl rawS b).1 + x)) := by
  rw [List.foldl_append]; rfl
theorem extract_drop (s : ByteArray) (a : Nat) : (s.extract a s.size).data.toList = s.data.toList.drop a := by
  have : (s.extract a s.size).data = s.data.extract a s.size := by simp
  rw [this, Array.toList_extract, List.extract_eq_take_drop, List.take_of_length_le]
  rw [List.length_drop]
  exact Nat.le_refl _
set_option maxHeartbeats 4000000 in
theorem more_any (n : Nat) (hn : n < 4294967296) (s : ByteArray) (w : World) (hs : s.size ≤ 1000000000000) :
    Calls Tryd.prog 43 #[.int .u32 n, .string s] w fun e w' => e = .returned (.int .u32 (moreN n s.data.toList : Nat)) ∧ w = w' := by
  have HAND := Lib.hid (u32_and16 n (by omega) (by omega))
  have h0 := halfN_lt n
  have H0 : Hid (adF (halfN n) (natsB s.data.toList) = adF (halfN n) (natsB s.data.toList)) := rfl
  have HF : Hid (wordN (adF (halfN n) (natsB s.data.toList)) = moreN n s.data.toList) := rfl
  go_enter Tryd.func43, Tryd.ntmps43
  go_wp2
  go_loop [1, 5, 6] (fun sv lo hi => ∃ (t : ByteArray) (p : Nat × Nat), sv = .string t ∧ lo = .int .u32 (p.1 : Nat) ∧ hi = .int .u32 (p.2 : Nat) ∧ p.1 < 65521 ∧ p.2 < 65521 ∧ t.size ≤ 1000000000000 ∧ Hid (adF p (natsB t.data.toList) = adF (halfN n) (natsB s.data.toList))) (fun sv _ _ => sizS sv)
  case atStart =>
    refine ⟨s, halfN n, rfl, ?_, ?_, h0.1, h0.2, hs, rfl⟩
    · rw [HAND.out]; unfold halfN
      rw [Int.tmod_eq_emod_of_nonneg (by omega)]
      simp
    · unfold halfN; simp
  case round =>
    obtain ⟨t, p, rfl, rfl, rfl, hp1, hp2, ht, HA⟩ := hrel
    clear HAND h0 H0
    by_cases hz : 0 < t.size
    · obtain ⟨m, hm, hm1, hm2, hm3⟩ : ∃ m : Nat, min (t.size : Int) 5552 = m ∧ m ≤ 5552 ∧ m ≤ t.size ∧ 0 < m := ⟨min t.size 5552, by omega, by omega, by omega, by omega⟩
      have hcase : (m = t.size ∧ t.size ≤ 5552) ∨ (m = 5552 ∧ 5552 < t.size) := by omega
      clear hm
      rcases hcase with ⟨e5, h5⟩ | ⟨e5, h5⟩
      case' inl =>
        have hc5 : (t.size : Int) ≤ 5552 := by omega
        have hmin : min (t.size : Int) 5552 = (t.size : Int) := by omega
        have em : (t.size : Int) = (m : Int) := by omega
      case' inr =>
        have hc5 : (5552 : Int) < (t.size : Int) := by omega
        have hmin : min (t.size : Int) 5552 = 5552 := by omega
        have em : (5552 : Int) = (m : Int) := by omega
      all_goals
        have EM := Lib.hid em
        clear em e5
        go_wp2
        rw [EM.out]
        clear hc5 hmin EM h5
        go_loop [5, 6, 22] (fun lo hi i => ∃ k : Nat, k ≤ m ∧ i = .int .i64 k ∧ lo = .int .u32 (((natsB t.data.toList).take k).foldl rawS p).1 ∧ hi = .int .u32 (((natsB t.data.toList).take k).foldl rawS p).2) (fun _ _ i => m - (intOf i).toNat)
        case atStart => exact ⟨0, Nat.zero_le _, rfl, rfl, rfl⟩
        case round =>
          obtain ⟨k, hk, rfl, rfl, rfl⟩ := hrel
          have hfit := fun j (hj : j ≤ 5552) => raw_fits ((natsB t.data.toList).take j) p.1 p.2 hp1 hp2 (by rw [List.length_take]; omega) (fun x hx => natsB_le _ x (List.mem_of_mem_take hx))
          by_cases hlt : k < m
          · have hkt : k < t.size := by omega
            have h1 := hfit k (by omega)
            have h2 := hfit (k + 1) (by omega)
            have hst := nats_take t k hkt
            rw [hst, raw_snoc] at h2
            have HST : Hid (((natsB t.data.toList).take (k + 1)).foldl rawS p = _) := Lib.hid (by rw [hst, raw_snoc])
            clear hst hfit
            obtain ⟨q, hq⟩ : ∃ q, ((natsB t.data.toList).take k).foldl rawS p = q := ⟨_, rfl⟩
            have hq2 : ((natsB t.data.toList).take k).foldl rawS (p.1, p.2) = q := hq
            rw [hq2] at h1 h2
            rw [hq] at HST ⊢
            clear hq hq2
            go_wp2
            go_round
            case rel =>
              refine ⟨k + 1, by omega, by go_num, ?_, ?_⟩
              · rw [HST.out]; go_num
              · rw [HST.out]; go_num
            case measure => simp [intOf]; omega
          · obtain rfl : k = m := by omega
            have h1 := hfit k (by omega)
            have had := raw_ad ((natsB t.data.toList).take k) p.1 p.2
            have hq2 : ∀ q, ((natsB t.data.toList).take k).foldl rawS p = q → ((natsB t.data.toList).take k).foldl rawS (p.1, p.2) = q := fun q h => h
            obtain ⟨q, hq⟩ : ∃ q, ((natsB t.data.toList).take k).foldl rawS p = q := ⟨_, rfl⟩
            rw [hq2 q hq] at h1 had
            rw [hq]
            have hnew : adF (q.1 % 65521, q.2 % 65521) (natsB (t.extract k t.size).data.toList) = adF (halfN n) (natsB s.data.toList) := by
              rw [had, ← HA.out, ← adF_app, extract_drop]
              congr 1
              rw [show (p.1 % 65521, p.2 % 65521) = p from by rw [Nat.mod_eq_of_lt hp1, Nat.mod_eq_of_lt hp2]]
              unfold natsB
              rw [List.map_drop, List.take_append_drop]
            have hsz : (t.extract k t.size).size = t.size - k := by simp
            have HN := Lib.hid hnew
            have HSZ := Lib.hid hsz
            clear hq hq2 had hfit hnew hsz HA
            go_wp2
            go_round
            case rel =>
              refine ⟨t.extract k t.size, (q.1 % 65521, q.2 % 65521), rfl, ?_, ?_, Nat.mod_lt _ (by decide), Nat.mod_lt _ (by decide), ?_, HN⟩
              · simp
              · simp
              · rw [HSZ.out]; omega
            case measure =>
              simp [sizS]
              omega
    · have ht0 : t.data.toList = [] := List.eq_nil_of_length_eq_zero (by have : t.data.toList.length = t.size := rfl; omega)
      have hp : p = adF (halfN n) (natsB s.data.toList) := by rw [← HA.out, ht0]; rfl
      have HW : Hid (wordN p = moreN n s.data.toList) := Lib.hid (by rw [hp]; exact HF.out)
      have HJ := Lib.hid (u32_join p.2 p.1 (by omega) (by omega) (by omega) (by omega))
      clear hp ht0 HA HF
      go_wp2
      go_ret
      refine ⟨ret_int ?_, rfl⟩
      rw [← HW.out]
      unfold wordN
      rw [HJ.out]
      omega
theorem of_any (s : ByteArray) (w : World) (hs : s.size ≤ 1000000000000) :
    Calls Tryd.prog 29 #[.string s] w fun e w' => e = .returned (.int .u32 (sumN s.data.toList : Nat)) ∧ w = w' := by
  have HM := Lib.hid (more_any 1 (by decide) s w hs)
  go_enter Tryd.func29, Tryd.ntmps29
  go_wp2_with (first | (go_at_call 43; refine HM.out.mono ?_; rintro e w1 ⟨rfl, rfl⟩))
  go_ret
  exact ⟨rfl, rfl⟩
theorem nats_drop (s : ByteArray) (j : Nat) (h : j < s.size) : (natsB s.data.toList).drop j = s[j].toNat :: (natsB s.data.toList).drop (j + 1) := by
  have hl : j < (natsB s.data.toList).length := by rw [natsB_length]; exact h
  rw [List.drop_eq_getElem_cons hl]
  have e : (natsB s.data.toList)[j] = s[j].toNat := by
    simp only [natsB, List.getElem_map]
    rw [sbytes_get s j h]
  rw [e]
set_option maxHeartbeats 4000000 in
theorem rmore_any (n : Nat) (hn : n < 4294967296) (s : ByteArray) (w : World) (hs : s.size ≤ 1000000000000) :
    Calls Tryd.prog 49 #[.int .u32 n, .string s] w fun e w' => e = .returned (.int .u32 (moreN n s.data.toList : Nat)) ∧ w = w' := by
  have h0 := halfN_lt n
  have HF : Hid (wordN (adF (halfN n) (natsB s.data.toList)) = moreN n s.data.toList) := rfl
  go_enter Tryd.func49, Tryd.ntmps49
  go_wp2
  go_loop [5, 6, 7] (fun lo hi i => ∃ (k : Nat) (p : Nat × Nat), k ≤ s.size ∧ i = .int .i64 k ∧ lo = .int .u64 (p.1 : Nat) ∧ hi = .int .u64 (p.2 : Nat) ∧ p.1 < 65521 ∧ p.2 < 65521 ∧ Hid (adF p ((natsB s.data.toList).drop k) = adF (halfN n) (natsB s.data.toList))) (fun _ _ i => s.size - (intOf i).toNat)
  case atStart =>
    refine ⟨0, halfN n, Nat.zero_le _, rfl, ?_, ?_, h0.1, h0.2, rfl⟩
    · unfold halfN; simp
    · unfold halfN; simp
  case round =>
    obtain ⟨k, p, hk, rfl, rfl, rfl, hp1, hp2, HA⟩ := hrel
    clear h0
    by_cases hlt : k < s.size
    · have hb := UInt8.toNat_lt s[k]
      have HN : Hid (adF ((p.1 + s[k].toNat) % 65521, (p.2 + (p.1 + s[k].toNat) % 65521) % 65521) ((natsB s.data.toList).drop (k + 1)) = adF (halfN n) (natsB s.data.toList)) := Lib.hid (by rw [← HA.out, nats_drop s k hlt]; rfl)
      go_wp2
      go_round
      case rel => exact ⟨k + 1, ((p.1 + s[k].toNat) % 65521, (p.2 + (p.1 + s[k].toNat) % 65521) % 65521), by omega, by go_num, by simp, by simp, Nat.mod_lt _ (by decide), Nat.mod_lt _ (by decide), HN⟩
      case measure => simp [intOf]; omega
    · have hp : p = adF (halfN n) (natsB s.data.toList) := by
        rw [← HA.out, List.drop_of_length_le (by rw [natsB_length]; show s.size ≤ k; omega)]; rfl
      have HW : Hid (wordN p = moreN n s.data.toList) := Lib.hid (by rw [hp]; exact HF.out)
      clear hp HA HF
      go_wp2
      go_ret
      refine ⟨ret_int ?_, rfl⟩
      rw [← HW.out]
      unfold wordN
      omega
theorem rof_any (s : ByteArray) (w : World) (hs : s.size ≤ 1000000000000) :
    Calls Tryd.prog 34 #[.string s] w fun e w' => e = .returned (.int .u32 (sumN s.data.toList : Nat)) ∧ w = w' := by
  have HM := Lib.hid (rmore_any 1 (by decide) s w hs)
  go_enter Tryd.func34, Tryd.ntmps34
  go_wp2_with (first | (go_at_call 49; refine HM.out.mono ?_; rintro e w1 ⟨rfl, rfl⟩))
  go_ret
  exact ⟨rfl, rfl⟩
end Go.Proofs.YtlonefjbcooaaaaDoor

namespace Go.Proofs.YtlonefjbcooaaaaDoor
open Go.RowKit
set_option maxRecDepth 100000
set_option linter.unusedSimpArgs false
theorem runs_lenS {P : Program} {o : Oper} {a : Act} (m : Operand) (t e : TypeId) (hop : o.op = Op.call { callee := Callee.builtin Builtin.len, args := #[m], argTypes := #[t] }) (ht : P.underlying t = some (.slice e)) (A : Option Addr) (n c : Nat) (hm : a.eval m = .slice A n c) (W : World) : RunsTo P o a W (.int .i64 n) := by
  unfold RunsTo execOp
  simp only [hop, resolve, invoke, builtin, Sem.run_bind, Sem.run_pure, Result.andThen_ok, List.map_toArray, List.map_cons, List.map_nil, hm]
  simp [Builtin.len_, run_underlying ht, goInt, Result.andThen]
def tV (v : Value) : Told := ⟨fun u => u = v, fun _ _ => True⟩
theorem tV_st {v : Value} : ∀ u W U, (tV v).R u W → Grown W U → (tV v).R u U := fun _ _ _ _ _ => trivial
theorem tV_of {P : Program} {f : FuncId} {args : Array Value} {v : Value} {W : World} (h : Calls P f args W fun e w' => e = .returned v ∧ Below W.heap.size W w') : Calls P f args W fun e w' => ∃ u, e = .returned u ∧ ((tV v).S u ∧ (tV v).R u w') ∧ Grown W w' :=
  h.mono fun _ _ ⟨he, hb⟩ => ⟨v, he, ⟨rfl, trivial⟩, hb⟩
/-- A row of three numbers, told. -/
def tZ (ns : List Int) : Told := ⟨fun v => ∃ g, v = .slice (some ⟨g, 0, none⟩) 3 3, fun v W => ∃ g, v = .slice (some ⟨g, 0, none⟩) 3 3 ∧ OwnL W 0 3 1 (.slice (some ⟨g, 0, none⟩) 3 3) zF ns⟩
theorem tZ_st {ns : List Int} : ∀ v W U, (tZ ns).R v W → Grown W U → (tZ ns).R v U := fun _ _ _ ⟨g, hv, ho⟩ k => ⟨g, hv, ho.below k⟩
theorem goL_bs3 {W : World} {o : Oper} {a : Act} (x y z : Operand) (ho : o.op = .buildSlice 49 3 #[(0, x), (1, y), (2, z)]) (p q r : Int) (hx : a.eval x = .int .i64 p) (hy : a.eval y = .int .i64 q) (hz : a.eval z = .int .i64 r) :
    Oper.goes Tryd.prog o a W (fun v W' => ((tZ [p, q, r]).S v ∧ (tZ [p, q, r]).R v W') ∧ Grown W W') := by
  obtain ⟨i, zz, hi, hzz, hk, hb, hzs, hk0⟩ := infoI
  have hg : Oper.goes Tryd.prog o a W (fun v W' => v = .slice (some ⟨W.heap.size, 0, none⟩) 3 3 ∧ W' = W.alloc (.cells #[.int .i64 p, .int .i64 q, .int .i64 r] 3)) := by
    refine goL_bs 49 3 3 _ ho _ i zz Tryd.underlying49 hi hzz (by rw [hk]; decide) (by rw [hk]; decide) ?_
    rw [hk]
    simp only [List.map_toArray, List.map_cons, List.map_nil, hx, hy, hz]
    simp [Instr.fill, go_sem]
  refine goL_mono hg ?_
  rintro v W' ⟨rfl, rfl⟩
  exact ⟨⟨⟨_, rfl⟩, _, rfl, OwnL.lit [p, q, r] _ (Nat.zero_le _) (by simp [maxLen]) zF_length rfl rfl rfl⟩, bAlloc (Below.refl _ _) _⟩
/-- The line of what came of a move. -/
def cameL (L : List Cs) (nb : Nat) (mv : Bool) (e : Int) : List UInt8 :=
  if e = 0 then lineL (if mv then [109, 111, 118, 101, 115] else [115, 116, 97, 121, 115]) [L.length, nb, sumN (L.flatMap csB)] ++ [10] else lineL [110, 111] [e] ++ [10]
theorem outInfo : (Tryd.prog.info? 45).map (·.size) = some 3 := by kernel_rfl
set_option maxHeartbeats 8000000 in
theorem came_any (A B : Option Addr) (c nb cb : Nat) (mv : Bool) (L : List Cs) (e : Int) (he : IL64 e) (hnb : nb ≤ maxLen) (w : World) (hn : L.length ≤ 100) (hr : Rd w w.heap.size A (L.flatMap Cs.cells)) (h : ScW w w.heap.size) :
    Calls Tryd.prog 13 #[.agg #[.slice A L.length c, .slice B nb cb, .bool mv], .int .i64 e] w fun r w' => r = .returned (.string ⟨(cameL L nb mv e).toArray⟩) ∧ Below w.heap.size w w' := by
  have HS := Lib.hid h
  have HR := Lib.hid hr
  have HBY := Lib.hid (fun W hr => bytes_any A c L W (by omega) hr)
  obtain ⟨bt, hbt⟩ : ∃ bt, L.flatMap csB = bt := ⟨_, rfl⟩
  have hbl : bt.length ≤ 20000 := by have := csL_len L; rw [hbt] at this; omega
  have hof := fun W => of_any ⟨bt.toArray⟩ W (by simp [ByteArray.size]; omega)
  simp only [List.toList_toArray] at hof
  have hsl := sumN_lt bt
  obtain ⟨sm, hsm⟩ : ∃ sm, sumN bt = sm := ⟨_, rfl⟩
  rw [hsm] at hof hsl
  rw [hbt] at HBY
  obtain ⟨m, hm⟩ : ∃ m, L.length = m := ⟨_, rfl⟩
  rw [hm] at HBY hn ⊢
  have HOF := Lib.hid hof
  obtain ⟨cl, hcl⟩ : ∃ cl, cameL L nb mv e = cl := ⟨_, rfl⟩
  have HCL : Hid (cl = if e = 0 then lineL (if mv then [109, 111, 118, 101, 115] else [115, 116, 97, 121, 115]) [(m : Int), (nb : Int), (sm : Int)] ++ [10] else lineL [110, 111] [e] ++ [10]) := Lib.hid (by rw [← hcl, ← hsm, ← hbt, ← hm]; rfl)
  rw [hcl]
  unfold maxLen at hnb
  clear hr h hbt hof hsm hm hcl
  go_enter Tryd.func13, Tryd.ntmps13
  go_upto_region 1 with fail
  refine named1 (F := fun W => Code.wp _ _ _ _ W) ?_
  intro w1 k1 hb1 hz1
  have c0 := k1.cell 0
  have c1 := k1.cell 1
  have c2 := k1.cell 2
  have kl := k1.lt
  simp only [List.getElem?_toArray, List.getElem?_cons_zero, List.getElem?_cons_succ] at c0 c1 c2
  have HB1 := Lib.hid hb1
  have HS1 := Lib.hid (HS.out.on hb1)
  clear k1 hb1 hz1
  by_cases he0 : e = 0
  case neg =>
    have ge : (e != 0) = true := by rw [bne_iff_ne]; exact he0
    have HX : Hid (cl = lineL [110, 111] [e] ++ [10]) := Lib.hid (by rw [HCL.out, if_neg he0])
    have hlen := lineL_len [110, 111] [e] (by decide) (by intro q hq; simp at hq; subst hq; exact he)
    simp only [List.length_cons, List.length_nil] at hlen
    have hrz : Rd (w1.alloc (.cells #[.int .i64 e] 3)) (w1.alloc (.cells #[.int .i64 e] 3)).heap.size (some ⟨w1.heap.size, 0, none⟩) ([e].flatMap zF) := by
      have := rd_one (f := zF) w1 3 #[.int .i64 e] e rfl
      simpa using this
    have HL := Lib.hid (line_any [110, 111] _ 1 [e] _ (by simp) (by decide) (by intro q hq; simp at hq; subst hq; exact he) hrz (HS.out.on (bAlloc HB1.out (.cells #[.int .i64 e] 3))))
    have HBa := Lib.hid (bAlloc HB1.out (.cells #[.int .i64 e] 3))
    clear hrz he0
    go_wp2_with (first | (go_at_call 21; refine HL.out.mono ?_; rintro r w3 ⟨rfl, hb3⟩; have HB3 := Lib.hid (bTrans HBa.out hb3); clear hb3))
    go_ret
    exact ⟨by rw [HX.out]; exact congrArg (fun b => Ending.returned (.string b)) (str_append _ [10]), HB3.out⟩
  case pos =>
  subst he0
  cases mv with
  | false =>
    obtain ⟨nm, hnm⟩ : ∃ nm : List UInt8, [115, 116, 97, 121, 115] = nm := ⟨_, rfl⟩
    have hnl : nm.length ≤ 21 := by rw [← hnm]; decide
    have HX : Hid (cl = lineL nm [(m : Int), (nb : Int), (sm : Int)] ++ [10]) := Lib.hid (by rw [HCL.out, ← hnm]; rfl)
    have hlen := lineL_len nm [(m : Int), (nb : Int), (sm : Int)] hnl (by intro q hq; simp at hq; rcases hq with rfl | rfl | rfl <;> exact ⟨by omega, by omega⟩)
    simp only [List.length_cons, List.length_nil] at hlen
    have HLI := Lib.hid (fun A c W hr hW => line_any nm A c [(m : Int), (nb : Int), (sm : Int)] W (by simp) hnl (by intro q hq; simp at hq; rcases hq with rfl | rfl | rfl <;> exact ⟨by omega, by omega⟩) hr hW)
    simp only [List.length_cons, List.length_nil, Nat.zero_add, Nat.reduceAdd] at HLI
    have HBY6 := Lib.hid (fun W (hW : Grown w1 W) => tV_of (HBY.out W ((HR.out.below (bTrans HB1.out hW) (Nat.le_refl _)).more (Below.size (bTrans HB1.out hW)))))
    have HOF6 := Lib.hid (fun W => tV_of (v := .int .u32 (sm : Int)) ((HOF.out W).mono (R' := fun e w' => e = .returned (.int .u32 (sm : Int)) ∧ Below W.heap.size W w') (by rintro e w' ⟨rfl, rfl⟩; exact ⟨rfl, Below.refl _ _⟩)))
    clear HCL HBY HOF
    subst hnm
    go_upto_region 6 with fail
    refine wp_region_mixedY [.pure, .pure, .held, .pure, .pure, .held, .pure, .pure, .held, .make, .make, .pure, .make, .make, .pure, .pure] (fun | 9 => tV (.string ⟨bt.toArray⟩) | 10 => tV (.int .u32 (sm : Int)) | 12 => tZ [(m : Int), (nb : Int), (sm : Int)] | _ => tV (.string ⟨(lineL [115, 116, 97, 121, 115] [(m : Int), (nb : Int), (sm : Int)]).toArray⟩)) (by kernel_rfl) (by kernel_rfl) ?_
    repeat (first | (refine mixY_pure rfl rfl rfl (fun K hK => ?_); go_big_quiet_op; refine hK _ ?_; clear hK K) | (refine mixY_held rfl rfl rfl (fun K hK => ?_); go_big_quiet_op; refine hK _ ?_; clear hK K))
    refine mixY_run (.int .i64 m) rfl rfl (fun W => runs_lenS (.tmp 16) 42 82 rfl Tryd.underlying42 A m c rfl W) ?_
    simp only [Act.put, List.setIfInBounds_toArray, List.set_cons_zero, List.set_cons_succ]
    repeat (first | (refine mixY_pure rfl rfl rfl (fun K hK => ?_); go_big_quiet_op; refine hK _ ?_; clear hK K) | (refine mixY_held rfl rfl rfl (fun K hK => ?_); go_big_quiet_op; refine hK _ ?_; clear hK K))
    refine mixY_run (.int .i64 nb) rfl rfl (fun W => runs_lenS (.tmp 19) 43 9 rfl Tryd.underlying43 B nb cb rfl W) ?_
    simp only [Act.put, List.setIfInBounds_toArray, List.set_cons_zero, List.set_cons_succ]
    repeat (first | (refine mixY_pure rfl rfl rfl (fun K hK => ?_); go_big_quiet_op; refine hK _ ?_; clear hK K) | (refine mixY_held rfl rfl rfl (fun K hK => ?_); go_big_quiet_op; refine hK _ ?_; clear hK K))
    refine mixY_make rfl rfl tV_st (fun W hW hF => ?_) ?_
    · have HS2 := Lib.hid (HBY6.out W hW)
      go_simp
      with_reducible exact HS2.out
    rintro _ rfl
    simp only [Act.put, List.setIfInBounds_toArray, List.set_cons_zero, List.set_cons_succ]
    refine mixY_make rfl rfl tV_st (fun W hW hF => ?_) ?_
    · have HS2 := Lib.hid (HOF6.out W)
      go_simp
      with_reducible exact HS2.out
    rintro _ rfl
    simp only [Act.put, List.setIfInBounds_toArray, List.set_cons_zero, List.set_cons_succ]
    repeat (refine mixY_pure rfl rfl rfl (fun K hK => ?_); go_big_quiet_op; refine hK _ ?_; clear hK K)
    refine mixY_make rfl rfl tZ_st (fun W hW hF => goL_bs3 (.tmp 17) (.tmp 20) (.tmp 25) rfl _ _ _ rfl rfl rfl) ?_
    rintro v ⟨g, rfl⟩
    simp only [Act.put, List.setIfInBounds_toArray, List.set_cons_zero, List.set_cons_succ]
    refine mixY_make rfl rfl tV_st (fun W hW hF => ?_) ?_
    · obtain ⟨g', hg', ho'⟩ := (hF 12 (by kernel_rfl)).2 rfl
      simp only [Value.slice.injEq, Option.some.injEq, Addr.mk.injEq, and_true] at hg'
      subst hg'
      have HS2 := Lib.hid (tV_of (HLI.out _ 3 W ho'.rd (HS1.out.on hW)))
      clear ho'
      go_simp
      with_reducible exact HS2.out
    rintro _ rfl
    simp only [Act.put, List.setIfInBounds_toArray, List.set_cons_zero, List.set_cons_succ]
    repeat (refine mixY_pure rfl rfl rfl (fun K hK => ?_); go_big_quiet_op; refine hK _ ?_; clear hK K)
    refine mixY_nil ?_
    intro W7 hW7
    have HB7 := Lib.hid (bTrans HB1.out hW7.1)
    clear hW7
    go_wp2
    go_ret
    exact ⟨by rw [HX.out]; exact congrArg (fun b => Ending.returned (.string b)) (str_append _ [10]), HB7.out⟩
  | true =>
    obtain ⟨nm, hnm⟩ : ∃ nm : List UInt8, [109, 111, 118, 101, 115] = nm := ⟨_, rfl⟩
    have hnl : nm.length ≤ 21 := by rw [← hnm]; decide
    have HX : Hid (cl = lineL nm [(m : Int), (nb : Int), (sm : Int)] ++ [10]) := Lib.hid (by rw [HCL.out, ← hnm]; rfl)
    have hlen := lineL_len nm [(m : Int), (nb : Int), (sm : Int)] hnl (by intro q hq; simp at hq; rcases hq with rfl | rfl | rfl <;> exact ⟨by omega, by omega⟩)
    simp only [List.length_cons, List.length_nil] at hlen
    have HLI := Lib.hid (fun A c W hr hW => line_any nm A c [(m : Int), (nb : Int), (sm : Int)] W (by simp) hnl (by intro q hq; simp at hq; rcases hq with rfl | rfl | rfl <;> exact ⟨by omega, by omega⟩) hr hW)
    simp only [List.length_cons, List.length_nil, Nat.zero_add, Nat.reduceAdd] at HLI
    have HBY6 := Lib.hid (fun W (hW : Grown w1 W) => tV_of (HBY.out W ((HR.out.below (bTrans HB1.out hW) (Nat.le_refl _)).more (Below.size (bTrans HB1.out hW)))))
    have HOF6 := Lib.hid (fun W => tV_of (v := .int .u32 (sm : Int)) ((HOF.out W).mono (R' := fun e w' => e = .returned (.int .u32 (sm : Int)) ∧ Below W.heap.size W w') (by rintro e w' ⟨rfl, rfl⟩; exact ⟨rfl, Below.refl _ _⟩)))
    clear HCL HBY HOF
    subst hnm
    go_upto_region 6 with fail
    refine wp_region_mixedY [.pure, .pure, .held, .pure, .pure, .held, .pure, .pure, .held, .make, .make, .pure, .make, .make, .pure, .pure] (fun | 9 => tV (.string ⟨bt.toArray⟩) | 10 => tV (.int .u32 (sm : Int)) | 12 => tZ [(m : Int), (nb : Int), (sm : Int)] | _ => tV (.string ⟨(lineL [109, 111, 118, 101, 115] [(m : Int), (nb : Int), (sm : Int)]).toArray⟩)) (by kernel_rfl) (by kernel_rfl) ?_
    repeat (first | (refine mixY_pure rfl rfl rfl (fun K hK => ?_); go_big_quiet_op; refine hK _ ?_; clear hK K) | (refine mixY_held rfl rfl rfl (fun K hK => ?_); go_big_quiet_op; refine hK _ ?_; clear hK K))
    refine mixY_run (.int .i64 m) rfl rfl (fun W => runs_lenS (.tmp 16) 42 82 rfl Tryd.underlying42 A m c rfl W) ?_
    simp only [Act.put, List.setIfInBounds_toArray, List.set_cons_zero, List.set_cons_succ]
    repeat (first | (refine mixY_pure rfl rfl rfl (fun K hK => ?_); go_big_quiet_op; refine hK _ ?_; clear hK K) | (refine mixY_held rfl rfl rfl (fun K hK => ?_); go_big_quiet_op; refine hK _ ?_; clear hK K))
    refine mixY_run (.int .i64 nb) rfl rfl (fun W => runs_lenS (.tmp 19) 43 9 rfl Tryd.underlying43 B nb cb rfl W) ?_
    simp only [Act.put, List.setIfInBounds_toArray, List.set_cons_zero, List.set_cons_succ]
    repeat (first | (refine mixY_pure rfl rfl rfl (fun K hK => ?_); go_big_quiet_op; refine hK _ ?_; clear hK K) | (refine mixY_held rfl rfl rfl (fun K hK => ?_); go_big_quiet_op; refine hK _ ?_; clear hK K))
    refine mixY_make rfl rfl tV_st (fun W hW hF => ?_) ?_
    · have HS2 := Lib.hid (HBY6.out W hW)
      go_simp
      with_reducible exact HS2.out
    rintro _ rfl
    simp only [Act.put, List.setIfInBounds_toArray, List.set_cons_zero, List.set_cons_succ]
    refine mixY_make rfl rfl tV_st (fun W hW hF => ?_) ?_
    · have HS2 := Lib.hid (HOF6.out W)
      go_simp
      with_reducible exact HS2.out
    rintro _ rfl
    simp only [Act.put, List.setIfInBounds_toArray, List.set_cons_zero, List.set_cons_succ]
    repeat (refine mixY_pure rfl rfl rfl (fun K hK => ?_); go_big_quiet_op; refine hK _ ?_; clear hK K)
    refine mixY_make rfl rfl tZ_st (fun W hW hF => goL_bs3 (.tmp 17) (.tmp 20) (.tmp 25) rfl _ _ _ rfl rfl rfl) ?_
    rintro v ⟨g, rfl⟩
    simp only [Act.put, List.setIfInBounds_toArray, List.set_cons_zero, List.set_cons_succ]
    refine mixY_make rfl rfl tV_st (fun W hW hF => ?_) ?_
    · obtain ⟨g', hg', ho'⟩ := (hF 12 (by kernel_rfl)).2 rfl
      simp only [Value.slice.injEq, Option.some.injEq, Addr.mk.injEq, and_true] at hg'
      subst hg'
      have HS2 := Lib.hid (tV_of (HLI.out _ 3 W ho'.rd (HS1.out.on hW)))
      clear ho'
      go_simp
      with_reducible exact HS2.out
    rintro _ rfl
    simp only [Act.put, List.setIfInBounds_toArray, List.set_cons_zero, List.set_cons_succ]
    repeat (refine mixY_pure rfl rfl rfl (fun K hK => ?_); go_big_quiet_op; refine hK _ ?_; clear hK K)
    refine mixY_nil ?_
    intro W7 hW7
    have HB7 := Lib.hid (bTrans HB1.out hW7.1)
    clear hW7
    go_wp2
    go_ret
    exact ⟨by rw [HX.out]; exact congrArg (fun b => Ending.returned (.string b)) (str_append _ [10]), HB7.out⟩
end Go.Proofs.YtlonefjbcooaaaaDoor

namespace Go.Proofs.YtlonefjbcooaaaaDoor
open Go.RowKit
set_option maxRecDepth 100000
set_option linter.unusedSimpArgs false
theorem small_any (n : Int) (w : World) : Calls Tryd.prog 27 #[.int .i64 n] w fun e w' => e = .returned (.bool (smallB n)) ∧ w = w' := by
  go_enter Tryd.func27, Tryd.ntmps27
  by_cases h0 : 0 ≤ n
  · by_cases h9 : n ≤ 999999999
    · go_wp2
      go_ret
      exact ⟨by simp [smallB, h0, h9], rfl⟩
    · go_wp2
      go_ret
      exact ⟨by simp [smallB, h0, h9], rfl⟩
  · go_wp2
    go_ret
    exact ⟨by simp [smallB, h0] <;> omega, rfl⟩
theorem digS (n : Int) (h : smallB n = true) (w : World) : Calls Tryd.prog 28 #[.int .i64 n] w fun e w' => e = .returned (.string ⟨(Lib.itoa n).toArray⟩) ∧ Below w.heap.size w w' := by
  have h2 := h
  simp only [smallB, Bool.and_eq_true, decide_eq_true_eq] at h2
  have hd := digits_any n.toNat w (by omega)
  rw [Int.toNat_of_nonneg h2.1] at hd
  have : Lib.itoa n = Lib.decDigits n.toNat := by
    have := Lib.itoa_nonneg n.toNat
    rwa [Int.toNat_of_nonneg h2.1] at this
  rw [this]
  exact hd
theorem itoaS_len (n : Int) (h : smallB n = true) : (Lib.itoa n).length ≤ 21 := by
  have h2 := h
  simp only [smallB, Bool.and_eq_true, decide_eq_true_eq] at h2
  exact itoa_len n ⟨by omega, by omega⟩
/-- What Head hands back. -/
def HdQ (s : Su) (w : World) (e : Ending) (w' : World) : Prop := (∃ x : List UInt8, e = .returned (.tuple #[.string ⟨x.toArray⟩, .bool s.ok]) ∧ (s.ok = true → x = headL s) ∧ x.length ≤ 200) ∧ Below w.heap.size w w'
theorem HdQ.bad {s : Su} {w w' : World} {e : Ending} (h : s.ok = false) (he : e = .returned (.tuple #[.string ⟨#[]⟩, .bool false])) (hb : Below w.heap.size w w') : HdQ s w e w' := by
  refine ⟨⟨[], ?_, fun e => (by rw [h] at e; cases e), by simp⟩, hb⟩
  rw [he, h]
theorem HdQ.good {s : Su} {w w' : World} {e : Ending} {x : ByteArray} (h : s.ok = true) (he : e = .returned (.tuple #[.string x, .bool true])) (hx : x = ⟨(headL s).toArray⟩) (hl : (headL s).length ≤ 200) (hb : Below w.heap.size w w') : HdQ s w e w' := by
  refine ⟨⟨headL s, ?_, fun _ => rfl, hl⟩, hb⟩
  rw [he, h, hx]
theorem infoCfg : (Tryd.prog.info? 25).map (·.size) = some 4 := by kernel_rfl
theorem headS_len (s : Su) (h : ∀ n ∈ s.nums, IL64 n) : (headL s).length ≤ 154 := by
  have := lineL_len boutW s.nums (by decide) h
  have h6 : s.nums.length = 6 := rfl
  unfold headL
  omega
set_option maxHeartbeats 8000000 in
theorem rhead_any (s : Su) (hs0 : 0 ≤ s.seed) (hs1 : s.seed < 4294967296) (w : World) : Calls Tryd.prog 11 #[.agg s.cells.toArray] w (HdQ s w) := by
  obtain ⟨sd, dl, wi, me, no, pa, en, vo⟩ := s
  simp only at hs0 hs1
  simp only [Su.cells]
  go_enter Tryd.func11, Tryd.ntmps11
  go_upto_region 1 with fail
  refine named1 (F := fun W => Code.wp _ _ _ _ W) ?_
  intro w1 k1 hb1 hz1
  have K1 := Lib.hid k1
  have HB1 := Lib.hid hb1
  have kl := k1.lt
  have hr1 : w1.rangeAt w.heap.size 0 [.int .u32 sd, .int .i64 dl, .int .i64 wi, .int .i64 me] := fun i v hv => by
    rw [Nat.zero_add, k1.cell]
    rcases i with _ | _ | _ | _ | i <;> first | (simp at hv; done) | simpa using hv
  have HR1 := Lib.hid hr1
  clear k1 hb1 hz1 hr1
  go_upto_region 2 with (first
    | (refine wpList_load_mid rfl 25 (.tmp 5) rfl w.heap.size 0 rfl [.int .u32 sd, .int .i64 dl, .int .i64 wi, .int .i64 me] _ HR1.out Tryd.underlying25 rfl infoCfg ?_)
    | (refine wpList_store_mid rfl 25 (.tmp 4) (.tmp 6) rfl w1.heap.size 0 #[.int .u32 sd, .int .i64 dl, .int .i64 wi, .int .i64 me] rfl rfl (there_new _ _ _ rfl) infoCfg (by simp [Value.oneCell']) ?_
       refine named_put (F := fun W => wpList _ _ _ _ _ W) rfl ?_
       intro w2 k2 hb2 hz2
       have c0 := k2.cell 0
       have c1 := k2.cell 1
       have c2 := k2.cell 2
       have c3 := k2.cell 3
       have k12 := K1.out.on hb2
       have d4 := k12.cell 4
       have d5 := k12.cell 5
       have d6 := k12.cell 6
       have d7 := k12.cell 7
       have l2 := k2.lt
       have l1 := k12.lt
       have HB2 := Lib.hid (bTrans HB1.out hb2)
       clear k2 hb2 hz2 k12))
  simp only [List.getElem?_toArray, List.getElem?_cons_zero, List.getElem?_cons_succ] at c0 c1 c2 c3 d4 d5 d6 d7
  clear HR1 K1 HB1
  by_cases hs : smallB sd = true
  case neg =>
    have g : smallB sd = false := by simpa using hs
    clear hs
    go_wp2_with (go_at_call 27; refine (small_any _ _).mono ?_; rintro e w' ⟨rfl, rfl⟩)
    go_ret2
    exact HdQ.bad (by simp [Su.ok, Su.nums, g]) rfl HB2.out
  case pos =>
  have g1 := hs
  clear hs
  by_cases hs : smallB dl = true
  case neg =>
    have g : smallB dl = false := by simpa using hs
    clear hs
    go_wp2_with (go_at_call 27; refine (small_any _ _).mono ?_; rintro e w' ⟨rfl, rfl⟩)
    go_ret2
    exact HdQ.bad (by simp [Su.ok, Su.nums, g]) rfl HB2.out
  case pos =>
  have g2 := hs
  clear hs
  by_cases hs : smallB wi = true
  case neg =>
    have g : smallB wi = false := by simpa using hs
    clear hs
    go_wp2_with (go_at_call 27; refine (small_any _ _).mono ?_; rintro e w' ⟨rfl, rfl⟩)
    go_ret2
    exact HdQ.bad (by simp [Su.ok, Su.nums, g]) rfl HB2.out
  case pos =>
  have g3 := hs
  clear hs
  by_cases hm : me = 0
  case neg =>
    have gm : (me != 0) = true := by rw [bne_iff_ne]; exact hm
    go_wp2_with (go_at_call 27; refine (small_any _ _).mono ?_; rintro e w' ⟨rfl, rfl⟩)
    go_ret2
    exact HdQ.bad (by simp [Su.ok, hm]) rfl HB2.out
  case pos =>
  subst hm
  by_cases hm : no = 0
  case neg =>
    have gm : (no != 0) = true := by rw [bne_iff_ne]; exact hm
    go_wp2_with (go_at_call 27; refine (small_any _ _).mono ?_; rintro e w' ⟨rfl, rfl⟩)
    go_ret2
    exact HdQ.bad (by simp [Su.ok, hm]) rfl HB2.out
  case pos =>
  subst hm
  by_cases hs : smallB pa = true
  case neg =>
    have g : smallB pa = false := by simpa using hs
    clear hs
    go_wp2_with (go_at_call 27; refine (small_any _ _).mono ?_; rintro e w' ⟨rfl, rfl⟩)
    go_ret2
    exact HdQ.bad (by simp [Su.ok, Su.nums, g]) rfl HB2.out
  case pos =>
  have g4 := hs
  clear hs
  by_cases hs : smallB en = true
  case neg =>
    have g : smallB en = false := by simpa using hs
    clear hs
    go_wp2_with (go_at_call 27; refine (small_any _ _).mono ?_; rintro e w' ⟨rfl, rfl⟩)
    go_ret2
    exact HdQ.bad (by simp [Su.ok, Su.nums, g]) rfl HB2.out
  case pos =>
  have g5 := hs
  clear hs
  by_cases hs : smallB vo = true
  case neg =>
    have g : smallB vo = false := by simpa using hs
    clear hs
    go_wp2_with (go_at_call 27; refine (small_any _ _).mono ?_; rintro e w' ⟨rfl, rfl⟩)
    go_ret2
    exact HdQ.bad (by simp [Su.ok, Su.nums, g]) rfl HB2.out
  case pos =>
  have g6 := hs
  clear hs
  have HOK : Hid (Su.ok ⟨sd, dl, wi, 0, 0, pa, en, vo⟩ = true) := Lib.hid (by simp [Su.ok, Su.nums, g1, g2, g3, g4, g5, g6])
  have HLN : Hid ((headL ⟨sd, dl, wi, 0, 0, pa, en, vo⟩).length ≤ 154) := Lib.hid (headS_len _ (by
    have sm : ∀ n, smallB n = true → IL64 n := fun n h => by
      simp only [smallB, Bool.and_eq_true, decide_eq_true_eq] at h
      exact ⟨by omega, by omega⟩
    intro n hn
    simp only [Su.nums, List.mem_cons, List.not_mem_nil, or_false] at hn
    rcases hn with rfl | rfl | rfl | rfl | rfl | rfl <;> (apply sm; assumption)))
  have HE : Hid (headL ⟨sd, dl, wi, 0, 0, pa, en, vo⟩ = [98, 111, 117, 116, 32] ++ (Lib.itoa sd ++ ([32] ++ (Lib.itoa dl ++ ([32] ++ (Lib.itoa wi ++ ([32] ++ (Lib.itoa pa ++ ([32] ++ (Lib.itoa en ++ ([32] ++ Lib.itoa vo))))))))))) := Lib.hid (by
    simp [headL, lineL, Su.nums, boutW, Lib.join_cons, Lib.joinTail])
  have D1 := Lib.hid (digS sd g1)
  have D2 := Lib.hid (digS dl g2)
  have D3 := Lib.hid (digS wi g3)
  have D4 := Lib.hid (digS pa g4)
  have D5 := Lib.hid (digS en g5)
  have D6 := Lib.hid (digS vo g6)
  have l1' := itoaS_len sd g1
  have l2' := itoaS_len dl g2
  have l3' := itoaS_len wi g3
  have l4' := itoaS_len pa g4
  have l5' := itoaS_len en g5
  have l6' := itoaS_len vo g6
  go_upto_region 4 with (go_at_call 27; refine (small_any _ _).mono ?_; rintro e w' ⟨rfl, rfl⟩)
  refine wp_region_mild (by kernel_rfl) (by kernel_rfl) ?_
  repeat (go_big_quiet_step ((go_at_call 28; first | (with_reducible exact mild_of (D1.out _)) | (with_reducible exact mild_of (D2.out _)) | (with_reducible exact mild_of (D3.out _)) | (with_reducible exact mild_of (D4.out _)) | (with_reducible exact mild_of (D5.out _)) | (with_reducible exact mild_of (D6.out _)))))
  refine wpQuiet_nil ?_
  intro w7 hw'
  obtain ⟨⟨wq, k7⟩, hw''⟩ := hw'
  subst hw''
  go_wp2
  go_ret2
  exact HdQ.good HOK.out rfl (by rw [HE.out]; simp only [str_append, ← List.append_assoc]) (Nat.le_trans HLN.out (by decide)) (bTrans HB2.out k7)
end Go.Proofs.YtlonefjbcooaaaaDoor

namespace Go.Proofs.YtlonefjbcooaaaaDoor
open Go.RowKit
set_option maxRecDepth 100000
set_option linter.unusedSimpArgs false
theorem conv_one (w : World) (c : Cs) : (convert 61 9 (.slice (some ⟨w.heap.size, 0, none⟩) 1 1)).run Tryd.prog (w.alloc (.cells #[.int .u8 (c.kind % 256)] 5)) = .ok (.string ⟨(kB c).toArray⟩) (w.alloc (.cells #[.int .u8 (c.kind % 256)] 5)) := by
  refine run_convert_bytes_back (P := Tryd.prog) _ 61 9 5 ⟨w.heap.size, 0, none⟩ 1 (kB c) Tryd.underlying61 Tryd.underlying5 Tryd.underlying9 (fun j hj => ?_)
  obtain rfl : j = 0 := by simp [kB] at hj; omega
  have := cell_new_row w #[.int .u8 (c.kind % 256)] 5 _ rfl 0 _ rfl
  rw [this]
  simp only [kB, List.getElem_cons_zero]
  congr 2
  rw [UInt8.toNat_ofNat', Nat.mod_eq_of_lt (by omega)]
  omega
theorem digN (n : Nat) (hn : n ≤ 9223372036854775807) (w : World) : Calls Tryd.prog 28 #[.int .i64 (n : Int)] w fun e w' => e = .returned (.string ⟨(Lib.itoa (n : Int)).toArray⟩) ∧ Below w.heap.size w w' := by
  have := digits_any n w hn
  rw [Lib.itoa_nonneg]
  exact this
theorem cs_range {W : World} {g : Nat} {x : Cs} {xc : List Value} (h : x.cells = xc) (K : Blk W g 82 xc.toArray) : W.rangeAt g 1 x.ev.cells := fun i v hv => by
  have h1 := K.cell (1 + i)
  rw [h1, ← h]
  have hi : i < 9 := (List.getElem?_eq_some_iff.1 hv).1
  simp only [Cs.cells, List.getElem?_toArray]
  rw [Nat.add_comm, List.getElem?_cons_succ, List.getElem?_append_left hi]
  exact hv
set_option maxHeartbeats 8000000 in
theorem rcame_any (A B : Option Addr) (c nb cb : Nat) (mv : Bool) (L : List Cs) (e : Int) (he : 0 ≤ e) (he2 : e ≤ 9223372036854775807) (hnb : nb ≤ maxLen) (w : World) (hn : L.length ≤ 100) (hr : Rd w w.heap.size A (L.flatMap Cs.cells)) :
    Calls Tryd.prog 14 #[.agg #[.slice A L.length c, .slice B nb cb, .bool mv], .int .i64 e] w fun r w' => r = .returned (.string ⟨(cameL L nb mv e).toArray⟩) ∧ Below w.heap.size w w' := by
  have HR := Lib.hid hr
  have HTK := Lib.hid (fun k hk => csL_take L k hk)
  have HLN := Lib.hid (fun k => csL_len (L.take k))
  have HAL := Lib.hid (csL_len L)
  obtain ⟨cl, hcl⟩ : ∃ cl, cameL L nb mv e = cl := ⟨_, rfl⟩
  have HCL : Hid (cl = if e = 0 then lineL (if mv then [109, 111, 118, 101, 115] else [115, 116, 97, 121, 115]) [L.length, nb, sumN (L.flatMap csB)] ++ [10] else lineL [110, 111] [e] ++ [10]) := Lib.hid (by rw [← hcl]; rfl)
  rw [hcl]
  obtain ⟨m, hm⟩ : ∃ m, L.length = m := ⟨_, rfl⟩
  have HM := Lib.hid hm
  rw [hm] at HCL hn ⊢
  unfold maxLen at hnb
  clear hr hm hcl
  go_enter Tryd.func14, Tryd.ntmps14
  go_upto_region 1 with fail
  refine named1 (F := fun W => Code.wp _ _ _ _ W) ?_
  intro w1 k1 hb1 hz1
  have K1 := Lib.hid k1
  have kl := k1.lt
  have HB1 := Lib.hid hb1
  clear k1 hb1 hz1
  by_cases he0 : e = 0
  case neg =>
    have ge : (e != 0) = true := by rw [bne_iff_ne]; exact he0
    have HX : Hid (cl = [110, 111, 32] ++ (Lib.itoa e ++ [10])) := Lib.hid (by rw [HCL.out, if_neg he0]; simp [lineL, Lib.join_cons, Lib.joinTail])
    have hd := digits_any e.toNat w1 (by omega)
    rw [Int.toNat_of_nonneg he] at hd
    have hit : Lib.itoa e = Lib.decDigits e.toNat := by
      have := Lib.itoa_nonneg e.toNat
      rwa [Int.toNat_of_nonneg he] at this
    rw [← hit] at hd
    have HD : Hid (Calls Tryd.prog 28 #[.int .i64 e] w1 fun r w' => r = .returned (.string ⟨(Lib.itoa e).toArray⟩) ∧ Below w1.heap.size w1 w') := Lib.hid hd
    have hl := itoa_len e ⟨by omega, he2⟩
    clear hd hit he0
    go_wp2_with (first | (go_at_call 28; refine HD.out.mono ?_; rintro r w3 ⟨rfl, hb3⟩; have HB3 := Lib.hid (bTrans HB1.out hb3); clear hb3))
    go_ret
    exact ⟨by rw [HX.out]; simp only [str_append, ← List.append_assoc]; rfl, HB3.out⟩
  case pos =>
  subst he0
  go_wp2_with fail
  go_loopw [5, 6] (fun s i wr => ∃ j : Nat, j ≤ m ∧ i = .int .i64 j ∧ s = .string ⟨((L.take j).flatMap csB).toArray⟩ ∧ Hid (Blk wr w.heap.size 45 #[.slice A m c, .slice B nb cb, .bool mv]) ∧ Hid (Below w.heap.size w wr)) (fun _ i _ => m - (intOf i).toNat)
  case atStart => exact ⟨0, Nat.zero_le _, rfl, rfl, K1, HB1⟩
  case round =>
    clear K1 HB1
    obtain ⟨j, hj, rfl, rfl, HK, HB⟩ := hrel
    have hbl := HLN.out j
    rw [List.length_take, HM.out] at hbl
    have hK := HK.out
    have c0 := hK.cell 0
    have c1 := hK.cell 1
    have c2 := hK.cell 2
    have hlw := hK.lt
    simp only [List.getElem?_toArray, List.getElem?_cons_zero, List.getElem?_cons_succ] at c0 c1 c2
    clear hK
    by_cases hlt : j < m
    · have hjL : j < L.length := by rw [HM.out]; exact hlt
      obtain ⟨b, off, rfl, hb, hat⟩ := (HR.out.below HB.out (Nat.le_refl _)).at_ Cs.cells_length (by decide) hjL
      have htk := HTK.out j hjL
      obtain ⟨x, hx⟩ : ∃ x, L[j] = x := ⟨_, rfl⟩
      rw [hx] at hat htk
      have HRG : Hid (wr.rangeAt b (off + j * 12) x.cells) := Lib.hid hat
      have HTK1 := Lib.hid htk
      have h12 : x.cells.length = 12 := rfl
      have h11 : x.cells.toArray.all (·.oneCell') = true := by simp [Cs.cells, Ev.cells, Value.oneCell']
      have hbb : b < wr.heap.size := Nat.lt_of_lt_of_le hb HB.out.size
      have e0 : (0 : Int) ≤ (j : Int) := Int.natCast_nonneg _
      have e1 : (j : Int) < (m : Int) := by omega
      obtain ⟨P, hP⟩ : ∃ P, (L.take j).flatMap csB = P := ⟨_, rfl⟩
      rw [hP] at HTK1 hbl ⊢
      obtain ⟨xc, hxc⟩ : ∃ xc, x.cells = xc := ⟨_, rfl⟩
      rw [hxc] at HRG h12 h11
      have hxa : xc.toArray.size = 12 := by rw [List.size_toArray]; exact h12
      have HXC := Lib.hid hxc
      clear hat htk hx hP hxc c1 c2
      go_upto_region 8 with (first
        | (refine wpList_load_mid rfl 82 (.tmp 25) rfl b (off + j * 12) rfl xc _ HRG.out Tryd.underlying82 rfl (by rw [h12]; exact cmdInfo) ?_)
        | (refine wpList_store_mid rfl 82 (.tmp 7) (.tmp 26) rfl wr.heap.size 0 xc.toArray rfl rfl (there_new _ _ _ (by rw [hxa]; rfl)) (by rw [hxa]; exact cmdInfo) h11 ?_
           refine named_put (F := fun W => wpList _ _ _ _ _ W) (by rw [Array.length_toList, hxa]; rfl) ?_
           intro w2 k2 hb2 hz2
           rw [Array.toArray_toList] at k2
           have HBr2 := Lib.hid hb2
           have K2 := Lib.hid k2
           have hl2 := k2.lt
           clear k2 hb2 hz2))
      have HB2 := Lib.hid (bTrans HB.out HBr2.out)
      have HK2 := Lib.hid (HK.out.on HBr2.out)
      have hK2 := K2.out
      rw [← HXC.out] at hK2
      have d0 := hK2.cell 0
      simp only [Cs.cells, List.getElem?_toArray, List.getElem?_cons_zero] at d0
      have hcv := conv_one w2 x
      have hk1 : (kB x).length ≤ 1 := by simp [kB]
      have heL := eB_len x
      have hlL := lB_len x
      clear HBr2 HB HRG hK2 HK c0
      go_upto_region 9 with fail
      have hB3 := bAlloc HB2.out (.cells #[.int .u8 (x.kind % 256)] 5)
      have hK3 := K2.out.alloc (.cells #[.int .u8 (x.kind % 256)] 5)
      have hO3 := HK2.out.alloc (.cells #[.int .u8 (x.kind % 256)] 5)
      obtain ⟨w3, hw3⟩ : ∃ w3, w2.alloc (.cells #[.int .u8 (x.kind % 256)] 5) = w3 := ⟨_, rfl⟩
      rw [hw3] at hB3 hK3 hO3 ⊢
      have hre : w3.rangeAt wr.heap.size 1 x.ev.cells := fun i v hv => by
        have h1 := hK3.cell (1 + i)
        rw [h1, ← HXC.out]
        have hi : i < 9 := (List.getElem?_eq_some_iff.1 hv).1
        simp only [Cs.cells, List.getElem?_toArray]
        rw [Nat.add_comm, List.getElem?_cons_succ, List.getElem?_append_left hi]
        exact hv
      have HRE := Lib.hid hre
      have hl3 := hK3.lt
      have HB3 := Lib.hid hB3
      have HK3 := Lib.hid hO3
      have K3 := Lib.hid hK3
      have HPK : (⟨P.toArray⟩ : ByteArray) ++ ⟨(kB x).toArray⟩ = ⟨(P ++ kB x).toArray⟩ := str_append _ _
      rw [HPK]
      clear hw3 hB3 hK3 hO3 hre hcv d0 HB2 K2 HK2 HPK hl2
      have hP2 : (P ++ kB x).length ≤ 20000 := by rw [List.length_append]; omega
      obtain ⟨P2, hP2e⟩ : ∃ P2, P ++ kB x = P2 := ⟨_, rfl⟩
      rw [hP2e] at hP2 ⊢
      have HP2 := Lib.hid hP2e
      clear hP2e
      have hri := r11Right_any x.ev w3
      by_cases hok : evOk x.ev = true
      · rw [hok] at hri
        have HRI := Lib.hid hri
        clear hri
        go_upto_region 10 with (first
          | (refine wpList_load_mid rfl 80 (.tmp 34) rfl wr.heap.size 1 rfl x.ev.cells _ HRE.out Tryd.underlying80 rfl (by kernel_rfl) ?_)
          | (go_at_call 31; refine HRI.out.mono ?_; rintro r w4 ⟨rfl, hb4⟩; have HB34 := Lib.hid hb4; clear hb4))
        have K4 := Lib.hid (K3.out.on HB34.out)
        have HRE4 := Lib.hid (cs_range HXC.out K4.out)
        have hl4 := K4.out.lt
        have heb := rbytes_any (some ⟨w4.heap.size, 0, none⟩) 1 [x.ev] (by simp) (w4.alloc (.cells x.ev.cells.toArray 80)) (by
          have := rd_one (f := Ev.cells) w4 80 x.ev.cells.toArray x.ev rfl
          simpa using this) (by rw [ordered_one]; exact hok)
        have heq : bytesB [x.ev] = eB x := by unfold eB; rw [if_pos hok]
        rw [heq] at heb
        have HEB : Hid (Calls Tryd.prog 32 #[.slice (some ⟨w4.heap.size, 0, none⟩) 1 1] (w4.alloc (.cells x.ev.cells.toArray 80)) fun e w' => e = .returned (.string ⟨(eB x).toArray⟩) ∧ Below (w4.alloc (.cells x.ev.cells.toArray 80)).heap.size (w4.alloc (.cells x.ev.cells.toArray 80)) w') := Lib.hid heb
        have HBa := Lib.hid (show Below w4.heap.size w4 (w4.alloc (.cells x.ev.cells.toArray 80)) from bAlloc (Below.refl _ _) _)
        clear heb heq HRE HRI hok
        go_upto_region 11 with (first
          | (refine wpList_load_mid rfl 80 (.tmp 38) rfl wr.heap.size 1 rfl x.ev.cells _ HRE4.out Tryd.underlying80 rfl (by kernel_rfl) ?_)
          | (refine wpL_goes rfl (goL_bsN appE (by decide) (.tmp 39) rfl x.ev.cells.toArray rfl rfl) ?_; rintro _ _ ⟨rfl, rfl⟩)
          | (go_at_call 32; refine HEB.out.mono ?_; rintro r w5 ⟨rfl, hb5⟩; have HB45 := Lib.hid (bTrans HBa.out hb5); clear hb5))
        have K5 := Lib.hid (K4.out.on HB45.out)
        have HB5 := Lib.hid (bTrans HB3.out (bTrans HB34.out HB45.out))
        have HK5 := Lib.hid (HK3.out.on (bTrans HB34.out HB45.out))
        have HPE : (⟨P2.toArray⟩ : ByteArray) ++ ⟨(eB x).toArray⟩ = ⟨(P2 ++ eB x).toArray⟩ := str_append _ _
        rw [HPE]
        have hP3 : (P2 ++ eB x).length ≤ 20100 := by rw [List.length_append]; omega
        obtain ⟨P3, hP3e⟩ : ∃ P3, P2 ++ eB x = P3 := ⟨_, rfl⟩
        rw [hP3e] at hP3 ⊢
        have HP3 := Lib.hid hP3e
        clear hP3e HPE HRE4 HEB HBa K4 K3 HB34 HB45 HK3 HB3 hl3 hl4
        have hK5 := (K5).out
        rw [← HXC.out] at hK5
        have c10 := hK5.cell 10
        have c11 := hK5.cell 11
        simp only [Cs.cells, Ev.cells, List.getElem?_toArray, List.cons_append, List.nil_append, List.getElem?_cons_zero, List.getElem?_cons_succ] at c10 c11
        have hl5 := (K5).out.lt
        obtain ⟨N, hN⟩ : ∃ N : Nat, (x.late % 18446744073709551616).toNat = N := ⟨_, rfl⟩
        have hlate : IntKind.u64.wrap x.late = (N : Int) := by
          rw [← hN, Int.toNat_of_nonneg (by omega)]
          rfl
        have hlate2 : x.late % 18446744073709551616 = (N : Int) := by rw [← hN]; omega
        have hN64 : N < 18446744073709551616 := by omega
        have HNM := Lib.hid (fun V => rnum_any N hN64 V)
        have HLB : Hid (lB x = numB N) := Lib.hid (by unfold lB; rw [hN])
        have hnl : (numB N).length ≤ 10 := numB_le hN64
        have HCS : Hid (csB x = kB x ++ (eB x ++ (lB x ++ pB x))) := Lib.hid rfl
        have HPL : Hid (pB x = [if x.played then 1 else 0]) := Lib.hid rfl
        obtain ⟨pl, hpl⟩ : ∃ pl, x.played = pl := ⟨_, rfl⟩
        rw [hpl] at c11 HPL
        have hO5 := (HK5).out
        clear hK5 hN hpl
        cases pl
        all_goals
          go_wp2_with (first | (go_at_call 33; refine (HNM.out _).mono ?_; unfold strN; rintro r w6 ⟨rfl, hb6⟩; have c116 := (hb6.cell (p := ⟨wr.heap.size, 11, none⟩) hl5).trans c11; have hl6 := Nat.lt_of_lt_of_le hl5 hb6.size; have HB6 := Lib.hid (bTrans (HB5).out hb6); have HK6 := Lib.hid (hO5.on hb6); clear hb6))
          go_roundw
          case rel =>
            refine ⟨j + 1, by omega, by go_num, ?_, HK6, HB6⟩
            have hass : ∀ q : List UInt8, P ++ (kB x ++ (eB x ++ (numB N ++ q))) = ((P ++ kB x) ++ eB x ++ numB N) ++ q := fun q => by simp only [List.append_assoc]
            rw [HTK1.out, HCS.out, HLB.out, HPL.out, hass, HP2.out, HP3.out, ← str_append, ← str_append]
            try rfl
          case measure => simp [intOf]; omega
      · have hok : evOk x.ev = false := by simpa using hok
        rw [hok] at hri
        have HRI := Lib.hid hri
        clear hri
        go_upto_region 11 with (first
          | (refine wpList_load_mid rfl 80 (.tmp 34) rfl wr.heap.size 1 rfl x.ev.cells _ HRE.out Tryd.underlying80 rfl (by kernel_rfl) ?_)
          | (go_at_call 31; refine HRI.out.mono ?_; rintro r w4 ⟨rfl, hb4⟩; have HB34 := Lib.hid hb4; clear hb4))
        have K5 := Lib.hid (K3.out.on HB34.out)
        have HB5 := Lib.hid (bTrans HB3.out HB34.out)
        have HK5 := Lib.hid (HK3.out.on HB34.out)
        have heq : eB x = [] := by unfold eB; rw [hok]; rfl
        have HP3 : Hid (P2 ++ eB x = P2) := Lib.hid (by rw [heq, List.append_nil])
        clear heq HRE K3 HB34 HK3 HB3 hl3 hok HRI
        have hK5 := (K5).out
        rw [← HXC.out] at hK5
        have c10 := hK5.cell 10
        have c11 := hK5.cell 11
        simp only [Cs.cells, Ev.cells, List.getElem?_toArray, List.cons_append, List.nil_append, List.getElem?_cons_zero, List.getElem?_cons_succ] at c10 c11
        have hl5 := (K5).out.lt
        obtain ⟨N, hN⟩ : ∃ N : Nat, (x.late % 18446744073709551616).toNat = N := ⟨_, rfl⟩
        have hlate : IntKind.u64.wrap x.late = (N : Int) := by
          rw [← hN, Int.toNat_of_nonneg (by omega)]
          rfl
        have hlate2 : x.late % 18446744073709551616 = (N : Int) := by rw [← hN]; omega
        have hN64 : N < 18446744073709551616 := by omega
        have HNM := Lib.hid (fun V => rnum_any N hN64 V)
        have HLB : Hid (lB x = numB N) := Lib.hid (by unfold lB; rw [hN])
        have hnl : (numB N).length ≤ 10 := numB_le hN64
        have HCS : Hid (csB x = kB x ++ (eB x ++ (lB x ++ pB x))) := Lib.hid rfl
        have HPL : Hid (pB x = [if x.played then 1 else 0]) := Lib.hid rfl
        obtain ⟨pl, hpl⟩ : ∃ pl, x.played = pl := ⟨_, rfl⟩
        rw [hpl] at c11 HPL
        have hO5 := (HK5).out
        clear hK5 hN hpl
        cases pl
        all_goals
          go_wp2_with (first | (go_at_call 33; refine (HNM.out _).mono ?_; unfold strN; rintro r w6 ⟨rfl, hb6⟩; have c116 := (hb6.cell (p := ⟨wr.heap.size, 11, none⟩) hl5).trans c11; have hl6 := Nat.lt_of_lt_of_le hl5 hb6.size; have HB6 := Lib.hid (bTrans (HB5).out hb6); have HK6 := Lib.hid (hO5.on hb6); clear hb6))
          go_roundw
          case rel =>
            refine ⟨j + 1, by omega, by go_num, ?_, HK6, HB6⟩
            have hass : ∀ q : List UInt8, P ++ (kB x ++ (eB x ++ (numB N ++ q))) = ((P ++ kB x) ++ eB x ++ numB N) ++ q := fun q => by simp only [List.append_assoc]
            rw [HTK1.out, HCS.out, HLB.out, HPL.out, hass, HP2.out, HP3.out, ← str_append, ← str_append]
            try rfl
          case measure => simp [intOf]; omega
    · obtain rfl : j = m := by omega
      have hfull : L.take j = L := List.take_of_length_le (by rw [HM.out]; exact Nat.le_refl _)
      rw [hfull] at hbl ⊢
      obtain ⟨bt, hbt⟩ : ∃ bt, L.flatMap csB = bt := ⟨_, rfl⟩
      rw [hbt] at hbl HCL ⊢
      have hof := fun W => rof_any ⟨bt.toArray⟩ W (by simp [ByteArray.size]; omega)
      simp only [List.toList_toArray] at hof
      have hsl := sumN_lt bt
      obtain ⟨sm, hsm⟩ : ∃ sm, sumN bt = sm := ⟨_, rfl⟩
      rw [hsm] at hof hsl HCL
      have HOF := Lib.hid hof
      have D1 := Lib.hid (fun V => digN j (by omega) V)
      have D2 := Lib.hid (fun V => digN nb (by omega) V)
      have D3 := Lib.hid (fun V => digN sm (by omega) V)
      have l1 := itoa_len (j : Int) ⟨by omega, by omega⟩
      have l2 := itoa_len (nb : Int) ⟨by omega, by omega⟩
      have l3 := itoa_len (sm : Int) ⟨by omega, by omega⟩
      clear hfull hbt hof hsm HTK HLN HAL HM HR hlt
      cases mv with
      | false =>
        have HX : Hid (cl = [115, 116, 97, 121, 115, 32] ++ (Lib.itoa (j : Int) ++ ([32] ++ (Lib.itoa (nb : Int) ++ ([32] ++ (Lib.itoa (sm : Int) ++ [10])))))) := Lib.hid (by rw [HCL.out]; simp [lineL, Lib.join_cons, Lib.joinTail])
        clear HCL
        go_upto_region 18 with fail
        refine wp_region_mild (by kernel_rfl) (by kernel_rfl) ?_
        repeat (go_big_quiet_step ((first | (go_at_call 28; first | (with_reducible exact mild_of (D1.out _)) | (with_reducible exact mild_of (D2.out _)) | (with_reducible exact mild_of (D3.out _))) | (go_at_call 34; exact mild_same (HOF.out _)))))
        refine wpQuiet_nil ?_
        intro w7 hw'
        obtain ⟨⟨wq, k7⟩, hw''⟩ := hw'
        subst hw''
        have HB7 := Lib.hid (bTrans HB.out k7)
        go_wp2
        go_ret
        exact ⟨by rw [HX.out]; simp only [str_append, ← List.append_assoc]; rfl, HB7.out⟩
      | true =>
        have HX : Hid (cl = [109, 111, 118, 101, 115, 32] ++ (Lib.itoa (j : Int) ++ ([32] ++ (Lib.itoa (nb : Int) ++ ([32] ++ (Lib.itoa (sm : Int) ++ [10])))))) := Lib.hid (by rw [HCL.out]; simp [lineL, Lib.join_cons, Lib.joinTail])
        clear HCL
        go_upto_region 18 with fail
        refine wp_region_mild (by kernel_rfl) (by kernel_rfl) ?_
        repeat (go_big_quiet_step ((first | (go_at_call 28; first | (with_reducible exact mild_of (D1.out _)) | (with_reducible exact mild_of (D2.out _)) | (with_reducible exact mild_of (D3.out _))) | (go_at_call 34; exact mild_same (HOF.out _)))))
        refine wpQuiet_nil ?_
        intro w7 hw'
        obtain ⟨⟨wq, k7⟩, hw''⟩ := hw'
        subst hw''
        have HB7 := Lib.hid (bTrans HB.out k7)
        go_wp2
        go_ret
        exact ⟨by rw [HX.out]; simp only [str_append, ← List.append_assoc]; rfl, HB7.out⟩
end Go.Proofs.YtlonefjbcooaaaaDoor

namespace Go.Proofs.YtlonefjbcooaaaaDoor
open Go.RowKit
set_option maxRecDepth 100000
set_option linter.unusedSimpArgs false
set_option maxHeartbeats 8000000 in
theorem cames_all (A B : Option Addr) (c nb cb : Nat) (mv : Bool) (L : List Cs) (e : Int) (he : IL64 e) (hnb : nb ≤ maxLen) (hmx : L.length ≤ maxLen) (w : World) (hr : Rd w w.heap.size A (L.flatMap Cs.cells)) (h : ScW w w.heap.size) :
    Calls Tryd.prog 5 #[.agg #[.slice A L.length c, .slice B nb cb, .bool mv], .int .i64 e] w fun r w' => r = .returned (.bool true) ∧ Below w.heap.size w w' := by
  have HS := Lib.hid h
  have HR := Lib.hid hr
  have HA := Lib.hid (fun W hW => awake27_any W hW)
  have HC := Lib.hid (fun hn W hr hW => came_any A B c nb cb mv L e he hnb W hn hr hW)
  have HD := Lib.hid (fun h0 hn W hr => rcame_any A B c nb cb mv L e h0 he.2 hnb W hn hr)
  obtain ⟨cl, hcl⟩ : ∃ cl, cameL L nb mv e = cl := ⟨_, rfl⟩
  rw [hcl] at HC HD
  obtain ⟨m, hm⟩ : ∃ m, L.length = m := ⟨_, rfl⟩
  rw [hm] at HC HD hmx ⊢
  unfold maxLen at hmx
  clear hr h hm hcl
  go_enter Tryd.func5, Tryd.ntmps5
  go_upto_region 1 with fail
  refine named1 (F := fun W => Code.wp _ _ _ _ W) ?_
  intro w1 k1 hb1 hz1
  have K1 := Lib.hid k1
  have HB1 := Lib.hid hb1
  have HS1 := Lib.hid (HS.out.on hb1)
  clear k1 hb1 hz1
  go_upto_region 3 with (first | (go_at_call 6; refine (HA.out _ HS1.out).mono ?_; rintro r w2 ⟨rfl, hb2⟩; have HB2 := Lib.hid (bTrans HB1.out hb2); have K2 := Lib.hid (K1.out.on hb2); clear hb2))
  have hk2 := K2.out
  have c0 := hk2.cell 0
  have c1 := hk2.cell 1
  have c2 := hk2.cell 2
  have kl2 := hk2.lt
  simp only [List.getElem?_toArray, List.getElem?_cons_zero, List.getElem?_cons_succ] at c0 c1 c2
  clear hk2
  by_cases h1 : 100 < m
  case pos =>
    go_wp2
    go_ret
    exact ⟨rfl, HB2.out⟩
  case neg =>
  by_cases h0 : e < 0
  case pos =>
    go_wp2
    go_ret
    exact ⟨rfl, HB2.out⟩
  case neg =>
  have hm1 : m ≤ 100 := by omega
  have he0 : 0 ≤ e := by omega
  have HCV := Lib.hid (fun V (hV : Below w2.heap.size w2 V) => HC.out hm1 V ((HR.out.below (bTrans HB2.out hV) (Nat.le_refl _)).more (bTrans HB2.out hV).size) (HS.out.on (bTrans HB2.out hV)))
  have HDV := Lib.hid (fun V (hV : Below w2.heap.size w2 V) => HD.out he0 hm1 V ((HR.out.below (bTrans HB2.out hV) (Nat.le_refl _)).more (bTrans HB2.out hV).size))
  have hr2 : w2.rangeAt w.heap.size 0 [.slice A m c, .slice B nb cb, .bool mv] := fun i v hv => by rw [Nat.zero_add, K2.out.cell]; simpa using hv
  have HR2 := Lib.hid hr2
  clear HC HD K1 hr2
  go_upto_region 5 with fail
  refine wp_region_mild (by kernel_rfl) (by kernel_rfl) ?_
  repeat (go_big_quiet_step ((first | (go_at_call 13; (with_reducible exact mild_of (HCV.out _ (Ext.below _)))) | (go_at_call 14; (with_reducible exact mild_of (HDV.out _ (Ext.below _)))))))
  refine wpQuiet_nil ?_
  intro w7 hw'
  obtain ⟨⟨wq, k7⟩, hw''⟩ := hw'
  subst hw''
  go_wp2
  go_ret
  exact ⟨rfl, bTrans HB2.out k7⟩
end Go.Proofs.YtlonefjbcooaaaaDoor

namespace Go.Proofs.YtlonefjbcooaaaaDoor
open Go.RowKit Go.WideShapes Go.ChangeShapes
set_option maxRecDepth 100000
theorem bIL64 {n : Int} (h : (Lit.int .i64 n).wf = true) : IL64 n := by
  have : IntKind.i64.min ≤ n ∧ n ≤ IntKind.i64.max := by simpa [Lit.wf] using h
  exact this
theorem bU32 {n : Int} (h : (Lit.int .u32 n).wf = true) : 0 ≤ n ∧ n ≤ 4294967295 := by
  have : IntKind.u32.min ≤ n ∧ n ≤ IntKind.u32.max := by simpa [Lit.wf] using h
  exact this
theorem bU8 {n : Int} (h : (Lit.int .u8 n).wf = true) : 0 ≤ n ∧ n ≤ 255 := by
  have : IntKind.u8.min ≤ n ∧ n ≤ IntKind.u8.max := by simpa [Lit.wf] using h
  exact this
theorem setCells8 : Tryd.prog.cellsOf 27 = 8 := by kernel_rfl
theorem mvCells6 : Tryd.prog.cellsOf 40 = 6 := by kernel_rfl
section
variable {H : Type} {enc : TypeId × Value → H} {w : World} {held : Bool} {r : Reach} {b0 : Nat} {v : Value} {d : DataW H} {p : List MemPlace}
theorem open_setup (hv : Value.okWide Tryd.prog w r b0 27 v) (h : DataW.Trod enc Tryd.prog w 0 (fun _ => true) held 27 v d p) : ∃ s : Su, v = .agg s.cells.toArray ∧ s.Fits := by
  obtain ⟨cs, rfl, -⟩ := okWide_struct Tryd.underlying27 hv
  obtain ⟨fuel, hf⟩ := h
  obtain ⟨X, e1, e2, e3⟩ := trod_ints 100 27 _ set_kinds (by rw [setCells8]; rfl) fuel _ _ hf
  match X, e2 with
  | [a, b, c, e, f, g, i, j], _ =>
    refine ⟨⟨a, b, c, e, f, g, i, j⟩, ?_, ?_⟩
    · have : cs = (Su.cells ⟨a, b, c, e, f, g, i, j⟩).toArray := by
        apply Array.ext'
        rw [show (Value.agg cs).cells.toList = cs.toList from rfl] at e1
        rw [e1]
        rfl
      rw [this]
    · have h0 := bU32 (e3 0 .u32 a rfl rfl)
      exact ⟨h0.1, by have := h0.2; show a < 4294967296; omega, bIL64 (e3 1 .i64 b rfl rfl), bIL64 (e3 2 .i64 c rfl rfl), bIL64 (e3 5 .i64 g rfl rfl), bIL64 (e3 6 .i64 i rfl rfl), bIL64 (e3 7 .i64 j rfl rfl)⟩
theorem open_moves (hv : Value.okWide Tryd.prog w r b0 28 v) (h : DataW.Trod enc Tryd.prog w 0 (fun _ => true) held 28 v d p) :
    ∃ (A : Option Addr) (c : Nat) (l : List Mo), v = .slice A l.length c ∧ (l.length ≤ c ∧ c ≤ maxLen) ∧ Rd w w.heap.size A (l.flatMap Mo.cells) ∧ ∀ m ∈ l, m.Fits := by
  obtain ⟨A, n, c, css, rfl, rfl, hn, hm, hr, hall⟩ := open_rows Tryd.underlying28 mvCells6 (by omega) hv h
  obtain ⟨l, rfl, hf⟩ := list_of_forms (f := Mo.cells) (p := Mo.Fits) (l := css) (fun cs hcs => by
    obtain ⟨-, fuel, y, hy⟩ := hall cs hcs
    obtain ⟨X, e1, e2, e3⟩ := trod_ints 100 40 _ mv_kinds (by rw [mvCells6]; rfl) fuel _ _ hy
    match X, e2 with
    | [a, b, c, e, f, g], _ =>
      have hf := bU8 (e3 4 .u8 f rfl rfl)
      have hg := bU8 (e3 5 .u8 g rfl rfl)
      exact ⟨⟨a, b, c, e, f, g⟩, e1, ⟨hf.1, by have := hf.2; show f < 256; omega, hg.1, by have := hg.2; show g < 256; omega, bIL64 (e3 0 .i64 a rfl rfl), bIL64 (e3 1 .i64 b rfl rfl), bIL64 (e3 2 .i64 c rfl rfl), bIL64 (e3 3 .i64 e rfl rfl)⟩⟩)
  refine ⟨A, c, l, by rw [List.length_map], ⟨by rw [List.length_map] at hn; omega, hm⟩, ?_, hf⟩
  rw [List.flatMap_def]; exact hr
end
end Go.Proofs.YtlonefjbcooaaaaDoor

namespace Go.Proofs.YtlonefjbcooaaaaDoor
open Go.RowKit Go.WideShapes Go.ChangeShapes
set_option maxRecDepth 100000
section
variable {H : Type} {enc : TypeId × Value → H} {w : World} {held : Bool} {r : Reach} {b0 : Nat} {v : Value} {d : DataW H} {p : List MemPlace}
theorem csCells12 : Tryd.prog.cellsOf 82 = 12 := by kernel_rfl
theorem boolCells1 : Tryd.prog.cellsOf 4 = 1 := by kernel_rfl
theorem intCells1 : Tryd.prog.cellsOf 3 = 1 := by kernel_rfl
theorem evCells9 : Tryd.prog.cellsOf 80 = 9 := by kernel_rfl
theorem outCells3 : Tryd.prog.cellsOf 45 = 3 := by kernel_rfl
theorem cmdsCells1 : Tryd.prog.cellsOf 42 = 1 := by kernel_rfl
theorem strsCells1 : Tryd.prog.cellsOf 43 = 1 := by kernel_rfl
theorem strCells1 : Tryd.prog.cellsOf 9 = 1 := by kernel_rfl
theorem cs_of_trod {fuel : Nat} {cs : List Value} {y : DataW H × List MemPlace} (h : DataW.trod enc Tryd.prog w 0 (fun _ => true) held fuel 82 cs = some y) : ∃ c : Cs, cs = c.cells := by
  obtain ⟨xs, n, -, -, hlen, hxl, hg⟩ := DataW.trod_struct Tryd.underlying82 h
  rw [csCells12] at hlen
  match cs, hlen with
  | [c0, c1, c2, c3, c4, c5, c6, c7, c8, c9, c10, c11], _ =>
    simp only [List.size_toArray, List.length_cons, List.length_nil] at hxl
    match xs, hxl with
    | [y0, y1, y2, y3], _ =>
      have k0 : DataW.trod enc Tryd.prog w 0 (fun _ => true) held n 3 ((List.drop 0 [c0, c1, c2, c3, c4, c5, c6, c7, c8, c9, c10, c11]).take (Tryd.prog.cellsOf 3)) = some y0 := hg 0 _ rfl
      have k1 : DataW.trod enc Tryd.prog w 0 (fun _ => true) held n 80 ((List.drop 1 [c0, c1, c2, c3, c4, c5, c6, c7, c8, c9, c10, c11]).take (Tryd.prog.cellsOf 80)) = some y1 := hg 1 _ rfl
      have k2 : DataW.trod enc Tryd.prog w 0 (fun _ => true) held n 3 ((List.drop 10 [c0, c1, c2, c3, c4, c5, c6, c7, c8, c9, c10, c11]).take (Tryd.prog.cellsOf 3)) = some y2 := hg 2 _ rfl
      have k3 : DataW.trod enc Tryd.prog w 0 (fun _ => true) held n 4 ((List.drop 11 [c0, c1, c2, c3, c4, c5, c6, c7, c8, c9, c10, c11]).take (Tryd.prog.cellsOf 4)) = some y3 := hg 3 _ rfl
      rw [intCells1] at k0 k2
      rw [evCells9] at k1
      rw [boolCells1] at k3
      obtain ⟨a0, e0, -, w0⟩ := DataW.trod_int Tryd.underlying3 k0
      obtain ⟨ev, e1, hf⟩ := ev_of_trod k1
      obtain ⟨a2, e2, -, w2⟩ := DataW.trod_int Tryd.underlying3 k2
      obtain ⟨a3, e3, -⟩ := DataW.trod_bool Tryd.underlying4 k3
      simp only [List.drop_zero, List.drop_succ_cons, List.take_succ_cons, List.take_zero, List.cons.injEq, and_true, Ev.cells] at e0 e1 e2 e3
      obtain ⟨rfl, rfl, rfl, rfl, rfl, rfl, rfl, rfl, rfl⟩ := e1
      subst e0 e2 e3
      exact ⟨⟨a0, ev, a2, a3⟩, rfl⟩
theorem open_out (hv : Value.okWide Tryd.prog w r b0 45 v) (h : DataW.Trod enc Tryd.prog w 0 (fun _ => true) held 45 v d p) :
    ∃ (A B : Option Addr) (c nb cb : Nat) (mv : Bool) (L : List Cs), v = .agg #[.slice A L.length c, .slice B nb cb, .bool mv] ∧ nb ≤ maxLen ∧ L.length ≤ maxLen ∧ Rd w w.heap.size A (L.flatMap Cs.cells) := by
  obtain ⟨cs, rfl, -⟩ := okWide_struct Tryd.underlying45 hv
  obtain ⟨fuel, hf⟩ := h
  obtain ⟨xs, n, -, -, hlen, hxl, hg⟩ := DataW.trod_struct Tryd.underlying45 hf
  rw [outCells3] at hlen
  have hcs : (Value.agg cs).cells.toList = cs.toList := rfl
  rw [hcs] at hlen hg
  obtain ⟨l, hl⟩ : ∃ l, cs.toList = l := ⟨_, rfl⟩
  have hcl : cs = l.toArray := by rw [← hl]
  rw [hl] at hlen hg
  subst hcl
  match l, hlen with
  | [c0, c1, c2], _ =>
    simp only [List.size_toArray, List.length_cons, List.length_nil] at hxl
    match xs, hxl with
    | [y0, y1, y2], _ =>
      have k0 : DataW.trod enc Tryd.prog w 0 (fun _ => true) held n 42 ((List.drop 0 [c0, c1, c2]).take (Tryd.prog.cellsOf 42)) = some y0 := hg 0 _ rfl
      have k1 : DataW.trod enc Tryd.prog w 0 (fun _ => true) held n 43 ((List.drop 1 [c0, c1, c2]).take (Tryd.prog.cellsOf 43)) = some y1 := hg 1 _ rfl
      have k2 : DataW.trod enc Tryd.prog w 0 (fun _ => true) held n 4 ((List.drop 2 [c0, c1, c2]).take (Tryd.prog.cellsOf 4)) = some y2 := hg 2 _ rfl
      rw [cmdsCells1] at k0
      rw [strsCells1] at k1
      rw [boolCells1] at k2
      obtain ⟨A0, n0, d0, css0, e0, rfl, hn0, hm0, hr0, hall0⟩ := rows_of_trod Tryd.underlying42 csCells12 (by omega) k0
      obtain ⟨A1, n1, d1, css1, e1, rfl, hn1, hm1, hr1, hall1⟩ := rows_of_trod Tryd.underlying43 strCells1 (by omega) k1
      obtain ⟨a2, e2, -⟩ := DataW.trod_bool Tryd.underlying4 k2
      simp only [List.drop_zero, List.drop_succ_cons, List.take_succ_cons, List.take_zero, List.cons.injEq, and_true] at e0 e1 e2
      subst e0 e1 e2
      obtain ⟨l0, rfl, -⟩ := list_of_forms (f := Cs.cells) (p := fun _ => True) (l := css0) (fun cs hcs => by
        obtain ⟨-, fuel, y, hy⟩ := hall0 cs hcs
        obtain ⟨c, hc⟩ := cs_of_trod hy
        exact ⟨c, hc, trivial⟩)
      refine ⟨A0, A1, d0, _, d1, a2, l0, by rw [List.length_map], Nat.le_trans hn1 hm1, ?_, ?_⟩
      · rw [List.length_map] at hn0; exact Nat.le_trans hn0 hm0
      · rw [List.flatMap_def]; exact hr0
end
end Go.Proofs.YtlonefjbcooaaaaDoor

namespace Go.Proofs.YtlonefjbcooaaaaDoor
open Go.RowKit Go.WideShapes Go.ChangeShapes Go.ChangeAt
set_option maxRecDepth 100000
def strTab {H : Type} (zs : List (List UInt8)) : DataW H := .agg (zs.map fun z => .lit (.string z))
theorem cells_of_strs {H : Type} {enc : TypeId × Value → H} {P : Program} {w : World} {base : Nat} {sp : Nat → Bool} {held : Bool} {fuel : Nat} {t e : TypeId} {n : Nat} {cs : List Value} {zs : List (List UInt8)} {p : List MemPlace}
    (ht : P.underlying t = some (.array n e)) (he : P.underlying e = some .string) (hce : P.cellsOf e = 1) (hct : P.cellsOf t = n)
    (h : DataW.trod enc P w base sp held fuel t cs = some (strTab zs, p)) : cs = zs.map fun z => Value.string ⟨z.toArray⟩ := by
  cases fuel with
  | zero => simp [DataW.trod] at h
  | succ fuel =>
    simp only [DataW.trod, ht, hce, hct, Nat.mul_one] at h
    split at h
    · rename_i hl
      obtain ⟨xs, hm, hx⟩ := Option.map_eq_some_iff.1 h
      have hxs : xs.map (·.1) = zs.map fun z => (DataW.lit (.string z) : DataW H) := by
        have := congrArg Prod.fst hx
        simpa [strTab] using this
      have hxl : xs.length = n := by simpa using Lib.mapM_length hm
      have hzl : zs.length = n := by
        have := congrArg List.length hxs
        simp at this
        omega
      apply List.ext_getElem?
      intro i
      by_cases hi : i < n
      · obtain ⟨b, hb, hf⟩ := Lib.mapM_at hm i i (by simp [hi])
        obtain ⟨s, hc, rfl, _⟩ := DataW.trod_string he hf
        have h1 : cs[i]? = some (.string s) := by
          have := congrArg (·[0]?) hc
          simpa [List.getElem?_take, List.getElem?_drop] using this
        have h2 : (xs.map (·.1))[i]? = some (DataW.lit (.string s.data.toList) : DataW H) := by simp [hb]
        rw [hxs] at h2
        simp only [List.getElem?_map, Option.map_eq_some_iff, DataW.lit.injEq, Lit.string.injEq] at h2
        obtain ⟨z', hz', rfl⟩ := h2
        simp [h1, hz']
      · rw [List.getElem?_eq_none (by omega), List.getElem?_eq_none (by simp; omega)]
    · cases h
theorem strs_of_head {P : Program} {W : World} {name : String} {zs : List (List UInt8)} {rest : List (String × DataW Unit)} {g : Nat} {t e : TypeId} {n : Nat}
    (hg : P.globalNamed name = some g) (hty : (P.globals[g]?).map (·.type) = some t) (ht : P.underlying t = some (.array n e)) (he : P.underlying e = some .string) (hce : P.cellsOf e = 1) (hct : P.cellsOf t = n)
    (h : laidMet P ((name, strTab zs) :: rest) W) : ∀ i, i < zs.length → W.cell? ⟨g, i, none⟩ = some (.string ⟨(zs.getD i []).toArray⟩) := by
  obtain ⟨ps, ⟨g', t', cs, fuel, p, q, hg', ht', hvar, hd, _, _⟩, _⟩ := h
  obtain rfl := Option.some.inj (hg.symm.trans hg')
  obtain rfl := Option.some.inj (hty.symm.trans ht')
  rw [show cs = (zs.map fun z => Value.string ⟨z.toArray⟩).toArray from by rw [← cells_of_strs ht he hce hct hd]] at hvar
  intro i hi
  have := World.var?_cell hg hvar i
  simpa [List.getD, hi] using this
theorem gPowT : (Tryd.prog.globals[3]?).map (·.type) = some 142 := by kernel_rfl
theorem cells20 : Tryd.prog.cellsOf 142 = 20 := by kernel_rfl
theorem cellsU64 : Tryd.prog.cellsOf 87 = 1 := by kernel_rfl
theorem powData : (Rows.laid_internal_strconv_uint64pow10 : DataW Unit) = Lib.tabData .u64 Lib.pow10Tab := by kernel_rfl
theorem cells7i : Tryd.prog.cellsOf 94 = 7 := by kernel_rfl
theorem cells7s : Tryd.prog.cellsOf 93 = 7 := by kernel_rfl
theorem cellsStr1 : Tryd.prog.cellsOf 9 = 1 := by kernel_rfl
theorem cellsInt1 : Tryd.prog.cellsOf 3 = 1 := by kernel_rfl
theorem cellsErrS : Tryd.prog.cellsOf 162 = 1 := by kernel_rfl
theorem gNm : Tryd.prog.globalNamed "promptbook/script.names" = some 0 := by kernel_rfl
theorem gNmT : (Tryd.prog.globals[0]?).map (·.type) = some 93 := by kernel_rfl
theorem gCt : Tryd.prog.globalNamed "promptbook/script.counts" = some 1 := by kernel_rfl
theorem gCtT : (Tryd.prog.globals[1]?).map (·.type) = some 94 := by kernel_rfl
theorem gSy : Tryd.prog.globalNamed "strconv.ErrSyntax" = some 6 := by kernel_rfl
theorem gSyT : (Tryd.prog.globals[6]?).map (·.type) = some 67 := by kernel_rfl
theorem gRg : Tryd.prog.globalNamed "strconv.ErrRange" = some 7 := by kernel_rfl
theorem gRgT : (Tryd.prog.globals[7]?).map (·.type) = some 67 := by kernel_rfl
theorem nmData : (Rows.laid_promptbook_script_names : DataW Unit) = strTab nmR := by kernel_rfl
theorem ctData : (Rows.laid_promptbook_script_counts : DataW Unit) = Lib.tabData .i64 (ctR.map fun n : Nat => (n : Int)) := by kernel_rfl
theorem errStar : "*" ++ "errors.errorString" = "*errors.errorString" := by decide
theorem errRow (u : TypeId) (h : Tryd.prog.typeName? 3 u = some "*errors.errorString") : u = 160 :=
  typeName_ptr_named (nm := "errors.errorString") (by rw [errStar]; kernel_rfl) (by kernel_rfl) (by decide) u (by rw [errStar]; exact h)
theorem tables {W : World} (h : laidMet Tryd.prog [("math/bits.deBruijn32tab", Rows.laid_math_bits_deBruijn32tab), ("math/bits.deBruijn64tab", Rows.laid_math_bits_deBruijn64tab), ("internal/strconv.uint64pow10", Rows.laid_internal_strconv_uint64pow10), ("unicode/utf8.acceptRanges", Rows.laid_unicode_utf8_acceptRanges), ("strconv.ErrRange", Rows.laid_strconv_ErrRange), ("strconv.ErrSyntax", Rows.laid_strconv_ErrSyntax), ("promptbook/script.names", Rows.laid_promptbook_script_names), ("promptbook/script.counts", Rows.laid_promptbook_script_counts), ("unicode/utf8.first", Rows.laid_unicode_utf8_first)] W) (hSh : W.ShapedOpen Tryd.prog) : ScW W W.heap.size := by
  have h3 := h.tail.tail
  have h5 := h3.tail.tail
  have h6 := h5.tail
  have h7 := h6.tail
  have h8 := h7.tail
  rw [powData] at h3
  rw [nmData] at h7
  rw [ctData] at h8
  have ht : Lib.TabIs Tryd.prog W "internal/strconv.uint64pow10" .u64 Lib.pow10Tab :=
    Lib.tabIs_of_head gPow gPowT Tryd.underlying142 Tryd.underlying87 cellsU64 cells20 h3
  obtain ⟨aR, sR, hvR, -⟩ := laid_sentinel h5 gRg gRgT Tryd.underlying67 errRow Tryd.underlying160 Tryd.underlying162 rfl rfl Tryd.underlying9 cellsErrS cellsStr1
  obtain ⟨aS, sS, hvS, -⟩ := laid_sentinel h6 gSy gSyT Tryd.underlying67 errRow Tryd.underlying160 Tryd.underlying162 rfl rfl Tryd.underlying9 cellsErrS cellsStr1
  have hn := strs_of_head gNm gNmT Tryd.underlying93 Tryd.underlying9 cellsStr1 cells7s h7
  have hc := (Lib.tabIs_of_head gCt gCtT Tryd.underlying94 Tryd.underlying3 cellsInt1 cells7i h8)
  have hpc := ht.cell gPow 0 (by rw [Lib.pow10Tab_length]; decide)
  have hrc := World.var?_cell gRg hvR 0
  have hsc := World.var?_cell gSy hvS 0
  refine ⟨ht, block_lt_of_cell hpc, block_lt_of_cell (w := W) (a := ⟨7, 0, none⟩) hrc, Tryd.laysM145.s1_3 W hSh, ⟨_, _, hsc⟩, ⟨_, _, hrc⟩, fun j hj => hn j hj, fun j hj => ?_⟩
  have := hc.cell gCt j (by show j < 7; exact hj)
  rw [this]
  rcases j with _ | _ | _ | _ | _ | _ | _ | j <;> first | rfl | omega
end Go.Proofs.YtlonefjbcooaaaaDoor
