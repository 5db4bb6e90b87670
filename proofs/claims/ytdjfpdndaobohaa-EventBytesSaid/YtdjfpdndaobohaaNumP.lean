/-
  A number's bytes, seven bits a byte, the low ones first; a rest's sign in the high bit. Unlike numbers have unlike bytes, whatever stands behind them.
-/
import Derived.Test.YtdjfpdndaobohaaEventPlain
namespace Go.Proofs.Ytdjfpdndaobohaa

def numB (n : Nat) : List UInt8 := if h : n < 128 then [UInt8.ofNat n] else UInt8.ofNat (128 + n % 128) :: numB (n / 128)
termination_by n
decreasing_by omega
theorem numB_small {n : Nat} (h : n < 128) : numB n = [UInt8.ofNat n] := by rw [numB, dif_pos h]
theorem numB_big {n : Nat} (h : ¬ n < 128) : numB n = UInt8.ofNat (128 + n % 128) :: numB (n / 128) := by rw [numB, dif_neg h]
theorem u8_nat {a : Nat} (h : a < 256) : (UInt8.ofNat a).toNat = a := by rw [UInt8.toNat_ofNat']; exact Nat.mod_eq_of_lt h
theorem u8_inj {a b : Nat} (ha : a < 256) (hb : b < 256) (h : UInt8.ofNat a = UInt8.ofNat b) : a = b := by
  have := congrArg UInt8.toNat h
  rwa [u8_nat ha, u8_nat hb] at this
theorem numB_inj : ∀ (a b : Nat) (x y : List UInt8), numB a ++ x = numB b ++ y → a = b ∧ x = y := by
  intro a
  induction a using Nat.strongRecOn with
  | _ a ih =>
    intro b x y h
    by_cases ha : a < 128
    · by_cases hb : b < 128
      · rw [numB_small ha, numB_small hb] at h
        simp only [List.cons_append, List.nil_append, List.cons.injEq] at h
        exact ⟨u8_inj (by omega) (by omega) h.1, h.2⟩
      · rw [numB_small ha, numB_big hb] at h
        simp only [List.cons_append, List.nil_append, List.cons.injEq] at h
        have := u8_inj (by omega) (by omega) h.1
        omega
    · by_cases hb : b < 128
      · rw [numB_big ha, numB_small hb] at h
        simp only [List.cons_append, List.nil_append, List.cons.injEq] at h
        have := u8_inj (by omega) (by omega) h.1
        omega
      · rw [numB_big ha, numB_big hb] at h
        simp only [List.cons_append, List.cons.injEq] at h
        have h1 := u8_inj (by omega) (by omega) h.1
        obtain ⟨h2, h3⟩ := ih (a / 128) (by omega) _ _ _ h.2
        exact ⟨by omega, h3⟩
theorem numB_len : ∀ (k n : Nat), n < 128 ^ k → (numB n).length ≤ k ∨ (k = 0)
  | 0, _, _ => .inr rfl
  | k + 1, n, h => by
    left
    by_cases hn : n < 128
    · rw [numB_small hn]; simp
    · rw [numB_big hn]
      have : n / 128 < 128 ^ k := by
        rw [Nat.pow_succ] at h
        exact Nat.div_lt_of_lt_mul (by rw [Nat.mul_comm]; exact h)
      rcases numB_len k (n / 128) this with h | h
      · simp; exact h
      · subst h; simp at this; omega
theorem numB_le {n : Nat} (h : n < 18446744073709551616) : (numB n).length ≤ 10 := by
  rcases numB_len 10 n (Nat.lt_of_lt_of_le h (by decide)) with h | h
  · exact h
  · cases h
/-- A rest with its sign behind it. -/
def zig (n : Int) : Nat := if 0 ≤ n then (2 * n).toNat else (-2 * n - 1).toNat
theorem zig_inj {a b : Int} (h : zig a = zig b) : a = b := by
  unfold zig at h
  split at h <;> split at h <;> omega
def evB (e : Ev) : List UInt8 :=
  numB e.frame.toNat ++ (numB e.emitter.toNat ++ (numB e.kind.toNat ++ (numB e.ord.toNat ++ (numB e.asset.toNat ++ (numB e.gain.toNat ++ (numB (zig e.pan) ++ (numB e.prio.toNat ++ numB e.len.toNat)))))))
def bytesB (L : List Ev) : List UInt8 := numB L.length ++ L.flatMap evB
theorem ok_pos {e : Ev} (h : evOk e = true) : (0 ≤ e.frame ∧ e.frame ≤ 1073741824) ∧ (0 ≤ e.emitter ∧ e.emitter ≤ 2) ∧ (1 ≤ e.kind ∧ e.kind ≤ 9) ∧ (0 ≤ e.ord ∧ e.ord ≤ 15) ∧ (0 ≤ e.asset ∧ e.asset ≤ 31) ∧ (0 ≤ e.gain ∧ e.gain ≤ 32768) ∧ (-32768 ≤ e.pan ∧ e.pan ≤ 32768) ∧ (0 ≤ e.prio ∧ e.prio ≤ 15) ∧ (0 ≤ e.len ∧ e.len ≤ 600) := by
  unfold evOk keyOk at h
  simp only [Bool.and_eq_true, inB, decide_eq_true_eq] at h
  simp only [Ev.key] at h
  omega
theorem evB_inj {a b : Ev} {x y : List UInt8} (ha : evOk a = true) (hb : evOk b = true) (h : evB a ++ x = evB b ++ y) : a = b ∧ x = y := by
  have pa := ok_pos ha
  have pb := ok_pos hb
  unfold evB at h
  simp only [List.append_assoc] at h
  obtain ⟨h0, h⟩ := numB_inj _ _ _ _ h
  obtain ⟨h1, h⟩ := numB_inj _ _ _ _ h
  obtain ⟨h2, h⟩ := numB_inj _ _ _ _ h
  obtain ⟨h3, h⟩ := numB_inj _ _ _ _ h
  obtain ⟨h4, h⟩ := numB_inj _ _ _ _ h
  obtain ⟨h5, h⟩ := numB_inj _ _ _ _ h
  obtain ⟨h6, h⟩ := numB_inj _ _ _ _ h
  obtain ⟨h7, h⟩ := numB_inj _ _ _ _ h
  obtain ⟨h8, h⟩ := numB_inj _ _ _ _ h
  have h6 := zig_inj h6
  refine ⟨?_, h⟩
  cases a; cases b
  simp only at *
  simp only [Ev.mk.injEq]
  omega
theorem evBs_inj : ∀ (L M : List Ev), (∀ e ∈ L, evOk e = true) → (∀ e ∈ M, evOk e = true) → L.length = M.length → L.flatMap evB = M.flatMap evB → L = M
  | [], [], _, _, _, _ => rfl
  | a :: L, [], _, _, h, _ => by simp at h
  | [], b :: M, _, _, h, _ => by simp at h
  | a :: L, b :: M, hL, hM, hn, h => by
    rw [List.flatMap_cons, List.flatMap_cons] at h
    obtain ⟨rfl, h2⟩ := evB_inj (hL a (by simp)) (hM b (by simp)) h
    rw [evBs_inj L M (fun e he => hL e (by simp [he])) (fun e he => hM e (by simp [he])) (by simpa using hn) h2]
theorem bytesB_inj {L M : List Ev} (hL : ∀ e ∈ L, evOk e = true) (hM : ∀ e ∈ M, evOk e = true) : bytesB L = bytesB M ↔ L = M := by
  refine ⟨fun h => ?_, fun h => by rw [h]⟩
  obtain ⟨h1, h2⟩ := numB_inj _ _ _ _ h
  exact evBs_inj L M hL hM h1 h2
theorem evB_len {e : Ev} (h : evOk e = true) : (evB e).length ≤ 90 := by
  have p := ok_pos h
  unfold evB
  simp only [List.length_append]
  have h0 := numB_le (n := e.frame.toNat) (by omega)
  have h1 := numB_le (n := e.emitter.toNat) (by omega)
  have h2 := numB_le (n := e.kind.toNat) (by omega)
  have h3 := numB_le (n := e.ord.toNat) (by omega)
  have h4 := numB_le (n := e.asset.toNat) (by omega)
  have h5 := numB_le (n := e.gain.toNat) (by omega)
  have h6 := numB_le (n := zig e.pan) (by unfold zig; split <;> omega)
  have h7 := numB_le (n := e.prio.toNat) (by omega)
  have h8 := numB_le (n := e.len.toNat) (by omega)
  omega
theorem bytesB_len : ∀ (L : List Ev), (∀ e ∈ L, evOk e = true) → (L.flatMap evB).length ≤ 90 * L.length
  | [], _ => by simp
  | e :: L, h => by
    rw [List.flatMap_cons, List.length_append, List.length_cons]
    have := evB_len (h e (by simp))
    have := bytesB_len L (fun e he => h e (by simp [he]))
    omega
end Go.Proofs.Ytdjfpdndaobohaa
