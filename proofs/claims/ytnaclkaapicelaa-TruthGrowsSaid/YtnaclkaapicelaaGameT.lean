/-
  A step of the game leads from what may be to what may be, plain.
-/
import Derived.Test.YtnaclkaapicelaaGameS
namespace Go.Proofs.Ytnaclkaapicelaa
open Go.RowKit

/-- A player in the midst of a step: its score may be three, if the other one is down. -/
structure PlM (p : Nat → Int) : Prop where
  ax : -3932160 ≤ p 0 ∧ p 0 ≤ 3932160
  ay : -3932160 ≤ p 1 ∧ p 1 ≤ 3932160
  wx : F32 (p 2)
  wy : F32 (p 3)
  fc : 0 ≤ p 4 ∧ p 4 ≤ 65535
  hp : 0 ≤ p 5 ∧ p 5 ≤ 3
  cl : 0 ≤ p 6 ∧ p 6 ≤ 8
  wd : 0 ≤ p 7 ∧ p 7 ≤ 20
  dn : 0 ≤ p 8 ∧ p 8 ≤ 30
  sc : 0 ≤ p 9 ∧ p 9 ≤ 3
  up : 0 < p 5 ↔ p 8 = 0
structure ShM (x : Nat → Int) : Prop where
  ax : -4194304 ≤ x 0 ∧ x 0 ≤ 4194304
  ay : -4194304 ≤ x 1 ∧ x 1 ≤ 4194304
  wx : F32 (x 2)
  wy : F32 (x 3)
  ow : 0 ≤ x 4 ∧ x 4 ≤ 2
  lf : 0 ≤ x 5 ∧ x 5 ≤ 40
  no : x 4 = 0 → shotZ x = true
  on : x 4 ≠ 0 → 1 ≤ x 5
/-- A state in the midst of a step. -/
structure StM (S : Nat → Int) : Prop where
  pl : ∀ i, i < 2 → PlM (getP S i)
  sc : ∀ i, i < 2 → S (4 + i * 10 + 9) ≤ 2 ∨ 0 < S (4 + (1 - i) * 10 + 8)
  sh : ∀ k, k < 6 → ShM (getS S k)
  dc : U32 (S 1)
  fr : 0 ≤ S 0 ∧ S 0 ≤ 1073741824
  rd : 0 ≤ S 2 ∧ S 2 ≤ 1073741824
  lf : 1 ≤ S 3 ∧ S 3 ≤ 600
theorem PlM.b {p : Nat → Int} (h : PlM p) (hs : p 9 ≤ 2) : PlB p :=
  ⟨⟨by have := h.ax; omega, by have := h.ax; omega⟩, ⟨by have := h.ay; omega, by have := h.ay; omega⟩, h.wx, h.wy, h.fc, h.hp, h.cl, h.wd, h.dn, ⟨h.sc.1, hs⟩⟩
theorem inB_iff (n lo hi : Int) : inB n lo hi = true ↔ lo ≤ n ∧ n ≤ hi := by unfold inB; simp
theorem playerB_iff (p : Nat → Int) : playerB p = true ↔ (0 ≤ p 4 ∧ p 4 ≤ 65535) ∧ (0 ≤ p 5 ∧ p 5 ≤ 3) ∧ (0 ≤ p 6 ∧ p 6 ≤ 8) ∧ (0 ≤ p 7 ∧ p 7 ≤ 20) ∧ (0 ≤ p 8 ∧ p 8 ≤ 30) ∧ (0 ≤ p 9 ∧ p 9 ≤ 2) ∧
    (-3932160 ≤ p 0 ∧ p 0 ≤ 3932160 ∧ -3932160 ≤ p 1 ∧ p 1 ≤ 3932160) ∧ (0 < p 5 ↔ p 8 = 0) := by
  have e : (decide (0 < p 5) = (p 8 == 0)) ↔ (0 < p 5 ↔ p 8 = 0) := by rw [Bool.eq_iff_iff]; simp
  unfold playerB insideB
  simp only [Bool.and_eq_true, inB_iff, decide_eq_true_eq, beq_iff_eq, e]
theorem PlM.of {p : Nat → Int} (h : playerB p = true) (wx : F32 (p 2)) (wy : F32 (p 3)) : PlM p := by
  obtain ⟨h4, h5, h6, h7, h8, h9, ⟨a, b, c, d⟩, hu⟩ := (playerB_iff p).1 h
  exact ⟨⟨a, b⟩, ⟨c, d⟩, wx, wy, h4, h5, h6, h7, h8, ⟨h9.1, by omega⟩, hu⟩
theorem PlM.right {p : Nat → Int} (h : PlM p) (hs : p 9 ≤ 2) : playerB p = true :=
  (playerB_iff p).2 ⟨h.fc, h.hp, h.cl, h.wd, h.dn, ⟨h.sc.1, hs⟩, ⟨h.ax.1, h.ax.2, h.ay.1, h.ay.2⟩, h.up⟩
theorem shotZ_iff (x : Nat → Int) : shotZ x = true ↔ x 0 = 0 ∧ x 1 = 0 ∧ x 2 = 0 ∧ x 3 = 0 ∧ x 4 = 0 ∧ x 5 = 0 := by
  unfold shotZ
  simp only [Bool.and_eq_true, decide_eq_true_eq]
theorem ShM.of {x : Nat → Int} (h : shotB x = true) (wx : F32 (x 2)) (wy : F32 (x 3)) : ShM x := by
  unfold shotB arenaB insideB at h
  simp only [Bool.or_eq_true, shotZ_iff, Bool.and_eq_true, inB_iff, decide_eq_true_eq] at h
  rcases h with ⟨h0, h1, h2, h3, h4, h5⟩ | ⟨h4, h5, a, b, c, d⟩
  · exact ⟨by omega, by omega, wx, wy, by omega, by omega, fun _ => (shotZ_iff x).2 ⟨h0, h1, h2, h3, h4, h5⟩, fun e => absurd h4 e⟩
  · exact ⟨⟨a, b⟩, ⟨c, d⟩, wx, wy, by omega, by omega, fun e => by omega, fun _ => h5.1⟩
theorem ShM.right {x : Nat → Int} (h : ShM x) : shotB x = true := by
  unfold shotB arenaB insideB
  simp only [Bool.or_eq_true, Bool.and_eq_true, inB_iff, decide_eq_true_eq]
  by_cases h4 : x 4 = 0
  · exact .inl (h.no h4)
  · have := h.ow
    have := h.on h4
    exact .inr ⟨by omega, ⟨this, h.lf.2⟩, h.ax.1, h.ax.2, h.ay.1, h.ay.2⟩
theorem rightS_iff (S : Nat → Int) : rightS S = true ↔ (∀ k, k < 6 → shotB (getS S k) = true) ∧ playerB (getP S 0) = true ∧ playerB (getP S 1) = true ∧ (0 ≤ S 0 ∧ S 0 ≤ 1073741824) ∧ (0 ≤ S 2 ∧ S 2 ≤ 1073741824) ∧ (1 ≤ S 3 ∧ S 3 ≤ 600) := by
  unfold rightS rightT
  simp only [Bool.and_eq_true, List.all_eq_true, List.mem_range, inB_iff]
/-- A state that may be. -/
structure StOk (S : Nat → Int) : Prop where
  m : StM S
  two : ∀ i, i < 2 → S (4 + i * 10 + 9) ≤ 2
theorem two_cases {q : Nat → Prop} (h0 : q 0) (h1 : q 1) : ∀ i, i < 2 → q i := fun i hi => by
  have : i = 0 ∨ i = 1 := by omega
  rcases this with rfl | rfl
  · exact h0
  · exact h1
theorem StOk.of {S : Nat → Int} (hf : FitS S) (h : rightS S = true) : StOk S := by
  obtain ⟨hs, h0, h1, ha, hb, hc⟩ := (rightS_iff S).1 h
  have e0 := (playerB_iff _).1 h0
  have e1 := (playerB_iff _).1 h1
  have s13 : S 13 ≤ 2 := e0.2.2.2.2.2.1.2
  have s23 : S 23 ≤ 2 := e1.2.2.2.2.2.1.2
  refine ⟨⟨two_cases (.of h0 (hf.f32 6 (by decide) rfl) (hf.f32 7 (by decide) rfl)) (.of h1 (hf.f32 16 (by decide) rfl) (hf.f32 17 (by decide) rfl)), two_cases (.inl s13) (.inl s23), fun k hk => .of (hs k hk) ?_ ?_, hf.u32, ha, hb, hc⟩, two_cases s13 s23⟩
  · exact hf.f32 (24 + k * 6 + 2) (by omega) (by rw [kdS_s k 2 (by decide)]; rfl)
  · exact hf.f32 (24 + k * 6 + 3) (by omega) (by rw [kdS_s k 3 (by decide)]; rfl)
theorem StOk.right {S : Nat → Int} (h : StOk S) : rightS S = true :=
  (rightS_iff S).2 ⟨fun k hk => (h.m.sh k hk).right, (h.m.pl 0 (by decide)).right (h.two 0 (by decide)), (h.m.pl 1 (by decide)).right (h.two 1 (by decide)), h.m.fr, h.m.rd, h.m.lf⟩
theorem PlM.congr {p q : Nat → Int} (h : PlM p) (e : ∀ j, j < 10 → q j = p j) : PlM q := by
  obtain ⟨a, b, c, d, f, g, i, j, k, l, m⟩ := h
  refine ⟨?_, ?_, ?_, ?_, ?_, ?_, ?_, ?_, ?_, ?_, ?_⟩ <;> simp only [e _ (by decide : 0 < 10), e _ (by decide : 1 < 10), e _ (by decide : 2 < 10), e _ (by decide : 3 < 10), e _ (by decide : 4 < 10), e _ (by decide : 5 < 10), e _ (by decide : 6 < 10), e _ (by decide : 7 < 10), e _ (by decide : 8 < 10), e _ (by decide : 9 < 10)] <;> assumption
theorem ShM.congr {p q : Nat → Int} (h : ShM p) (e : ∀ j, j < 6 → q j = p j) : ShM q := by
  obtain ⟨a, b, c, d, f, g, i, j⟩ := h
  have hz : shotZ q = shotZ p := by unfold shotZ; rw [e 0 (by decide), e 1 (by decide), e 2 (by decide), e 3 (by decide), e 4 (by decide), e 5 (by decide)]
  refine ⟨?_, ?_, ?_, ?_, ?_, ?_, ?_, ?_⟩ <;> simp only [hz, e _ (by decide : 0 < 6), e _ (by decide : 1 < 6), e _ (by decide : 2 < 6), e _ (by decide : 3 < 6), e _ (by decide : 4 < 6), e _ (by decide : 5 < 6)] <;> assumption
theorem StM.sput {S x : Nat → Int} (h : StM S) {k : Nat} (hk : k < 6) (hx : ShM x) : StM (putS S k x) := by
  have hlow : ∀ j, j < 24 → putS S k x j = S j := fun j hj => putS_other S k x j (.inl (by omega))
  refine ⟨fun i hi => (h.pl i hi).congr fun j hj => getP_putS S i k hi x j hj, fun i hi => ?_, fun m hm => ?_, ?_, ?_, ?_, ?_⟩
  · rw [hlow _ (by omega), hlow _ (by omega)]; exact h.sc i hi
  · by_cases e : k = m
    · subst e; exact hx.congr fun j hj => getS_putS S k x j hj
    · exact (h.sh m hm).congr fun j hj => getS_putS_ne S k m e x j hj
  · rw [hlow 1 (by decide)]; exact h.dc
  · rw [hlow 0 (by decide)]; exact h.fr
  · rw [hlow 2 (by decide)]; exact h.rd
  · rw [hlow 3 (by decide)]; exact h.lf
theorem StOk.sput {S x : Nat → Int} (h : StOk S) {k : Nat} (hk : k < 6) (hx : ShM x) : StOk (putS S k x) :=
  ⟨h.m.sput hk hx, fun i hi => by rw [putS_other S k x _ (.inl (by omega))]; exact h.two i hi⟩
theorem StM.pput {S p : Nat → Int} (h : StM S) {i : Nat} (hi : i < 2) (hp : PlM p) (h9 : p 9 ≤ 2 ∨ 0 < S (4 + (1 - i) * 10 + 8)) (h8 : S (4 + (1 - i) * 10 + 9) ≤ 2 ∨ 0 < p 8) : StM (putP S i p) := by
  have hother : ∀ m j, m < 2 → m ≠ i → j < 10 → putP S i p (4 + m * 10 + j) = S (4 + m * 10 + j) := fun m j hm hne hj => putP_other S i p _ (by omega)
  refine ⟨fun m hm => ?_, fun m hm => ?_, fun m hm => ?_, ?_, ?_, ?_, ?_⟩
  · by_cases e : i = m
    · subst e; exact hp.congr fun j hj => getP_putP S i p j hj
    · exact (h.pl m hm).congr fun j hj => getP_putP_ne S i m e p j hj
  · by_cases e : m = i
    · subst e
      rw [putP_at S m p 9 (by decide), hother (1 - m) 8 (by omega) (by omega) (by decide)]
      exact h9
    · have e1 : 1 - m = i := by omega
      have e2 : m = 1 - i := by omega
      rw [e1, putP_at S i p 8 (by decide), hother m 9 hm e (by decide), e2]
      exact h8
  · rw [getS_putP S i m hi]; exact h.sh m hm
  · rw [putP_other S i p 1 (by omega)]; exact h.dc
  · rw [putP_other S i p 0 (by omega)]; exact h.fr
  · rw [putP_other S i p 2 (by omega)]; exact h.rd
  · rw [putP_other S i p 3 (by omega)]; exact h.lf
theorem StOk.pput {S p : Nat → Int} (h : StOk S) {i : Nat} (hi : i < 2) (hp : PlM p) (h9 : p 9 ≤ 2) : StOk (putP S i p) := by
  refine ⟨h.m.pput hi hp (.inl h9) (.inl (h.two _ (by omega))), fun m hm => ?_⟩
  by_cases e : m = i
  · subst e; rw [putP_at S m p 9 (by decide)]; exact h9
  · rw [putP_other S i p _ (by omega)]; exact h.two m hm
/-- A number that is none of a player's or a shot's. -/
theorem StM.head {S : Nat → Int} (h : StM S) {j : Nat} {v : Int} (hj : j < 4) (hd : j = 1 → U32 v) (h0 : j = 0 → 0 ≤ v ∧ v ≤ 1073741824) (h2 : j = 2 → 0 ≤ v ∧ v ≤ 1073741824) (h3 : j = 3 → 1 ≤ v ∧ v ≤ 600) : StM (upd S j v) := by
  have ho : ∀ m, 4 ≤ m → upd S j v m = S m := fun m hm => upd_other _ _ _ _ (by omega)
  refine ⟨fun i hi => (h.pl i hi).congr fun m hm => ho _ (by omega), fun i hi => by rw [ho _ (by omega), ho _ (by omega)]; exact h.sc i hi, fun k hk => (h.sh k hk).congr fun m hm => ho _ (by omega), ?_, ?_, ?_, ?_⟩
  · by_cases e : j = 1
    · subst e; rw [upd_same]; exact hd rfl
    · rw [upd_other _ _ _ _ (fun x => e x.symm)]; exact h.dc
  · by_cases e : j = 0
    · subst e; rw [upd_same]; exact h0 rfl
    · rw [upd_other _ _ _ _ (fun x => e x.symm)]; exact h.fr
  · by_cases e : j = 2
    · subst e; rw [upd_same]; exact h2 rfl
    · rw [upd_other _ _ _ _ (fun x => e x.symm)]; exact h.rd
  · by_cases e : j = 3
    · subst e; rw [upd_same]; exact h3 rfl
    · rw [upd_other _ _ _ _ (fun x => e x.symm)]; exact h.lf
theorem StOk.head {S : Nat → Int} (h : StOk S) {j : Nat} {v : Int} (hj : j < 4) (hd : j = 1 → U32 v) (h0 : j = 0 → 0 ≤ v ∧ v ≤ 1073741824) (h2 : j = 2 → 0 ≤ v ∧ v ≤ 1073741824) (h3 : j = 3 → 1 ≤ v ∧ v ≤ 600) : StOk (upd S j v) :=
  ⟨h.m.head hj hd h0 h2 h3, fun i hi => by rw [upd_other _ _ _ _ (by omega)]; exact h.two i hi⟩

/-! ### events, counted -/
structure EvN (L : List Ev) (a b : Nat) : Prop where
  len : L.length ≤ a
  cnt : ∀ em kd, kd = 2 ∨ kd = 5 → cntE L em kd ≤ b
theorem EvN.nil : EvN [] 0 0 := ⟨by simp, fun _ _ _ => by simp [cntE]⟩
theorem EvN.more {L : List Ev} {a b a' b' : Nat} (h : EvN L a b) (ha : a ≤ a') (hb : b ≤ b') : EvN L a' b' := ⟨Nat.le_trans h.len ha, fun em kd hk => Nat.le_trans (h.cnt em kd hk) hb⟩
theorem cntE_addE (F : Int) (L : List Ev) (x : Ev) (em kd : Int) : cntE (addE F L x) em kd = cntE L em kd + if sameK em kd x then 1 else 0 := cntE_ins L _ _ em kd
theorem EvN.add {L : List Ev} {a b : Nat} (h : EvN L a b) (F : Int) (x : Ev) (h2 : x.kind ≠ 2) (h5 : x.kind ≠ 5) : EvN (addE F L x) (a + 1) b :=
  ⟨by rw [addE_length]; have := h.len; omega, fun em kd hk => by
    rw [cntE_addE, if_neg]
    · exact h.cnt em kd hk
    · unfold sameK
      rw [decide_eq_false (show ¬ x.kind = kd by rintro rfl; rcases hk with e | e <;> contradiction)]
      simp⟩
theorem EvN.hit {L : List Ev} {a b : Nat} (h : EvN L a b) (F : Int) (x : Ev) : EvN (addE F L x) (a + 1) (b + 1) :=
  ⟨by rw [addE_length]; have := h.len; omega, fun em kd hk => by
    rw [cntE_addE]
    have := h.cnt em kd hk
    split <;> omega⟩
/-- Both events of one that is hit: of two kinds. -/
theorem EvN.hits {L : List Ev} {a b : Nat} (h : EvN L a b) (F : Int) (x y : Ev) (hx : x.kind = 2) (hy : y.kind = 5) : EvN (addE F (addE F L x) y) (a + 2) (b + 1) :=
  ⟨by rw [addE_length, addE_length]; have := h.len; omega, fun em kd hk => by
    rw [cntE_addE, cntE_addE]
    have := h.cnt em kd hk
    unfold sameK
    rw [hx, hy]
    rcases hk with rfl | rfl
    · rw [decide_eq_false (show ¬ (5 : Int) = 2 by decide)]
      simp
      split <;> omega
    · rw [decide_eq_false (show ¬ (2 : Int) = 5 by decide)]
      simp
      split <;> omega⟩
end Go.Proofs.Ytnaclkaapicelaa
