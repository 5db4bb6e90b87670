/-
  The walks beneath: CmR, THol, HeP.
-/
import Derived.Test.YtibeihcpehikoaaGreatMq47
import Derived.Test.YtibeihcpehikoaaGreatMq32
import Derived.Test.YtibeihcpehikoaaGreatMq46
import Derived.Test.YtibeihcpehikoaaGreatMq39
namespace Go.Proofs.YtibeihcpehikoaaGreat
open Go.RowKit
theorem Rd.cm {w : World} {B : Nat} {A : Option Addr} {l : List Cm} (h : Rd w B A (l.flatMap Cm.cells)) {k : Nat} (hk : k < l.length) :
    ∃ b off, A = some ⟨b, off, none⟩ ∧ b < B ∧ w.cell? ⟨b, off + k * 12, none⟩ = some (.int .i64 l[k].kind) ∧ w.cell? ⟨b, off + k * 12 + 1, none⟩ = some (.int .i64 l[k].e.frame) ∧ w.cell? ⟨b, off + k * 12 + 2, none⟩ = some (.int .i64 l[k].e.emitter) ∧ w.cell? ⟨b, off + k * 12 + 3, none⟩ = some (.int .i64 l[k].e.kind) ∧ w.cell? ⟨b, off + k * 12 + 4, none⟩ = some (.int .i64 l[k].e.ord) ∧ w.cell? ⟨b, off + k * 12 + 5, none⟩ = some (.int .i64 l[k].e.asset) ∧ w.cell? ⟨b, off + k * 12 + 6, none⟩ = some (.int .i64 l[k].e.gain) ∧ w.cell? ⟨b, off + k * 12 + 7, none⟩ = some (.int .i64 l[k].e.pan) ∧ w.cell? ⟨b, off + k * 12 + 8, none⟩ = some (.int .i64 l[k].e.prio) ∧ w.cell? ⟨b, off + k * 12 + 9, none⟩ = some (.int .i64 l[k].e.len) ∧ w.cell? ⟨b, off + k * 12 + 10, none⟩ = some (.int .i64 l[k].late) ∧ w.cell? ⟨b, off + k * 12 + 11, none⟩ = some (.bool l[k].played) := by
  obtain ⟨b, off, hA, hb, hat⟩ := h.at_ Cm.cells_length (by omega) hk
  exact ⟨b, off, hA, hb, hat 0 _ rfl, hat 1 _ rfl, hat 2 _ rfl, hat 3 _ rfl, hat 4 _ rfl, hat 5 _ rfl, hat 6 _ rfl, hat 7 _ rfl, hat 8 _ rfl, hat 9 _ rfl, hat 10 _ rfl, hat 11 _ rfl⟩
set_option maxHeartbeats 4000000 in
/-- The event within a command. -/
theorem Rd.cmE {w : World} {B : Nat} {A : Option Addr} {l : List Cm} (h : Rd w B A (l.flatMap Cm.cells)) {k : Nat} (hk : k < l.length) {b off : Nat} (hA : A = some ⟨b, off, none⟩) : w.rangeAt b (off + k * 12 + 1) l[k].e.cells := by
  obtain ⟨b', off', hA', -, hat⟩ := h.at_ Cm.cells_length (by omega) hk
  rw [hA] at hA'
  cases hA'
  intro j v hv
  have h9 : j < 9 := by
    have := (List.getElem?_eq_some_iff.1 hv).1
    simpa [Ev.cells] using this
  have := hat (j + 1) v (by
    obtain rfl | rfl | rfl | rfl | rfl | rfl | rfl | rfl | rfl : j = 0 ∨ j = 1 ∨ j = 2 ∨ j = 3 ∨ j = 4 ∨ j = 5 ∨ j = 6 ∨ j = 7 ∨ j = 8 := by omega
    all_goals exact hv)
  rw [← this]
  congr 2
  omega
end Go.Proofs.YtibeihcpehikoaaGreat

namespace Go.Proofs.YtibeihcpehikoaaGreat
open Go.RowKit Go.Shelf
attribute [local go_sem] Oper.semAt_some
attribute [local irreducible] wpMixU
set_option maxRecDepth 100000
set_option linter.unusedSimpArgs false
theorem runs_lenS {P : Program} {o : Oper} {a : Act} (m : Operand) (t e : TypeId) (hop : o.op = Op.call { callee := Callee.builtin Builtin.len, args := #[m], argTypes := #[t] }) (ht : P.underlying t = some (.slice e)) (A : Option Addr) (n c : Nat) (hm : a.eval m = .slice A n c) (W : World) : RunsTo P o a W (.int .i64 n) := by
  unfold RunsTo execOp
  simp only [hop, resolve, invoke, builtin, Sem.run_bind, Sem.run_pure, Result.andThen_ok, List.map_toArray, List.map_cons, List.map_nil, hm]
  simp [Builtin.len_, run_underlying ht, goInt, Result.andThen]
theorem beq_nat (a b : Nat) : ((a : Int) == (b : Int)) = decide (a = b) := by
  by_cases h : a = b
  · subst h; simp
  · have : (a : Int) ≠ b := by omega
    simp [h, this]
def holdsF : List Ev → List Cm → Nat
  | e :: E, c :: S => if c.kind = 4 ∧ c.e = e then holdsF E S + 1 else 0
  | _, _ => 0
def matchP (pre : List Ev) (st : List Cm) : Prop := ∀ i, i < pre.length → ∃ c, st[i]? = some c ∧ pre[i]? = some c.e ∧ c.kind = 4
theorem holdsF_at : ∀ (E : List Ev) (S : List Cm) (k : Nat), (∀ i, i < k → ∃ c, S[i]? = some c ∧ E[i]? = some c.e ∧ c.kind = 4) → (∀ c, S[k]? = some c → E[k]? = some c.e → c.kind ≠ 4) → holdsF E S = k
  | [], S, k, hm, hs => by
    cases k with
    | zero => cases S <;> rfl
    | succ k =>
      obtain ⟨c, -, h, -⟩ := hm 0 (Nat.succ_pos _)
      simp at h
  | e :: E, [], k, hm, hs => by
    cases k with
    | zero => rfl
    | succ k =>
      obtain ⟨c, h, -, -⟩ := hm 0 (Nat.succ_pos _)
      simp at h
  | e :: E, c :: S, k, hm, hs => by
    cases k with
    | zero =>
      unfold holdsF
      rw [if_neg]
      rintro ⟨h1, h2⟩
      exact hs c rfl (by rw [h2]; rfl) h1
    | succ k =>
      obtain ⟨c', h1, h2, h3⟩ := hm 0 (Nat.succ_pos _)
      simp only [List.getElem?_cons_zero, Option.some.injEq] at h1 h2
      subst h1
      unfold holdsF
      rw [if_pos ⟨h3, h2.symm⟩, holdsF_at E S k (fun i hi => by simpa using hm (i + 1) (by omega)) (fun c hc he => hs c (by simpa using hc) (by simpa using he))]
theorem holds_done {E : List Ev} {st : List Cm} (h : matchP E st) : holdsF E st = E.length :=
  holdsF_at E st E.length h (fun c _ he => by rw [List.getElem?_eq_none (Nat.le_refl _)] at he; cases he)
theorem holds_stop {E pre : List Ev} {x : Ev} {st : List Cm} (h : matchP pre st) {k : Nat} (hk : k ≤ E.length) (hp : pre ++ [x] = E.take k) (hn : ∀ c, st[pre.length]? = some c → c.e = x → c.kind ≠ 4) : holdsF E st = pre.length := by
  have hlen : pre.length + 1 = k := by
    have := congrArg List.length hp
    rw [List.length_append, List.length_take] at this
    simp at this
    omega
  have hget : ∀ i, i < k → E[i]? = (pre ++ [x])[i]? := fun i hi => by rw [hp, List.getElem?_take_of_lt hi]
  refine holdsF_at E st _ (fun i hi => ?_) (fun c hc he => ?_)
  · obtain ⟨c, h1, h2, h3⟩ := h i hi
    exact ⟨c, h1, by rw [hget i (by omega), List.getElem?_append_left hi]; exact h2, h3⟩
  · rw [hget _ (by omega), List.getElem?_append_right (Nat.le_refl _)] at he
    simp only [Nat.sub_self, List.getElem?_cons_zero, Option.some.injEq] at he
    exact hn c hc he.symm
theorem matchP_nil (st : List Cm) : matchP [] st := fun _ h => absurd h (Nat.not_lt_zero _)
theorem matchP.snoc {pre : List Ev} {st : List Cm} (h : matchP pre st) {c : Cm} (hc : st[pre.length]? = some c) (hk : c.kind = 4) : matchP (pre ++ [c.e]) st := fun i hi => by
  by_cases hlt : i < pre.length
  · obtain ⟨c', h1, h2, h3⟩ := h i hlt
    exact ⟨c', h1, by rw [List.getElem?_append_left hlt]; exact h2, h3⟩
  · have : i = pre.length := by rw [List.length_append] at hi; simp at hi; omega
    subst this
    exact ⟨c, hc, by rw [List.getElem?_append_right (Nat.le_refl _)]; simp, hk⟩
set_option maxHeartbeats 4000000 in
theorem holds_any (A As : Option Addr) (c cs : Nat) (L : List PgP) (st : List Cm) (w : World) (hL : L.length ≤ 1000) (hL2 : ∀ p ∈ L, p.evs.length ≤ 1000) (hst : st.length ≤ 1000) (hr : Rd w w.heap.size A (L.flatMap PgP.cells)) (hrr : ∀ p ∈ L, Rd w w.heap.size p.A (p.evs.flatMap Ev.cells)) (hs : Rd w w.heap.size As (st.flatMap Cm.cells)) :
    CallsIn Fence.wide 3 Tryz.prog 23 #[.slice A L.length c, .slice As st.length cs] w fun e w' => e = .returned (.tuple #[.int .i64 (holdsF (allE L) st), .bool (decide (holdsF (allE L) st = st.length))]) ∧ Below w.heap.size w w' := by
  have HS := Lib.hid hs
  obtain ⟨m, hm⟩ : ∃ m, st.length = m := ⟨_, rfl⟩
  have HM := Lib.hid hm
  obtain ⟨N, hN⟩ : ∃ N, holdsF (allE L) st = N := ⟨_, rfl⟩
  have HN := Lib.hid hN
  rw [hm] at hst ⊢
  rw [hN]
  clear hN
  have HST := Lib.hid (fun W (hW : Below w.heap.size w W) (hk : Blk W (w.heap.size + 2) 27 #[.slice A L.length c]) => evs_stops 2 (by decide) (w.heap.size + 2) w.heap.size A c L hL hL2 W (hk.cell 0) hW.size (hr.below hW (Nat.le_refl _)) (fun p hp => (hrr p hp).below hW (Nat.le_refl _)))
  obtain ⟨nL, hnL⟩ : ∃ nL, L.length = nL := ⟨_, rfl⟩
  rw [hnL] at HST ⊢
  clear hr hrr hL2 hs hm hnL
  refine callsIn_of_wp_marks Tryz.func23 rfl trivial ?_ rfl
  simp only [Tryz.ntmps23, List.size_toArray, List.length_cons, List.length_nil, Nat.reduceAdd, Nat.reduceSub, Array.replicate_succ, Array.replicate_zero, List.push_toArray, List.append_toArray, List.nil_append, List.cons_append]
  refine wpIn_wide.2 ?_
  go_wp2_with (first | (go_at_call 75; refine (events_any _ _ _ _).mono ?_; rintro e w1 ⟨rfl, hw1⟩))
  have k0 : Blk w1 w.heap.size 58 #[.slice As m cs] := by rw [hw1]; exact ((Blk.new _ _ _).alloc _).alloc _
  have k1 : Blk w1 (w.heap.size + 1) 3 #[.int .i64 (0 : Nat)] := by
    rw [hw1]
    have := Blk.new (w.alloc (.cells #[.slice As m cs] 58)) 3 #[.int .i64 0]
    rw [World.size_alloc] at this
    exact this.alloc _
  have k2 : Blk w1 (w.heap.size + 2) 27 #[.slice A nL c] := by
    rw [hw1]
    have := Blk.new ((w.alloc (.cells #[.slice As m cs] 58)).alloc (.cells #[.int .i64 0] 3)) 27 #[.slice A nL c]
    rw [World.size_alloc, World.size_alloc] at this
    exact this
  have hb1 : Below w.heap.size w w1 := by rw [hw1]; exact bAlloc (bAlloc (bAlloc (Below.refl _ _) _) _) _
  have hz1 : w1.heap.size = w.heap.size + 3 := by rw [hw1]; simp
  have HS1 := HST.out w1 hb1 k2
  rw [← hw1]
  clear hw1 HST k2
  refine (wpIn_wide (n := 3)).1 ?_
  refine wpIn_rangeFunc_ownH rfl (by decide) (gf := 153) (lb := #[.pointer (some ⟨w.heap.size + 2, 0, none⟩)]) rfl trivial (enters_of Tryz.func153 (by kernel_rfl) rfl)
    HS1 belowK_t (belowK_b (by omega)) (Below.refl _ _) (fun _ => rfl)
    (fun pre W => (Blk W w.heap.size 58 #[.slice As m cs] ∧ Blk W (w.heap.size + 1) 3 #[.int .i64 (pre.length : Nat)] ∧ matchP pre st) ∧ Below w.heap.size w W)
    (fun c pre W => (c = .exit 0 ∧ Blk W w.heap.size 58 #[.slice As m cs] ∧ ∃ pre0 x, pre = pre0 ++ [x] ∧ Blk W (w.heap.size + 1) 3 #[.int .i64 (pre0.length : Nat)] ∧ matchP pre0 st ∧ ∀ c, st[pre0.length]? = some c → c.e = x → c.kind ≠ 4) ∧ Below w.heap.size w W)
    (OwnFrom.and (fun s A B row hs hg hr => ⟨hs.1.owned hg hr, hs.2.1.owned hg hr, hs.2.2⟩) (ownFrom_below (Nat.le_refl _) (by omega)))
    (fun c => OwnFrom.and (fun s A B row hs hg hr => by
      obtain ⟨h1, h2, p0, x, h3, h4, h5⟩ := hs
      exact ⟨h1, h2.owned hg hr, p0, x, h3, h4.owned hg hr, h5⟩) (ownFrom_below (Nat.le_refl _) (by omega)))
    ⟨⟨k0, k1, matchP_nil st⟩, hb1⟩
    (fun x a' W => ∃ Bx, w.heap.size + 1 < Bx ∧ Blk W Bx 62 x.cells.toArray ∧ a' = { tmps := #[.slice A nL c, .slice As m cs, undef, .pointer (some ⟨w.heap.size, 0, none⟩), .int .i64 0, .bool false, .pointer (some ⟨w.heap.size + 1, 0, none⟩), .pointer (some ⟨Bx, 0, none⟩), .slice A nL c, .func (.func 153) #[] #[.pointer (some ⟨w.heap.size + 2, 0, none⟩)], x.val, undef, undef, undef, undef, undef, undef, undef, undef, undef, undef, undef, undef, undef, undef, undef, undef, undef, undef, undef, undef, undef, undef, undef, undef, undef, undef, undef, undef], defers := [] })
    (fun x a' s A B row hs hg hr => by obtain ⟨Bx, h1, h2, h3⟩ := hs; exact ⟨Bx, h1, h2.owned hg hr, h3⟩)
    ?assign ?body ?done ?stop
  case assign =>
    rintro l pre x W K ⟨⟨h0, h1, h2⟩, hB⟩ hK
    have hx : x.val = .agg #[.int .i64 x.frame, .int .i64 x.emitter, .int .i64 x.kind, .int .i64 x.ord, .int .i64 x.asset, .int .i64 x.gain, .int .i64 x.pan, .int .i64 x.prio, .int .i64 x.len] := rfl
    rw [hx]
    have hl1 := h1.lt
    gi_wp2
    exact hK _ _ ((KeepsOthers.alloc _ _).from _) ((Below.refl _ W).alloc hB.size _) ⟨⟨h0.alloc _, h1.alloc _, h2⟩, hB.alloc hB.size _⟩ ⟨W.heap.size, hl1, Blk.new _ _ _, rfl⟩
  case body =>
    rintro l pre x a' W hl - ⟨⟨h0, h1, h2⟩, hB⟩ ⟨Bx, hBx, bX, rfl⟩ hlt
    obtain ⟨np, hnp⟩ : ∃ np, pre.length = np := ⟨_, rfl⟩
    rw [hnp] at h1
    have HNP := Lib.hid hnp
    have q0 := h0.cell 0
    have q1 := h1.cell 0
    have l0 := h0.lt
    have l1 := h1.lt
    have lX := bX.lt
    simp only [List.getElem?_toArray, List.getElem?_cons_zero] at q0 q1
    have H0 := Lib.hid h0
    have H1 := Lib.hid h1
    have H2 := Lib.hid h2
    have HX := Lib.hid bX
    have HB := Lib.hid hB
    clear hnp h0 h1 h2 bX hB
    apply wpIn_block
    by_cases hge : m ≤ np
    · gi_wp2
      refine wp_region_round (by kernel_rfl) (by kernel_rfl) (fun ⟨_, _, e⟩ => e) ?_
      refine any_mixedU [.held, .held, .pure, .pure, .pure, .held, .held, .pure, .pure, .held, .pure, .pure, .pure, .held, .held, .pure, .pure, .held, .held, .pure, .pure] (by kernel_rfl) ?_
      repeat (first | (refine mixU_pure rfl rfl rfl (fun K hK => ?_); go_big_quiet_op; refine hK _ ?_; clear hK K) | (refine mixU_held rfl rfl rfl (by first | exact fun _ h => h | exact fun _ h => h.2) (fun K hK => ?_); go_big_quiet_op; refine hK _ ?_; clear hK K))
      refine mixU_run (.int .i64 m) rfl rfl (fun W => runs_lenS (.tmp 12) 58 64 rfl Tryz.underlying58 As m cs rfl W) ?_
      simp only [Act.put, List.setIfInBounds_toArray, List.set_cons_zero, List.set_cons_succ]
      (refine mixU_pure rfl rfl rfl (fun K hK => ?_); go_big_quiet_op; refine hK _ ?_; clear hK K)
      (refine mixU_pure rfl rfl rfl (fun K hK => ?_); go_big_quiet_op; refine hK _ ?_; clear hK K)
      iterate 6 (refine mixU_skip rfl ?_; simp only [Act.put, List.setIfInBounds_toArray, List.set_cons_zero, List.set_cons_succ])
      (refine mixU_pure rfl rfl rfl (fun K hK => ?_); go_big_quiet_op; refine hK _ ?_; clear hK K)
      (refine mixU_pure rfl rfl rfl (fun K hK => ?_); go_big_quiet_op; refine hK _ ?_; clear hK K)
      iterate 7 (refine mixU_skip rfl ?_; simp only [Act.put, List.setIfInBounds_toArray, List.set_cons_zero, List.set_cons_succ])
      (refine mixU_pure rfl rfl rfl (fun K hK => ?_); go_big_quiet_op; refine hK _ ?_; clear hK K)
      refine mixU_nil ?_
      rintro W4 hg4
      gi_wp2
      exact ⟨(below_others hg4).from _, ⟨rfl, H0.out.on hg4, pre, x, rfl, by rw [HNP.out]; exact H1.out.on hg4, H2.out, fun c hc => by rw [List.getElem?_eq_none (by rw [HM.out, HNP.out]; exact hge)] at hc; cases hc⟩, HB.out.trans (Below.mono hg4 HB.out.size)⟩
    · have hlm : np < m := by omega
      have hls : np < st.length := by rw [HM.out]; exact hlm
      obtain ⟨b, off, rfl, hbl, y0, -⟩ := (HS.out.below HB.out (Nat.le_refl _)).cm hls
      have hry := (HS.out.below HB.out (Nat.le_refl _)).cmE hls rfl
      have hgs : st[np]? = some st[np] := List.getElem?_eq_getElem hls
      have hbw : b < W.heap.size := Nat.lt_of_lt_of_le hbl HB.out.size
      obtain ⟨cm, hcm⟩ : ∃ cm, st[np] = cm := ⟨_, rfl⟩
      rw [hcm] at y0 hry hgs
      have HGS := Lib.hid hgs
      have HRY := Lib.hid hry
      have HRX : Hid (W.rangeAt Bx 0 x.cells) := Lib.hid (fun j v hv => by rw [Nat.zero_add, HX.out.cell, List.getElem?_toArray]; exact hv)
      clear hcm hry hgs hbl
      by_cases hk4 : cm.kind = 4
      · have q4 : (cm.kind != 4) = false := by simp [hk4]
        by_cases hex : cm.e = x
        · have HNE : Hid (∀ W, (binOp .neq 62 (.agg cm.e.cells.toArray) (.agg x.cells.toArray)).run Tryz.prog W = .ok (.bool false) W) := Lib.hid (fun W => by have h1 := ev_neq cm.e x W; rw [decide_eq_true hex] at h1; exact h1)
          have HC := Lib.hid hk4
          have HE := Lib.hid hex
          clear hk4 hex
          gi_wp2
          refine wp_region_round (by kernel_rfl) (by kernel_rfl) (fun ⟨_, _, e⟩ => e) ?_
          refine any_mixedU [.held, .held, .pure, .pure, .pure, .held, .held, .pure, .pure, .held, .pure, .pure, .pure, .held, .held, .pure, .pure, .held, .held, .pure, .pure] (by kernel_rfl) ?_
          repeat (first | (refine mixU_pure rfl rfl rfl (fun K hK => ?_); go_big_quiet_op; refine hK _ ?_; clear hK K) | (refine mixU_held rfl rfl rfl (by first | exact fun _ h => h | exact fun _ h => h.2) (fun K hK => ?_); go_big_quiet_op; refine hK _ ?_; clear hK K))
          refine mixU_run (.int .i64 m) rfl rfl (fun W => runs_lenS (.tmp 12) 58 64 rfl Tryz.underlying58 (some ⟨b, off, none⟩) m cs rfl W) ?_
          simp only [Act.put, List.setIfInBounds_toArray, List.set_cons_zero, List.set_cons_succ]
          (refine mixU_pure rfl rfl rfl (fun K hK => ?_); go_big_quiet_op; refine hK _ ?_; clear hK K)
          (refine mixU_pure rfl rfl rfl (fun K hK => ?_); go_big_quiet_op; refine hK _ ?_; clear hK K)
          (refine mixU_held rfl rfl rfl (by first | exact fun _ h => h | exact fun _ h => h.2) (fun K hK => ?_); go_big_quiet_op; refine hK _ ?_; clear hK K)
          (refine mixU_held rfl rfl rfl (by first | exact fun _ h => h | exact fun _ h => h.2) (fun K hK => ?_); go_big_quiet_op; refine hK _ ?_; clear hK K)
          (refine mixU_pure rfl rfl rfl (fun K hK => ?_); go_big_quiet_op; refine hK _ ?_; clear hK K)
          (refine mixU_pure rfl rfl rfl (fun K hK => ?_); go_big_quiet_op; refine hK _ ?_; clear hK K)
          (refine mixU_held rfl rfl rfl (by first | exact fun _ h => h | exact fun _ h => h.2) (fun K hK => ?_); go_big_quiet_op; refine hK _ ?_; clear hK K)
          (refine mixU_pure rfl rfl rfl (fun K hK => ?_); go_big_quiet_op; refine hK _ ?_; clear hK K)
          (refine mixU_pure rfl rfl rfl (fun K hK => ?_); go_big_quiet_op; refine hK _ ?_; clear hK K)
          (refine mixU_pure rfl rfl rfl (fun K hK => ?_); go_big_quiet_op; refine hK _ ?_; clear hK K)
          (refine mixU_held rfl rfl rfl (by first | exact fun _ h => h | exact fun _ h => h.2) (fun K hK => ?_); go_big_quiet_op; refine hK _ ?_; clear hK K)
          (refine mixU_held rfl rfl rfl (by first | exact fun _ h => h | exact fun _ h => h.2) (fun K hK => ?_); go_big_quiet_op; refine hK _ ?_; clear hK K)
          (refine mixU_pure rfl rfl rfl (fun K hK => ?_); go_big_quiet_op; refine hK _ ?_; clear hK K)
          (refine mixU_pure rfl rfl rfl (fun K hK => ?_); go_big_quiet_op; refine hK _ ?_; clear hK K)
          refine mixU_load rfl rfl (fun _ h => h) 62 (.tmp 27) rfl b (off + np * 12 + 1) rfl cm.e.cells _ hbw HRY.out Tryz.underlying62 rfl (by kernel_rfl) ?_
          simp only [Act.put, List.setIfInBounds_toArray, List.set_cons_zero, List.set_cons_succ]
          refine mixU_load rfl rfl (fun _ h => h) 62 (.tmp 7) rfl Bx 0 rfl x.cells _ lX HRX.out Tryz.underlying62 rfl (by kernel_rfl) ?_
          simp only [Act.put, List.setIfInBounds_toArray, List.set_cons_zero, List.set_cons_succ]
          refine mixU_run (.bool false) rfl rfl (runs_neq rfl rfl rfl (by kernel_rfl) HNE.out) ?_
          simp only [Act.put, List.setIfInBounds_toArray, List.set_cons_zero, List.set_cons_succ]
          (refine mixU_pure rfl rfl rfl (fun K hK => ?_); go_big_quiet_op; refine hK _ ?_; clear hK K)
          refine mixU_nil ?_
          rintro W4 hg4
          have q14 := (H1.out.on hg4).cell 0
          have f14 := (H1.out.on hg4).frozen 0
          have l14 := (H1.out.on hg4).lt
          simp only [List.getElem?_toArray, List.getElem?_cons_zero] at q14
          gi_wp2
          have hBB : Below w.heap.size W (W4.setCell ⟨w.heap.size + 1, 0, none⟩ (.int .i64 (np + 1))) := (Below.mono hg4 HB.out.size).setCell (p := ⟨w.heap.size + 1, 0, none⟩) (Nat.le_succ _) _
          have hle : ((pre ++ [x]).length : Int) = np + 1 := by rw [List.length_append, HNP.out]; simp
          refine ⟨((below_others hg4).trans (KeepsOthers.setCell _ _ _)).from _, hBB, ⟨(H0.out.on hg4).farG (by omega) _ _, ?_, ?_⟩, HB.out.trans hBB⟩
          · rw [hle]
            exact (H1.out.on hg4).set 0 (.int .i64 (np + 1))
          · have h3 := H2.out.snoc (c := cm) (by rw [HNP.out]; exact HGS.out) HC.out
            rwa [HE.out] at h3
        · have HNE : Hid (∀ W, (binOp .neq 62 (.agg cm.e.cells.toArray) (.agg x.cells.toArray)).run Tryz.prog W = .ok (.bool true) W) := Lib.hid (fun W => by have h1 := ev_neq cm.e x W; rw [decide_eq_false hex] at h1; exact h1)
          have HE := Lib.hid hex
          clear hk4 hex
          gi_wp2
          refine wp_region_round (by kernel_rfl) (by kernel_rfl) (fun ⟨_, _, e⟩ => e) ?_
          refine any_mixedU [.held, .held, .pure, .pure, .pure, .held, .held, .pure, .pure, .held, .pure, .pure, .pure, .held, .held, .pure, .pure, .held, .held, .pure, .pure] (by kernel_rfl) ?_
          repeat (first | (refine mixU_pure rfl rfl rfl (fun K hK => ?_); go_big_quiet_op; refine hK _ ?_; clear hK K) | (refine mixU_held rfl rfl rfl (by first | exact fun _ h => h | exact fun _ h => h.2) (fun K hK => ?_); go_big_quiet_op; refine hK _ ?_; clear hK K))
          refine mixU_run (.int .i64 m) rfl rfl (fun W => runs_lenS (.tmp 12) 58 64 rfl Tryz.underlying58 (some ⟨b, off, none⟩) m cs rfl W) ?_
          simp only [Act.put, List.setIfInBounds_toArray, List.set_cons_zero, List.set_cons_succ]
          (refine mixU_pure rfl rfl rfl (fun K hK => ?_); go_big_quiet_op; refine hK _ ?_; clear hK K)
          (refine mixU_pure rfl rfl rfl (fun K hK => ?_); go_big_quiet_op; refine hK _ ?_; clear hK K)
          (refine mixU_held rfl rfl rfl (by first | exact fun _ h => h | exact fun _ h => h.2) (fun K hK => ?_); go_big_quiet_op; refine hK _ ?_; clear hK K)
          (refine mixU_held rfl rfl rfl (by first | exact fun _ h => h | exact fun _ h => h.2) (fun K hK => ?_); go_big_quiet_op; refine hK _ ?_; clear hK K)
          (refine mixU_pure rfl rfl rfl (fun K hK => ?_); go_big_quiet_op; refine hK _ ?_; clear hK K)
          (refine mixU_pure rfl rfl rfl (fun K hK => ?_); go_big_quiet_op; refine hK _ ?_; clear hK K)
          (refine mixU_held rfl rfl rfl (by first | exact fun _ h => h | exact fun _ h => h.2) (fun K hK => ?_); go_big_quiet_op; refine hK _ ?_; clear hK K)
          (refine mixU_pure rfl rfl rfl (fun K hK => ?_); go_big_quiet_op; refine hK _ ?_; clear hK K)
          (refine mixU_pure rfl rfl rfl (fun K hK => ?_); go_big_quiet_op; refine hK _ ?_; clear hK K)
          (refine mixU_pure rfl rfl rfl (fun K hK => ?_); go_big_quiet_op; refine hK _ ?_; clear hK K)
          (refine mixU_held rfl rfl rfl (by first | exact fun _ h => h | exact fun _ h => h.2) (fun K hK => ?_); go_big_quiet_op; refine hK _ ?_; clear hK K)
          (refine mixU_held rfl rfl rfl (by first | exact fun _ h => h | exact fun _ h => h.2) (fun K hK => ?_); go_big_quiet_op; refine hK _ ?_; clear hK K)
          (refine mixU_pure rfl rfl rfl (fun K hK => ?_); go_big_quiet_op; refine hK _ ?_; clear hK K)
          (refine mixU_pure rfl rfl rfl (fun K hK => ?_); go_big_quiet_op; refine hK _ ?_; clear hK K)
          refine mixU_load rfl rfl (fun _ h => h) 62 (.tmp 27) rfl b (off + np * 12 + 1) rfl cm.e.cells _ hbw HRY.out Tryz.underlying62 rfl (by kernel_rfl) ?_
          simp only [Act.put, List.setIfInBounds_toArray, List.set_cons_zero, List.set_cons_succ]
          refine mixU_load rfl rfl (fun _ h => h) 62 (.tmp 7) rfl Bx 0 rfl x.cells _ lX HRX.out Tryz.underlying62 rfl (by kernel_rfl) ?_
          simp only [Act.put, List.setIfInBounds_toArray, List.set_cons_zero, List.set_cons_succ]
          refine mixU_run (.bool true) rfl rfl (runs_neq rfl rfl rfl (by kernel_rfl) HNE.out) ?_
          simp only [Act.put, List.setIfInBounds_toArray, List.set_cons_zero, List.set_cons_succ]
          (refine mixU_pure rfl rfl rfl (fun K hK => ?_); go_big_quiet_op; refine hK _ ?_; clear hK K)
          refine mixU_nil ?_
          rintro W4 hg4
          gi_wp2
          exact ⟨(below_others hg4).from _, ⟨rfl, H0.out.on hg4, pre, x, rfl, by rw [HNP.out]; exact H1.out.on hg4, H2.out, fun c hc hx => by rw [HNP.out, HGS.out] at hc; cases hc; exact absurd hx HE.out⟩, HB.out.trans (Below.mono hg4 HB.out.size)⟩
      · have q4 : (cm.kind != 4) = true := by simp [hk4]
        have HC := Lib.hid hk4
        clear hk4
        gi_wp2
        refine wp_region_round (by kernel_rfl) (by kernel_rfl) (fun ⟨_, _, e⟩ => e) ?_
        refine any_mixedU [.held, .held, .pure, .pure, .pure, .held, .held, .pure, .pure, .held, .pure, .pure, .pure, .held, .held, .pure, .pure, .held, .held, .pure, .pure] (by kernel_rfl) ?_
        repeat (first | (refine mixU_pure rfl rfl rfl (fun K hK => ?_); go_big_quiet_op; refine hK _ ?_; clear hK K) | (refine mixU_held rfl rfl rfl (by first | exact fun _ h => h | exact fun _ h => h.2) (fun K hK => ?_); go_big_quiet_op; refine hK _ ?_; clear hK K))
        refine mixU_run (.int .i64 m) rfl rfl (fun W => runs_lenS (.tmp 12) 58 64 rfl Tryz.underlying58 (some ⟨b, off, none⟩) m cs rfl W) ?_
        simp only [Act.put, List.setIfInBounds_toArray, List.set_cons_zero, List.set_cons_succ]
        (refine mixU_pure rfl rfl rfl (fun K hK => ?_); go_big_quiet_op; refine hK _ ?_; clear hK K)
        (refine mixU_pure rfl rfl rfl (fun K hK => ?_); go_big_quiet_op; refine hK _ ?_; clear hK K)
        (refine mixU_held rfl rfl rfl (by first | exact fun _ h => h | exact fun _ h => h.2) (fun K hK => ?_); go_big_quiet_op; refine hK _ ?_; clear hK K)
        (refine mixU_held rfl rfl rfl (by first | exact fun _ h => h | exact fun _ h => h.2) (fun K hK => ?_); go_big_quiet_op; refine hK _ ?_; clear hK K)
        (refine mixU_pure rfl rfl rfl (fun K hK => ?_); go_big_quiet_op; refine hK _ ?_; clear hK K)
        (refine mixU_pure rfl rfl rfl (fun K hK => ?_); go_big_quiet_op; refine hK _ ?_; clear hK K)
        (refine mixU_held rfl rfl rfl (by first | exact fun _ h => h | exact fun _ h => h.2) (fun K hK => ?_); go_big_quiet_op; refine hK _ ?_; clear hK K)
        (refine mixU_pure rfl rfl rfl (fun K hK => ?_); go_big_quiet_op; refine hK _ ?_; clear hK K)
        (refine mixU_pure rfl rfl rfl (fun K hK => ?_); go_big_quiet_op; refine hK _ ?_; clear hK K)
        (refine mixU_pure rfl rfl rfl (fun K hK => ?_); go_big_quiet_op; refine hK _ ?_; clear hK K)
        iterate 7 (refine mixU_skip rfl ?_; simp only [Act.put, List.setIfInBounds_toArray, List.set_cons_zero, List.set_cons_succ])
        (refine mixU_pure rfl rfl rfl (fun K hK => ?_); go_big_quiet_op; refine hK _ ?_; clear hK K)
        refine mixU_nil ?_
        rintro W4 hg4
        gi_wp2
        exact ⟨(below_others hg4).from _, ⟨rfl, H0.out.on hg4, pre, x, rfl, by rw [HNP.out]; exact H1.out.on hg4, H2.out, fun c hc _ => by rw [HNP.out, HGS.out] at hc; cases hc; exact HC.out⟩, HB.out.trans (Below.mono hg4 HB.out.size)⟩
  case done =>
    rintro D ys W hD hS ⟨⟨h0, h1, h2⟩, hB⟩ hK
    have hS2 : ys = allE L := hS
    have hh := holds_done h2
    rw [hS2] at hh h1
    rw [← hh] at h1
    rw [HN.out] at h1
    have q0 := h0.cell 0
    have q1 := h1.cell 0
    have l0 := h0.lt
    have l1 := h1.lt
    simp only [List.getElem?_toArray, List.getElem?_cons_zero] at q0 q1
    have HB := Lib.hid hB
    have HK := Lib.hid hK
    clear h0 h1 h2 hB hK hS hS2 hh
    go_wp2_with fail
    refine wp_region_mild (by kernel_rfl) (by kernel_rfl) ?_
    repeat (go_big_quiet_step (fail))
    refine wpQuiet_nil ?_
    intro W4 hw'
    obtain ⟨⟨wq, k4⟩, hw''⟩ := hw'
    subst hw''
    go_wp2
    have hK4 : W4.heap[D]? = some (.deferred (some [])) := (k4.block D (Array.getElem?_eq_some_iff.1 HK.out).1).trans HK.out
    refine ⟨by simp, .inl ⟨_, _, rfl, run_takeDeferred hK4, ?_⟩⟩
    refine ⟨.tuple #[.int .i64 N, .bool ((N : Int) == (m : Int))], ?_, by rw [beq_nat], (HB.out.trans (Below.mono k4 HB.out.size)).trans (belowK_b (w := w) (Nat.le_refl _) W4 D _ _ (by omega) hK4 rfl rfl)⟩
    simp [results, Tryz.results23, go_sem]
  case stop =>
    rintro D c pre W hD ⟨k, hk, hp⟩ ⟨⟨rfl, h0, pre0, x, hpx, h1, h2, h3⟩, hB⟩ hK
    have hh := holds_stop h2 hk (hpx ▸ hp) h3
    rw [← hh] at h1
    rw [HN.out] at h1
    have q0 := h0.cell 0
    have q1 := h1.cell 0
    have l0 := h0.lt
    have l1 := h1.lt
    simp only [List.getElem?_toArray, List.getElem?_cons_zero] at q0 q1
    have HB := Lib.hid hB
    have HK := Lib.hid hK
    clear h0 h1 h2 h3 hB hK hh hp hpx
    refine wpIn_wide.2 ?_
    go_wp2_with fail
    refine wp_region_mild (by kernel_rfl) (by kernel_rfl) ?_
    repeat (go_big_quiet_step (fail))
    refine wpQuiet_nil ?_
    intro W4 hw'
    obtain ⟨⟨wq, k4⟩, hw''⟩ := hw'
    subst hw''
    go_wp2
    have hK4 : W4.heap[D]? = some (.deferred (some [])) := (k4.block D (Array.getElem?_eq_some_iff.1 HK.out).1).trans HK.out
    refine ⟨by simp, .inl ⟨_, _, rfl, run_takeDeferred hK4, ?_⟩⟩
    refine ⟨.tuple #[.int .i64 N, .bool ((N : Int) == (m : Int))], ?_, by rw [beq_nat], (HB.out.trans (Below.mono k4 HB.out.size)).trans (belowK_b (w := w) (Nat.le_refl _) W4 D _ _ (by omega) hK4 rfl rfl)⟩
    simp [results, Tryz.results23, go_sem]
end Go.Proofs.YtibeihcpehikoaaGreat

namespace Go.Proofs.YtibeihcpehikoaaGreat
open Go.RowKit
/-- Entries in order of their keys, each key once. -/
def heardS (S : List Ev) (c : Cm) : List Ev :=
  if c.kind = 1 ∨ (c.kind = 2 ∧ (findS S c.e.key).isSome = true) then putE (dropK S c.e.key) c.e else if c.kind = 3 then dropK S c.e.key else S
def heardL (l : List Cm) : List Ev := l.foldl heardS []
theorem sorted_drop {S : List Ev} (h : SortedE S) (k : Key4) : SortedE (dropK S k) := h.sublist List.filter_sublist
theorem sorted_put {S : List Ev} (h : SortedE S) {e : Ev} (hk : ∀ x ∈ S, x.key ≠ e.key) : SortedE (putE S e) := by
  rw [sortedE_iff (putE_sortedW (sortedW_of h) e)]
  have hp := (putE_perm S e).map Ev.key
  rw [hp.nodup_iff, List.map_cons, List.nodup_cons]
  refine ⟨fun hm => ?_, (sortedE_iff (sortedW_of h)).1 h⟩
  obtain ⟨x, hx, hxk⟩ := List.mem_map.1 hm
  exact hk x hx hxk
theorem sorted_keys {S : List Ev} (h : SortedE S) : ((prs S).map fun p => p.1.val).Nodup := by
  have h1 := (sortedE_iff (sortedW_of h)).1 h
  have h2 : ((prs S).map fun p => p.1.val) = (S.map Ev.key).map Key4.val := by
    unfold prs
    simp [List.map_map, Function.comp_def]
  rw [h2]
  exact List.Pairwise.map Key4.val (fun a b hab e => hab (keyV_inj e)) h1
theorem heardS_ok {S : List Ev} (h : SortedE S) (c : Cm) : SortedE (heardS S c) := by
  unfold heardS
  split
  · exact sorted_put (sorted_drop h _) (fun x hx => (mem_dropK.1 hx).2)
  · split
    · exact sorted_drop h _
    · exact h
theorem heardS_le (S : List Ev) (c : Cm) : (heardS S c).length ≤ S.length + 1 := by
  have hd := dropK_le S c.e.key
  unfold heardS
  split
  · rw [putE_length]; omega
  · split <;> omega
theorem heardL_ok : ∀ (l : List Cm) (S : List Ev), SortedE S → SortedE (l.foldl heardS S) ∧ (l.foldl heardS S).length ≤ S.length + l.length
  | [], S, h => ⟨h, Nat.le_refl _⟩
  | c :: l, S, h => by
    obtain ⟨h1, h2⟩ := heardL_ok l (heardS S c) (heardS_ok h c)
    have := heardS_le S c
    rw [List.foldl_cons, List.length_cons]
    exact ⟨h1, by omega⟩
/-- What is stored, for a map's law. -/
theorem store_put {S : List Ev} (h : SortedE S) (e : Ev) : (∀ p ∈ prs (putE (dropK S e.key) e), p = (e.key, e) ∨ (p ∈ prs S ∧ p.1.val ≠ e.key.val)) ∧ (∀ p ∈ prs S, p.1.val ≠ e.key.val → p ∈ prs (putE (dropK S e.key) e)) ∧ (e.key, e) ∈ prs (putE (dropK S e.key) e) ∧ ((prs (putE (dropK S e.key) e)).map fun p => p.1.val).Nodup := by
  have hm : ∀ x, x ∈ putE (dropK S e.key) e ↔ x = e ∨ (x ∈ S ∧ x.key ≠ e.key) := fun x => by
    rw [(putE_perm _ _).mem_iff, List.mem_cons, mem_dropK]
  refine ⟨fun p hp => ?_, fun p hp hne => ?_, ?_, sorted_keys (sorted_put (sorted_drop h _) (fun x hx => (mem_dropK.1 hx).2))⟩
  · obtain ⟨h1, h2⟩ := mem_prs.1 hp
    rcases (hm _).1 h1 with h3 | ⟨h3, h4⟩
    · left
      obtain ⟨k, x⟩ := p
      simp only at h2 h3
      rw [h2, h3]
    · right
      exact ⟨mem_prs.2 ⟨h3, h2⟩, fun e1 => h4 (by rw [← h2]; exact keyV_inj e1)⟩
  · obtain ⟨h1, h2⟩ := mem_prs.1 hp
    exact mem_prs.2 ⟨(hm _).2 (.inr ⟨h1, fun e1 => hne (by rw [h2, e1])⟩), h2⟩
  · exact mem_prs.2 ⟨(hm _).2 (.inl rfl), rfl⟩
end Go.Proofs.YtibeihcpehikoaaGreat
