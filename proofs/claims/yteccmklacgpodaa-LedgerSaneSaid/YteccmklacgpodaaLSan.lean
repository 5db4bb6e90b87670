/-
  The program's Sane.
-/
import Derived.Test.YteccmklacgpodaaLSanP
import Derived.Test.YteccmklacgpodaaLCom
namespace Go.Proofs.Yteccmklacgpodaa
open Go.RowKit
set_option maxRecDepth 100000
set_option linter.unusedSimpArgs false
theorem wpList_lookW {κ ν : Type} {ke : κ → Value} {ve : ν → Value} {P : Program} (w : World) {ops : Array Oper} {rest : List Oper} {o : Oper} {a : Act} {Q : Exit → Act → World → Prop} (hg : o.guard = none) (m x : Operand) (t : TypeId) (hop : o.op = Op.lookup t m x true) (k e : TypeId) (K : Go.Maps.Keyed P k) (ht : P.underlying t = some (.map k e)) {z : Value} (hz : (zeroValue e).run P w = .ok z w) (b : Nat) (L : List (κ × ν))
    (hm : a.eval m = .map (some b)) (h : MapIs ke ve P k w b L) (key : κ) (kl : Lit) (hx : a.eval x = ke key) (hkey : keyOf P k (ke key) = some kl)
    (v : Value) (hno : (∀ p ∈ L, ke p.1 ≠ ke key) → v = .tuple #[z, .bool false]) (hyes : ∀ p ∈ L, ke p.1 = ke key → v = .tuple #[ve p.2, .bool true]) (hK : wpList P ops Q rest (a.put o.dst v) w) : wpList P ops Q (o :: rest) a w :=
  wpList_lookM w hg m x t hop k e K ht hz b L hm h key kl hx hkey (fun hn => by rw [← hno hn]; exact hK) (fun p hp he => by rw [← hyes p hp he]; exact hK)
theorem nodup_one {S : List Ev} (hn : ((prs S).map fun p => p.1.val).Nodup) {a b : Ev} (ha : a ∈ S) (hb : b ∈ S) (hk : a.key = b.key) : a = b := by
  obtain ⟨i, hi, rfl⟩ := List.mem_iff_getElem.1 ha
  obtain ⟨j, hj, rfl⟩ := List.mem_iff_getElem.1 hb
  have h1 := List.pairwise_iff_getElem.1 hn
  have hl : ((prs S).map fun p => p.1.val).length = S.length := by unfold prs; simp
  have hg : ∀ i (h : i < S.length), ((prs S).map fun p => p.1.val)[i]'(by rw [hl]; exact h) = S[i].key.val := fun i h => by unfold prs; simp
  rcases Nat.lt_trichotomy i j with h | h | h
  · have := h1 i j (by rw [hl]; exact hi) (by rw [hl]; exact hj) h
    rw [hg i hi, hg j hj, hk] at this
    exact absurd rfl this
  · subst h; rfl
  · have := h1 j i (by rw [hl]; exact hj) (by rw [hl]; exact hi) h
    rw [hg i hi, hg j hj, hk] at this
    exact absurd rfl this
theorem lookN_of {S : List Ev} (hn : ((prs S).map fun p => p.1.val).Nodup) (k : Key4) : ∃ (z : Ev) (ok : Bool), findS S k = (if ok = true then some z else none) ∧ ((∀ p ∈ prs S, p.1.val ≠ k.val) → z = zeroE ∧ ok = false) ∧ (∀ p ∈ prs S, p.1.val = k.val → z = p.2 ∧ ok = true) := by
  cases hf : findS S k with
  | some z =>
    obtain ⟨hz, hk⟩ := findS_some hf
    refine ⟨z, true, rfl, fun hn => absurd (by rw [hk]) (hn (z.key, z) (mem_prs.2 ⟨hz, rfl⟩)), fun p hp he => ?_⟩
    obtain ⟨h1, h2⟩ := mem_prs.1 hp
    have h3 : p.2.key = k := by rw [← h2]; exact keyV_inj he
    exact ⟨nodup_one hn hz h1 (by rw [hk, h3]), rfl⟩
  | none =>
    refine ⟨zeroE, false, rfl, fun _ => ⟨rfl, rfl⟩, fun p hp he => ?_⟩
    obtain ⟨h1, h2⟩ := mem_prs.1 hp
    exact absurd (by rw [← h2]; exact keyV_inj he) (findS_none.1 hf p.2 h1)
def prD (D : List Key4) : List (Key4 × Bool) := D.map fun k => (k, true)
/-- The two maps of Sane. -/
structure SanW (w : World) (bl bd : Nat) (s : San) : Prop where
  live : MapIs Key4.val Ev.val Try.prog 41 w bl (prs s.1)
  done : MapIs Key4.val Value.bool Try.prog 41 w bd (prD s.2)
  ne : bl ≠ bd
theorem SanW.on {w w' : World} {bl bd : Nat} {s : San} (h : SanW w bl bd s) (hb : Below w.heap.size w w') : SanW w' bl bd s := ⟨h.live.same (hb.block bl h.live.lt), h.done.same (hb.block bd h.done.lt), h.ne⟩
theorem zero_bool (W : World) : (zeroValue 4).run Try.prog W = .ok (.bool false) W := by kernel_rfl
theorem stepS_le {s s' : San} {c : Cm} (h : stepS s c = some s') : s'.1.length ≤ s.1.length + 1 ∧ s'.2.length ≤ s.2.length + 1 := by
  have hd := dropK_le s.1 c.e.key
  unfold stepS at h
  repeat' split at h
  all_goals cases h
  all_goals simp only [List.length_cons]
  all_goals omega
theorem noS {s : San} {c : Cm} (h : stepS s c = none) {Q : San → Prop} : ∀ s', stepS s c = some s' → Q s' := fun s' hs => by rw [h] at hs; cases hs
theorem oneS {s t : San} {c : Cm} (h : stepS s c = some t) {Q : San → Prop} (hq : Q t) : ∀ s', stepS s c = some s' → Q s' := fun s' hs => by rw [h] at hs; cases hs; exact hq
theorem ret_isS {s : San} {c : Cm} {r : Option San} (h : stepS s c = r) {b : Bool} (hb : b = r.isSome) : Ending.returned (.bool b) = .returned (.bool (stepS s c).isSome) := by rw [h, hb]
theorem SanW.liveT {w w' : World} {bl bd : Nat} {s : San} (h : SanW w bl bd s) {S' : List Ev} (hM : MapIs Key4.val Ev.val Try.prog 41 w' bl (prs S')) (hg : w.grownBy w' (some bl)) : SanW w' bl bd (S', s.2) :=
  ⟨hM, h.done.same (hg.block bd h.done.lt (fun e => h.ne (Option.some.inj e).symm)), h.ne⟩
theorem SanW.doneT {w w' : World} {bl bd : Nat} {s : San} (h : SanW w bl bd s) {D' : List Key4} (hM : MapIs Key4.val Value.bool Try.prog 41 w' bd (prD D')) (hg : w.grownBy w' (some bd)) : SanW w' bl bd (s.1, D') :=
  ⟨h.live.same (hg.block bl h.live.lt (fun e => h.ne (Option.some.inj e))), hM, h.ne⟩
theorem prD_1 {D : List Key4} {k : Key4} (hk : k ∉ D) : ∀ p ∈ prD (k :: D), p = (k, true) ∨ (p ∈ prD D ∧ p.1.val ≠ k.val) := fun p hp => by
  unfold prD at hp ⊢
  obtain ⟨j, hj, rfl⟩ := List.mem_map.1 hp
  rcases List.mem_cons.1 hj with rfl | hj
  · exact .inl rfl
  · exact .inr ⟨List.mem_map.2 ⟨j, hj, rfl⟩, fun e => hk (by rw [← keyV_inj e]; exact hj)⟩
theorem prD_2 {D : List Key4} {k : Key4} : ∀ p ∈ prD D, p.1.val ≠ k.val → p ∈ prD (k :: D) := fun p hp _ => by
  unfold prD at hp ⊢
  exact List.mem_cons_of_mem _ hp
theorem prD_4 {D : List Key4} {k : Key4} (hk : k ∉ D) (hn : ((prD D).map fun p => p.1.val).Nodup) : ((prD (k :: D)).map fun p => p.1.val).Nodup := by
  show (_ :: (prD D).map fun p => p.1.val).Nodup
  refine List.nodup_cons.2 ⟨fun hm => ?_, hn⟩
  obtain ⟨p, hp, he⟩ := List.mem_map.1 hm
  obtain ⟨j, hj, rfl⟩ := List.mem_map.1 hp
  have he' : j.val = k.val := he
  exact hk (by rw [← keyV_inj he']; exact hj)
theorem prD_len (D : List Key4) : (prD D).length = D.length := by unfold prD; simp
/-- What is left of the maps behind a command that is taken. -/
def TakeQ (s : San) (c : Cm) (bl bd : Nat) (w w' : World) : Prop := (∀ s', stepS s c = some s' → SanW w' bl bd s') ∧ KeptX w w' [bl, bd]
theorem takeNo {s : San} {c : Cm} {bl bd : Nat} {w w' : World} (h : stepS s c = none) (k : KeptX w w' [bl, bd]) : TakeQ s c bl bd w w' := ⟨noS h, k⟩
theorem takeOne {s t : San} {c : Cm} {bl bd : Nat} {w w' : World} (h : stepS s c = some t) (q : SanW w' bl bd t) (k : KeptX w w' [bl, bd]) : TakeQ s c bl bd w w' := ⟨oneS h q, k⟩
theorem Blk.turned {w w' : World} {g b : Nat} {E : TypeId} {cs : Array Value} (h : Blk w g E cs) (hb : ∃ es clock, w.heap[b]? = some (.map es clock)) (hg : w.grownBy w' (some b)) : Blk w' g E cs := by
  obtain ⟨es, ck, hb⟩ := hb
  exact h.grown hg (fun e => h.noMap hb (Option.some.inj e).symm)
set_option maxHeartbeats 8000000 in
theorem takes_any (c : Cm) (s : San) (bl bd : Nat) (w : World) (h : SanW w bl bd s) (hw : c.e.key.Wf) (hl : s.1.length ≤ 1000000 ∧ s.2.length ≤ 1000000) :
    Calls Try.prog 50 #[.agg #[.map (some bl), .map (some bd)], .agg #[.int .i64 c.kind, .int .i64 c.e.frame, .int .i64 c.e.emitter, .int .i64 c.e.kind, .int .i64 c.e.ord, .int .i64 c.e.asset, .int .i64 c.e.gain, .int .i64 c.e.pan, .int .i64 c.e.prio, .int .i64 c.e.len, .int .i64 c.late, .bool c.played]] w fun e w' => e = .returned (.bool (stepS s c).isSome) ∧ TakeQ s c bl bd w w' := by
  obtain ⟨kl, hkl⟩ := key_lit c.e.key hw
  have HKL := Lib.hid hkl
  obtain ⟨z, ok, hfz, hno, hyes⟩ := lookN_of h.live.nodup c.e.key
  have HNO := Lib.hid hno
  have HYES := Lib.hid hyes
  obtain ⟨d, hd⟩ : ∃ d, decide (c.e.key ∈ s.2) = d := ⟨_, rfl⟩
  obtain ⟨u, hu⟩ : ∃ u, u = Value.bool d := ⟨_, rfl⟩
  have HU := Lib.hid hu
  have HDN : Hid ((∀ p ∈ prD s.2, p.1.val ≠ c.e.key.val) → u = .bool false) := Lib.hid (fun hn => by
    rw [hu, ← hd, decide_eq_false]
    intro hm
    exact hn (c.e.key, true) (List.mem_map.2 ⟨_, hm, rfl⟩) rfl)
  have HDY : Hid (∀ p ∈ prD s.2, p.1.val = c.e.key.val → u = .bool p.2) := Lib.hid (fun p hp he => by
    obtain ⟨k, hk, rfl⟩ := List.mem_map.1 hp
    rw [hu, ← hd, ← keyV_inj he, decide_eq_true hk])
  have HST : Hid (∀ r, (if d = true ∨ c.late < 0 then none else if c.kind = 1 then (if ok = true then none else some (c.e :: dropK s.1 c.e.key, s.2)) else if c.kind = 2 then (if ok = true then some (c.e :: dropK s.1 c.e.key, s.2) else none) else if c.kind = 3 then (if ok = true then some (dropK s.1 c.e.key, s.2) else none) else if c.kind = 4 then (if ok = c.played ∧ (ok = false ∨ z = c.e) then some (dropK s.1 c.e.key, c.e.key :: s.2) else none) else none) = r → stepS s c = r) := Lib.hid (fun r hr => by
    rw [← hr]
    unfold stepS
    have e1 : (c.e.key ∈ s.2 ∨ c.late < 0) = (d = true ∨ c.late < 0) := by rw [← hd]; simp
    have e2 : (findS s.1 c.e.key).isSome = ok := by rw [hfz]; cases ok <;> rfl
    have e3 : (findS s.1 c.e.key = some c.e) = (ok = true ∧ z = c.e) := by rw [hfz]; cases ok <;> simp
    simp only [e1, e2, e3]
    cases ok <;> simp)
  have HDK : Hid (d = false → c.e.key ∉ s.2) := Lib.hid (fun h => by rw [← hd] at h; simpa using h)
  have HW := Lib.hid h
  have hbl := h.live.lt
  have hbd := h.done.lt
  clear h hw hkl hfz hno hyes hd hu
  go_enter Try.func50, Try.ntmps50
  go_upto_region 2 with fail
  obtain ⟨w1, hw1⟩ : ∃ w1, w1 = ((w.alloc (.cells #[.map (some bl), .map (some bd)] 77)).alloc (.cells #[.int .i64 c.kind, .int .i64 c.e.frame, .int .i64 c.e.emitter, .int .i64 c.e.kind, .int .i64 c.e.ord, .int .i64 c.e.asset, .int .i64 c.e.gain, .int .i64 c.e.pan, .int .i64 c.e.prio, .int .i64 c.e.len, .int .i64 c.late, .bool c.played] 57)).alloc (.cells #[.int .i64 c.e.frame, .int .i64 c.e.emitter, .int .i64 c.e.kind, .int .i64 c.e.ord] 41) := ⟨_, rfl⟩
  have HS1 : Hid (Blk w1 w.heap.size 77 #[.map (some bl), .map (some bd)]) := Lib.hid (by rw [hw1]; exact ((Blk.new _ _ _).alloc _).alloc _)
  have HC1 : Hid (Blk w1 (w.heap.size + 1) 57 #[.int .i64 c.kind, .int .i64 c.e.frame, .int .i64 c.e.emitter, .int .i64 c.e.kind, .int .i64 c.e.ord, .int .i64 c.e.asset, .int .i64 c.e.gain, .int .i64 c.e.pan, .int .i64 c.e.prio, .int .i64 c.e.len, .int .i64 c.late, .bool c.played]) := Lib.hid (by
    rw [hw1]
    have := Blk.new (w.alloc (.cells #[.map (some bl), .map (some bd)] 77)) 57 #[.int .i64 c.kind, .int .i64 c.e.frame, .int .i64 c.e.emitter, .int .i64 c.e.kind, .int .i64 c.e.ord, .int .i64 c.e.asset, .int .i64 c.e.gain, .int .i64 c.e.pan, .int .i64 c.e.prio, .int .i64 c.e.len, .int .i64 c.late, .bool c.played]
    rw [World.size_alloc] at this
    exact this.alloc _)
  have HK1 : Hid (Blk w1 (w.heap.size + 1 + 1) 41 #[.int .i64 c.e.frame, .int .i64 c.e.emitter, .int .i64 c.e.kind, .int .i64 c.e.ord]) := Lib.hid (by
    rw [hw1]
    have := Blk.new ((w.alloc (.cells #[.map (some bl), .map (some bd)] 77)).alloc (.cells #[.int .i64 c.kind, .int .i64 c.e.frame, .int .i64 c.e.emitter, .int .i64 c.e.kind, .int .i64 c.e.ord, .int .i64 c.e.asset, .int .i64 c.e.gain, .int .i64 c.e.pan, .int .i64 c.e.prio, .int .i64 c.e.len, .int .i64 c.late, .bool c.played] 57)) 41 #[.int .i64 c.e.frame, .int .i64 c.e.emitter, .int .i64 c.e.kind, .int .i64 c.e.ord]
    rwa [World.size_alloc, World.size_alloc] at this)
  have HB1 : Hid (Below w.heap.size w w1) := Lib.hid (by rw [hw1]; exact bAlloc (bAlloc (bAlloc (Below.refl _ _) _) _) _)
  rw [← hw1]
  clear hw1
  have s0 := HS1.out.cell 0
  have s1 := HS1.out.cell 1
  have ls := HS1.out.lt
  obtain ⟨k0, k1, k2, k3, lk⟩ := HK1.out.four
  have HW1 := Lib.hid (HW.out.on HB1.out)
  have HWL := Lib.hid HW1.out.live
  have HWD := Lib.hid HW1.out.done
  simp only [List.getElem?_toArray, List.getElem?_cons_zero, List.getElem?_cons_succ] at s0 s1
  go_upto_region 3 with (first
    | (refine wpList_lookW _ rfl (.tmp 13) (.tmp 14) 59 rfl 41 43 key_law Try.underlying59 (zero_ev _) bl (prs s.1) rfl HWL.out c.e.key kl rfl HKL.out (.tuple #[.agg #[.int .i64 z.frame, .int .i64 z.emitter, .int .i64 z.kind, .int .i64 z.ord, .int .i64 z.asset, .int .i64 z.gain, .int .i64 z.pan, .int .i64 z.prio, .int .i64 z.len], .bool ok]) ?_ ?_ ?_
       · intro hn
         obtain ⟨rfl, rfl⟩ := HNO.out hn
         rfl
       · intro p hp he
         obtain ⟨rfl, rfl⟩ := HYES.out p hp he
         rfl))
  obtain ⟨w2, hw2⟩ : ∃ w2, w2 = w1.alloc (.cells #[.int .i64 z.frame, .int .i64 z.emitter, .int .i64 z.kind, .int .i64 z.ord, .int .i64 z.asset, .int .i64 z.gain, .int .i64 z.pan, .int .i64 z.prio, .int .i64 z.len] 43) := ⟨_, rfl⟩
  have HZ2 : Hid (Blk w2 w1.heap.size 43 #[.int .i64 z.frame, .int .i64 z.emitter, .int .i64 z.kind, .int .i64 z.ord, .int .i64 z.asset, .int .i64 z.gain, .int .i64 z.pan, .int .i64 z.prio, .int .i64 z.len]) := Lib.hid (by rw [hw2]; exact Blk.new _ _ _)
  have HB12 : Hid (Below w1.heap.size w1 w2) := Lib.hid (by rw [hw2]; exact bAlloc (Below.refl _ _) _)
  rw [← hw2]
  clear hw2 s0 s1 ls k0 k1 k2 k3 lk HWL HWD HNO HYES
  have HB2 := Lib.hid (bTrans HB1.out HB12.out)
  have HW2 := Lib.hid (HW1.out.on HB12.out)
  have HWL := Lib.hid HW2.out.live
  have HWD := Lib.hid HW2.out.done
  have HS2 := Lib.hid (HS1.out.on HB12.out)
  have HC2 := Lib.hid (HC1.out.on HB12.out)
  have HK2 := Lib.hid (HK1.out.on HB12.out)
  clear HS1 HC1 HK1 HB1 HW1 HB12
  obtain ⟨b1, hb1⟩ : ∃ b1, w.heap.size = b1 := ⟨_, rfl⟩
  obtain ⟨b2, hb2⟩ : ∃ b2, b1 + 1 = b2 := ⟨_, rfl⟩
  obtain ⟨b3, hb3⟩ : ∃ b3, b2 + 1 = b3 := ⟨_, rfl⟩
  obtain ⟨b4, hb4⟩ : ∃ b4, w1.heap.size = b4 := ⟨_, rfl⟩
  rw [hb1] at HS2 HC2 HK2 ⊢
  rw [hb2] at HC2 HK2 ⊢
  rw [hb3] at HK2 ⊢
  rw [hb4] at HZ2 ⊢
  clear hb2 hb3 hb4
  have s0 := HS2.out.cell 0
  have s1 := HS2.out.cell 1
  have ls := HS2.out.lt
  obtain ⟨k0, k1, k2, k3, lk⟩ := HK2.out.four
  obtain ⟨z0, z1, z2, z3, z4, z5, z6, z7, z8⟩ := Blk.ev HZ2.out
  have lz := HZ2.out.lt
  have c0 := HC2.out.cell 0; have c1 := HC2.out.cell 1; have c2 := HC2.out.cell 2; have c3 := HC2.out.cell 3; have c4 := HC2.out.cell 4; have c5 := HC2.out.cell 5; have c6 := HC2.out.cell 6; have c7 := HC2.out.cell 7; have c8 := HC2.out.cell 8; have c9 := HC2.out.cell 9; have c10 := HC2.out.cell 10; have c11 := HC2.out.cell 11
  have lc := HC2.out.lt
  simp only [List.getElem?_toArray, List.getElem?_cons_zero, List.getElem?_cons_succ] at s0 s1 c0 c1 c2 c3 c4 c5 c6 c7 c8 c9 c10 c11
  have HKX : Hid (KeptX w w2 [bl, bd]) := Lib.hid (KeptX.ofBelow HB2.out _)
  cases d
  · by_cases hlate : c.late < 0
    · have HR := Lib.hid (HST.out none (by rw [if_pos (.inr hlate)]))
      go_wp2_with (first | (refine wpList_lookV _ rfl (.tmp 19) (.tmp 20) 75 rfl 41 4 key_law Try.underlying75 (zero_bool _) bd (prD s.2) rfl HWD.out c.e.key kl rfl HKL.out u ?_ ?_ ?_; (focus exact HDN.out); (focus exact HDY.out); rw [HU.out]))
      go_ret
      exact ⟨ret_isS HR.out rfl, takeNo HR.out HKX.out⟩
    · go_upto_region 5 with (first | (refine wpList_lookV _ rfl (.tmp 19) (.tmp 20) 75 rfl 41 4 key_law Try.underlying75 (zero_bool _) bd (prD s.2) rfl HWD.out c.e.key kl rfl HKL.out u ?_ ?_ ?_; (focus exact HDN.out); (focus exact HDY.out); rw [HU.out]))
      have HDK' := Lib.hid (HDK.out rfl)
      have hnl : ¬ (false = true ∨ c.late < 0) := fun h => h.elim (fun e => by cases e) hlate
      have HST2 := Lib.hid (fun r hr => HST.out r (by rw [if_neg hnl]; exact hr))
      have HSL := Lib.hid (storeL_cons HWL.out.nodup c.e)
      clear HDN HDY HU HST HDK hlate hnl
      by_cases k1' : c.kind = 1
      · have q1 : (c.kind == 1) = true := by simp [k1']
        have HST3 := Lib.hid (fun r hr => HST2.out r (by rw [if_pos k1']; exact hr))
        clear k1' HST2
        cases ok
        · have HR := Lib.hid (HST3.out (some (c.e :: dropK s.1 c.e.key, s.2)) (by rw [if_neg (by decide)]))
          go_wp2_with (first | (refine wpList_storeM _ rfl (.tmp 32) (.tmp 33) (.tmp 35) 59 rfl 41 43 key_law Try.underlying59 bl (prs s.1) (prs (c.e :: dropK s.1 c.e.key)) rfl HWL.out (by rw [prs_len]; unfold maxLen; omega) c.e.key c.e kl rfl rfl HKL.out HSL.out.1 HSL.out.2.1 HSL.out.2.2.1 HSL.out.2.2.2 ?_; intro w3 hM3 hT3; have HW3 := Lib.hid (HW2.out.liveT hM3 hT3.grown); have HK3 := Lib.hid (HKX.out.grown hT3.grown (fun r e => by cases e; simp)); clear hM3 hT3))
          go_ret
          exact ⟨ret_isS HR.out rfl, takeOne HR.out HW3.out HK3.out⟩
        · have HR := Lib.hid (HST3.out none (by rw [if_pos rfl]))
          go_wp2_with (first | (refine wpList_storeM _ rfl (.tmp 32) (.tmp 33) (.tmp 35) 59 rfl 41 43 key_law Try.underlying59 bl (prs s.1) (prs (c.e :: dropK s.1 c.e.key)) rfl HWL.out (by rw [prs_len]; unfold maxLen; omega) c.e.key c.e kl rfl rfl HKL.out HSL.out.1 HSL.out.2.1 HSL.out.2.2.1 HSL.out.2.2.2 ?_; intro w3 hM3 hT3; have HW3 := Lib.hid (HW2.out.liveT hM3 hT3.grown); have HK3 := Lib.hid (HKX.out.grown hT3.grown (fun r e => by cases e; simp)); clear hM3 hT3))
          go_ret
          exact ⟨ret_isS HR.out rfl, takeNo HR.out HK3.out⟩
      · have q1 : (c.kind == 1) = false := by simp [k1']
        by_cases k2' : c.kind = 2
        · have q2 : (c.kind == 2) = true := by simp [k2']
          have HST3 := Lib.hid (fun r hr => HST2.out r (by rw [if_neg k1', if_pos k2']; exact hr))
          clear k1' k2' HST2
          cases ok
          · have HR := Lib.hid (HST3.out none (by rw [if_neg (by decide)]))
            go_wp2_with (first | (refine wpList_storeM _ rfl (.tmp 41) (.tmp 42) (.tmp 44) 59 rfl 41 43 key_law Try.underlying59 bl (prs s.1) (prs (c.e :: dropK s.1 c.e.key)) rfl HWL.out (by rw [prs_len]; unfold maxLen; omega) c.e.key c.e kl rfl rfl HKL.out HSL.out.1 HSL.out.2.1 HSL.out.2.2.1 HSL.out.2.2.2 ?_; intro w3 hM3 hT3; have HW3 := Lib.hid (HW2.out.liveT hM3 hT3.grown); have HK3 := Lib.hid (HKX.out.grown hT3.grown (fun r e => by cases e; simp)); clear hM3 hT3))
            go_ret
            exact ⟨ret_isS HR.out rfl, takeNo HR.out HK3.out⟩
          · have HR := Lib.hid (HST3.out (some (c.e :: dropK s.1 c.e.key, s.2)) (by rw [if_pos rfl]))
            go_wp2_with (first | (refine wpList_storeM _ rfl (.tmp 41) (.tmp 42) (.tmp 44) 59 rfl 41 43 key_law Try.underlying59 bl (prs s.1) (prs (c.e :: dropK s.1 c.e.key)) rfl HWL.out (by rw [prs_len]; unfold maxLen; omega) c.e.key c.e kl rfl rfl HKL.out HSL.out.1 HSL.out.2.1 HSL.out.2.2.1 HSL.out.2.2.2 ?_; intro w3 hM3 hT3; have HW3 := Lib.hid (HW2.out.liveT hM3 hT3.grown); have HK3 := Lib.hid (HKX.out.grown hT3.grown (fun r e => by cases e; simp)); clear hM3 hT3))
            go_ret
            exact ⟨ret_isS HR.out rfl, takeOne HR.out HW3.out HK3.out⟩
        · have q2 : (c.kind == 2) = false := by simp [k2']
          by_cases k3' : c.kind = 3
          · have q3 : (c.kind == 3) = true := by simp [k3']
            have HST3 := Lib.hid (fun r hr => HST2.out r (by rw [if_neg k1', if_neg k2', if_pos k3']; exact hr))
            clear k1' k2' k3' HST2
            cases ok
            · have HR := Lib.hid (HST3.out none (by rw [if_neg (by decide)]))
              go_wp2_with (first | (refine wpList_dropM _ rfl (.tmp 49) (.tmp 50) 59 41 rfl 43 key_law Try.underlying59 bl (prs s.1) (prs (dropK s.1 c.e.key)) rfl HWL.out c.e.key kl rfl HKL.out prs_drop (drop_nodup HWL.out.nodup _) ?_; intro w3 hM3 hT3; have HW3 := Lib.hid (HW2.out.liveT hM3 hT3.grown); have HK3 := Lib.hid (HKX.out.grown hT3.grown (fun r e => by cases e; simp)); clear hM3 hT3))
              go_ret
              exact ⟨ret_isS HR.out rfl, takeNo HR.out HK3.out⟩
            · have HR := Lib.hid (HST3.out (some (dropK s.1 c.e.key, s.2)) (by rw [if_pos rfl]))
              go_wp2_with (first | (refine wpList_dropM _ rfl (.tmp 49) (.tmp 50) 59 41 rfl 43 key_law Try.underlying59 bl (prs s.1) (prs (dropK s.1 c.e.key)) rfl HWL.out c.e.key kl rfl HKL.out prs_drop (drop_nodup HWL.out.nodup _) ?_; intro w3 hM3 hT3; have HW3 := Lib.hid (HW2.out.liveT hM3 hT3.grown); have HK3 := Lib.hid (HKX.out.grown hT3.grown (fun r e => by cases e; simp)); clear hM3 hT3))
              go_ret
              exact ⟨ret_isS HR.out rfl, takeOne HR.out HW3.out HK3.out⟩
          · have q3 : (c.kind == 3) = false := by simp [k3']
            by_cases k4' : c.kind = 4
            · have q4 : (c.kind == 4) = true := by simp [k4']
              have HST3 := Lib.hid (fun r hr => HST2.out r (by rw [if_neg k1', if_neg k2', if_neg k3', if_pos k4']; exact hr))
              clear k1' k2' k3' k4' HST2
              have HDN2 := Lib.hid HWD.out.nodup
              go_upto_region 18 with (first | (refine wpList_dropM _ rfl (.tmp 55) (.tmp 56) 59 41 rfl 43 key_law Try.underlying59 bl (prs s.1) (prs (dropK s.1 c.e.key)) rfl HWL.out c.e.key kl rfl HKL.out prs_drop (drop_nodup HWL.out.nodup _) ?_; intro w3 hM3 hT3; have HW3 := Lib.hid (HW2.out.liveT hM3 hT3.grown); have HK3 := Lib.hid (HKX.out.grown hT3.grown (fun r e => by cases e; simp)); have HS3 := Lib.hid (HS2.out.turned HWL.out.block hT3.grown); have HC3 := Lib.hid (HC2.out.turned HWL.out.block hT3.grown); have HY3 := Lib.hid (HK2.out.turned HWL.out.block hT3.grown); have HZ3 := Lib.hid (HZ2.out.turned HWL.out.block hT3.grown); have s31 := HS3.out.cell 1; have ls3 := HS3.out.lt; obtain ⟨k30, k31, k32, k33, lk3⟩ := HY3.out.four; simp only [List.getElem?_toArray, List.getElem?_cons_zero, List.getElem?_cons_succ] at s31; clear hM3 hT3) | (refine wpList_storeM _ rfl (.tmp 58) (.tmp 59) (.const (.bool true)) 75 rfl 41 4 key_law Try.underlying75 bd (prD s.2) (prD (c.e.key :: s.2)) rfl HW3.out.done (by rw [prD_len]; unfold maxLen; omega) c.e.key true kl rfl rfl HKL.out (prD_1 HDK'.out) prD_2 (by unfold prD; simp) (prD_4 HDK'.out HDN2.out) ?_; intro w4 hM4 hT4; have HW4 := Lib.hid (HW3.out.doneT hM4 hT4.grown); have HK4 := Lib.hid (HK3.out.grown hT4.grown (fun r e => by cases e; simp)); have HC4 := Lib.hid (HC3.out.turned HW3.out.done.block hT4.grown); have HZ4 := Lib.hid (HZ3.out.turned HW3.out.done.block hT4.grown); obtain ⟨y0, y1, y2, y3, y4, y5, y6, y7, y8⟩ := Blk.ev HZ4.out; have lz4 := HZ4.out.lt; have d1 := HC4.out.cell 1; have d2 := HC4.out.cell 2; have d3 := HC4.out.cell 3; have d4 := HC4.out.cell 4; have d5 := HC4.out.cell 5; have d6 := HC4.out.cell 6; have d7 := HC4.out.cell 7; have d8 := HC4.out.cell 8; have d9 := HC4.out.cell 9; have d11 := HC4.out.cell 11; have lc4 := HC4.out.lt; simp only [List.getElem?_toArray, List.getElem?_cons_zero, List.getElem?_cons_succ] at d1 d2 d3 d4 d5 d6 d7 d8 d9 d11; clear hM4 hT4))
              clear c0 c1 c2 c3 c4 c5 c6 c7 c8 c9 c10 c11 k0 k1 k2 k3 z0 z1 z2 z3 z4 z5 z6 z7 z8 s0 s1 k30 k31 k32 k33 lk3 s31 ls3 HS3 HY3 HS2 HC2 HK2 HZ2 HC3 HZ3 HW2 HW3 HWL HWD HSL HDN2 HDK' HK3 HKX
              cases ok
              · cases hp : c.played
                · have HR := Lib.hid (HST3.out (some (dropK s.1 c.e.key, c.e.key :: s.2)) (by rw [if_pos ⟨hp.symm, .inl rfl⟩]))
                  rw [hp] at d11
                  clear hp
                  go_wp2
                  go_ret
                  exact ⟨ret_isS HR.out rfl, takeOne HR.out HW4.out HK4.out⟩
                · have HR := Lib.hid (HST3.out none (by rw [if_neg (fun h => by rw [hp] at h; cases h.1)]))
                  rw [hp] at d11
                  clear hp
                  go_wp2
                  go_ret
                  exact ⟨ret_isS HR.out rfl, takeNo HR.out HK4.out⟩
              · cases hp : c.played
                · have HR := Lib.hid (HST3.out none (by rw [if_neg (fun h => by rw [hp] at h; cases h.1)]))
                  rw [hp] at d11
                  clear hp
                  go_wp2
                  go_ret
                  exact ⟨ret_isS HR.out rfl, takeNo HR.out HK4.out⟩
                · rw [hp] at d11
                  by_cases hz : z = c.e
                  · have HR := Lib.hid (HST3.out (some (dropK s.1 c.e.key, c.e.key :: s.2)) (by rw [if_pos ⟨hp.symm, .inr hz⟩]))
                    have HZQ : Hid (∀ W, (binOp .eql 43 (.agg #[.int .i64 z.frame, .int .i64 z.emitter, .int .i64 z.kind, .int .i64 z.ord, .int .i64 z.asset, .int .i64 z.gain, .int .i64 z.pan, .int .i64 z.prio, .int .i64 z.len]) (.agg #[.int .i64 c.e.frame, .int .i64 c.e.emitter, .int .i64 c.e.kind, .int .i64 c.e.ord, .int .i64 c.e.asset, .int .i64 c.e.gain, .int .i64 c.e.pan, .int .i64 c.e.prio, .int .i64 c.e.len])).run Try.prog W = .ok (.bool true) W) := Lib.hid (fun W => by have h1 := ev_eql z c.e W; rw [decide_eq_true hz] at h1; exact h1)
                    clear hp hz
                    go_wp2_with (first | (refine wpList_runs (.bool true) rfl (runs_eql rfl rfl rfl (by kernel_rfl) HZQ.out _) ?_))
                    go_ret
                    exact ⟨ret_isS HR.out rfl, takeOne HR.out HW4.out HK4.out⟩
                  · have HR := Lib.hid (HST3.out none (by rw [if_neg (fun h => h.2.elim (fun e => by cases e) hz)]))
                    have HZQ : Hid (∀ W, (binOp .eql 43 (.agg #[.int .i64 z.frame, .int .i64 z.emitter, .int .i64 z.kind, .int .i64 z.ord, .int .i64 z.asset, .int .i64 z.gain, .int .i64 z.pan, .int .i64 z.prio, .int .i64 z.len]) (.agg #[.int .i64 c.e.frame, .int .i64 c.e.emitter, .int .i64 c.e.kind, .int .i64 c.e.ord, .int .i64 c.e.asset, .int .i64 c.e.gain, .int .i64 c.e.pan, .int .i64 c.e.prio, .int .i64 c.e.len])).run Try.prog W = .ok (.bool false) W) := Lib.hid (fun W => by have h1 := ev_eql z c.e W; rw [decide_eq_false hz] at h1; exact h1)
                    clear hp hz
                    go_wp2_with (first | (refine wpList_runs (.bool false) rfl (runs_eql rfl rfl rfl (by kernel_rfl) HZQ.out _) ?_))
                    go_ret
                    exact ⟨ret_isS HR.out rfl, takeNo HR.out HK4.out⟩
            · have q4 : (c.kind == 4) = false := by simp [k4']
              have HR := Lib.hid (HST2.out none (by rw [if_neg k1', if_neg k2', if_neg k3', if_neg k4']))
              clear k1' k2' k3' k4' HST2
              go_wp2
              go_ret
              exact ⟨ret_isS HR.out rfl, takeNo HR.out HKX.out⟩
  · have HR := Lib.hid (HST.out none (by rw [if_pos (.inl rfl)]))
    go_wp2_with (first | (refine wpList_lookV _ rfl (.tmp 19) (.tmp 20) 75 rfl 41 4 key_law Try.underlying75 (zero_bool _) bd (prD s.2) rfl HWD.out c.e.key kl rfl HKL.out u ?_ ?_ ?_; (focus exact HDN.out); (focus exact HDY.out); rw [HU.out]))
    go_ret
    exact ⟨ret_isS HR.out rfl, takeNo HR.out HKX.out⟩
end Go.Proofs.Yteccmklacgpodaa
