/-
  The ledger's Tell.
-/
import Derived.Test.YteccmklacgpodaaLCan
import Derived.Test.YteccmklacgpodaaCln
namespace Go.Proofs.Yteccmklacgpodaa
open Go.RowKit
set_option maxRecDepth 100000
set_option linter.unusedSimpArgs false
/-- Of what was there, only some blocks turned. -/
structure KeptX (w w' : World) (X : List Nat) : Prop where
  os : w'.os = w.os
  tape : w'.tape = w.tape
  output : w'.output = w.output
  size : w.heap.size ≤ w'.heap.size
  block : ∀ k, k < w.heap.size → k ∉ X → w'.heap[k]? = w.heap[k]?
section
variable {w w1 w2 : World} {X : List Nat}
theorem KeptX.refl (w : World) (X : List Nat) : KeptX w w X := ⟨rfl, rfl, rfl, Nat.le_refl _, fun _ _ _ => rfl⟩
theorem KeptX.trans (h : KeptX w w1 X) (k : KeptX w1 w2 X) : KeptX w w2 X := ⟨k.os.trans h.os, k.tape.trans h.tape, k.output.trans h.output, Nat.le_trans h.size k.size, fun i hi hx => (k.block i (Nat.lt_of_lt_of_le hi h.size) hx).trans (h.block i hi hx)⟩
theorem KeptX.ofBelow (h : Below w.heap.size w w1) (X : List Nat) : KeptX w w1 X := ⟨h.os, h.tape, h.output, h.size, fun k hk _ => h.block k hk⟩
theorem KeptX.below (h : KeptX w w1 X) (k : Below w1.heap.size w1 w2) : KeptX w w2 X := h.trans (.ofBelow k X)
theorem KeptX.alloc (h : KeptX w w1 X) (o : Obj) : KeptX w (w1.alloc o) X := h.below (bAlloc (Below.refl _ _) o)
theorem KeptX.drew (h : KeptX w w1 X) : KeptX w w1.drew X := h.below (Below.refl _ _).drew
theorem KeptX.grown {row : Option Nat} (h : KeptX w w1 X) (k : w1.grownBy w2 row) (hr : ∀ r, row = some r → r ∈ X ∨ w.heap.size ≤ r) : KeptX w w2 X :=
  ⟨k.os.trans h.os, k.tape.trans h.tape, k.output.trans h.output, Nat.le_trans h.size k.size, fun i hi hx => (k.block i (Nat.lt_of_lt_of_le hi h.size) (fun e => by
    rcases hr i e.symm with h1 | h1
    · exact hx h1
    · omega)).trans (h.block i hi hx)⟩
theorem KeptX.more {Y : List Nat} (h : KeptX w w1 X) (hy : ∀ x ∈ X, x ∈ Y) : KeptX w w1 Y := ⟨h.os, h.tape, h.output, h.size, fun k hk hx => h.block k hk (fun e => hx (hy k e))⟩
theorem KeptX.setCell (h : KeptX w w1 X) {g : Nat} (hg : g ∈ X ∨ w.heap.size ≤ g) (o : Nat) (u : Value) : KeptX w (w1.setCell ⟨g, o, none⟩ u) X :=
  h.grown (row := some g) ⟨rfl, rfl, rfl, by simp [World.setCell], fun k _ hk => Below.heap_setCell w1 ⟨g, o, none⟩ u k (fun e => hk (by rw [e]))⟩ (fun r e => by cases e; exact hg)
end
theorem startR_of {most now : Int} {s : Sc} (h : LvOk s.1) {x : Ev} (hx : evOk x = true) : ∃ (z : Ev) (ok told : Bool) (c : Cm), StartR most now (prs s.1) x z ok c.cells told (prs (startS most now s x).1) ∧ (startS most now s x).2 = s.2 ++ (if told = true then [c] else []) ∧
    ((∀ p ∈ prs s.1, p.1.val ≠ x.key.val) → z = zeroE ∧ ok = false) ∧ (∀ p ∈ prs s.1, p.1.val = x.key.val → z = p.2 ∧ ok = true) := by
  unfold startS
  cases hf : findS s.1 x.key with
  | some z =>
    obtain ⟨hz, hk⟩ := findS_some hf
    have hno : (∀ p ∈ prs s.1, p.1.val ≠ x.key.val) → z = zeroE ∧ true = false := fun hn => absurd (by rw [hk]) (hn (z.key, z) (mem_prs.2 ⟨hz, rfl⟩))
    have hyes : ∀ p ∈ prs s.1, p.1.val = x.key.val → z = p.2 ∧ true = true := fun p hp he => by
      obtain ⟨h1, h2⟩ := mem_prs.1 hp
      have h3 : p.2.key = x.key := by rw [← h2]; exact keyV_inj he
      have h4 := findS_mem h.sorted h1
      rw [h3, hf] at h4
      exact ⟨Option.some.inj h4, rfl⟩
    dsimp only
    by_cases he : z = x
    · rw [if_pos he]
      exact ⟨z, true, false, ⟨0, zeroE, 0, false⟩, .same he, by simp, hno, hyes⟩
    · rw [if_neg he]
      exact ⟨z, true, true, ⟨2, x, 0, false⟩, .turn _ he (storeL_put h hx), by simp, hno, hyes⟩
  | none =>
    have hn := findS_none.1 hf
    have hno : (∀ p ∈ prs s.1, p.1.val ≠ x.key.val) → zeroE = zeroE ∧ false = false := fun _ => ⟨rfl, rfl⟩
    have hyes : ∀ p ∈ prs s.1, p.1.val = x.key.val → zeroE = p.2 ∧ false = true := fun p hp he => by
      obtain ⟨h1, h2⟩ := mem_prs.1 hp
      exact absurd (by rw [← h2]; exact keyV_inj he) (hn p.2 h1)
    dsimp only
    by_cases hl : (s.1.length : Int) < most
    · rw [if_pos hl]
      refine ⟨zeroE, false, true, ⟨1, x, now - x.frame, false⟩, .fresh _ (by rw [prs_len]; exact hl) ?_, by simp, hno, hyes⟩
      have := storeL_put h hx
      rwa [dropK_none hn] at this
    · rw [if_neg hl]
      exact ⟨zeroE, false, false, ⟨0, zeroE, 0, false⟩, .full (by rw [prs_len]; omega), by simp, hno, hyes⟩
theorem int_lit {n : Int} (h : (Lit.int .i64 n).wf = true) : ∃ l, keyOf Try.prog 3 (.int .i64 n) = some l := by
  refine ⟨.int .i64 n, ?_⟩
  unfold keyOf
  rw [Try.underlying3]
  simp [mapKey, Try.underlying3, h]
/-- A row that is cloned. -/
def clnTold (w : World) (L : List Ev) : Told := ⟨fun v => ∃ A c, v = .slice A L.length c, fun v W => OwnL W w.heap.size 43 9 v Ev.cells L⟩
theorem clnTold_st {w : World} {L : List Ev} : ∀ v W U, (clnTold w L).R v W → Grown W U → (clnTold w L).R v U := fun _ _ _ h k => h.below k
theorem cln_makes {w : World} {A : Option Addr} {c : Nat} {L : List Ev} (hl : L.length ≤ 100000) (hr : Rd w w.heap.size A (L.flatMap Ev.cells)) (W : World) (hW : Grown w W) : Calls Try.prog 31 #[.slice A L.length c] W fun e w' => ∃ v, e = .returned v ∧ ((clnTold w L).S v ∧ (clnTold w L).R v w') ∧ Grown W w' := by
  refine (clone_any A c L W hl ((hr.below hW (Nat.le_refl _)).more hW.size)).mono ?_
  rintro e w' ⟨A', c', rfl, ho, hb⟩
  exact ⟨_, rfl, ⟨⟨A', c', rfl⟩, ho.more hW.size⟩, hb⟩
section
variable {w : World} {g gl gt : Nat} {most com : Int} {halt : Bool} {S : List Ev} {T : List TEnt}
set_option maxHeartbeats 2000000 in
theorem tell_bad (h : LgW w g gl gt most S T com halt) (f now : Int) (A : Option Addr) (c : Nat) (evs : List Ev) (hn : evs.length ≤ 1000) (hr : Rd w w.heap.size A (evs.flatMap Ev.cells)) (hb : fitsE halt com evs f now ≠ 0) :
    Calls Try.prog 14 #[.pointer (some ⟨g, 0, none⟩), .agg #[.int .i64 f, .slice A evs.length c], .int .i64 now] w fun e w' => e = .returned (.tuple #[.slice none 0 0, .int .i64 (fitsE halt com evs f now)]) ∧ Below w.heap.size w w' := by
  obtain ⟨w1, hw1⟩ : ∃ w1, w1 = w.alloc (.cells #[.int .i64 f, .slice A evs.length c] 30) := ⟨_, rfl⟩
  have HB : Hid (Below w.heap.size w w1) := Lib.hid (by rw [hw1]; exact bAlloc (Below.refl _ _) _)
  have HP : Hid (Blk w1 w.heap.size 30 #[.int .i64 f, .slice A evs.length c]) := Lib.hid (by rw [hw1]; exact Blk.new _ _ _)
  have HF := Lib.hid (fits_any (show LgW w1 g gl gt most S T com halt by rw [hw1]; exact h.alloc _) f now A c evs hn ((hr.below HB.out (Nat.le_refl _)).more HB.out.size))
  obtain ⟨n, hnn⟩ : ∃ n, evs.length = n := ⟨_, rfl⟩
  obtain ⟨E, hE⟩ : ∃ E, fitsE halt com evs f now = E := ⟨_, rfl⟩
  rw [hE] at HF hb ⊢
  rw [hnn] at HF HP hw1 ⊢
  have hb' : (E != 0) = true := by simpa using hb
  have lg := h.cells.1
  clear hE hnn hr h hb
  go_enter Try.func14, Try.ntmps14
  go_upto_region 1 with fail
  rw [← hw1]
  clear hw1
  have p0 := HP.out.cell 0
  have p1 := HP.out.cell 1
  have lp := HP.out.lt
  simp only [List.getElem?_toArray, List.getElem?_cons_zero, List.getElem?_cons_succ] at p0 p1
  go_wp2_with (first | (go_at_call 28; refine HF.out.mono ?_; rintro e w2 ⟨rfl, hb2⟩; have HB2 := Lib.hid (bTrans HB.out hb2); clear hb2))
  go_ret2
  exact ⟨rfl, HB2.out⟩
/-- What is told last. -/
def setT (T : List TEnt) (f : Int) (v : Value) (evs : List Ev) : List TEnt := (f, v, evs) :: T.filter fun p => !decide (p.1 = f)
theorem setT_1 {T : List TEnt} {f : Int} {v : Value} {evs : List Ev} : ∀ p ∈ setT T f v evs, p = (f, (v, evs)) ∨ (p ∈ T ∧ Value.int .i64 p.1 ≠ .int .i64 f) := fun p hp => by
  unfold setT at hp
  rcases List.mem_cons.1 hp with rfl | hp
  · exact .inl rfl
  · obtain ⟨h1, h2⟩ := List.mem_filter.1 hp
    refine .inr ⟨h1, fun e => ?_⟩
    simp only [Value.int.injEq, true_and] at e
    simp [e] at h2
theorem setT_2 {T : List TEnt} {f : Int} {v : Value} {evs : List Ev} : ∀ p ∈ T, Value.int .i64 p.1 ≠ .int .i64 f → p ∈ setT T f v evs := fun p hp hne => by
  refine List.mem_cons_of_mem _ (List.mem_filter.2 ⟨hp, ?_⟩)
  have : p.1 ≠ f := fun e => hne (by rw [e])
  simp [this]
theorem setT_4 {T : List TEnt} {f : Int} {v : Value} {evs : List Ev} (hT : (T.map fun p => Value.int .i64 p.1).Nodup) : ((setT T f v evs).map fun p => Value.int .i64 p.1).Nodup := by
  unfold setT
  rw [List.map_cons, List.nodup_cons]
  refine ⟨fun hm => ?_, ?_⟩
  · obtain ⟨p, hp, he⟩ := List.mem_map.1 hm
    have h2 := (List.mem_filter.1 hp).2
    simp only [Value.int.injEq, true_and] at he
    simp [he] at h2
  · exact hT.sublist (List.filter_sublist.map _)
set_option maxHeartbeats 4000000 in
theorem tell_ok (h : LgW w g gl gt most S T com halt) (hS : LvOk S) (hl : (S.length : Int) ≤ most) (hm : most ≤ 256) (hT : T.length ≤ 1000) (f now : Int) (A : Option Addr) (c : Nat) (evs : List Ev) (hn : evs.length ≤ 64) (hr : Rd w w.heap.size A (evs.flatMap Ev.cells)) (hE : fitsE halt com evs f now = 0) (hok : ∀ e ∈ evs, evOk e = true ∧ e.frame = f) (hnow : 0 ≤ now - f ∧ now - f ≤ 4611686018427387904) (hf : 0 ≤ f ∧ f ≤ 1073741824) :
    Calls Try.prog 14 #[.pointer (some ⟨g, 0, none⟩), .agg #[.int .i64 f, .slice A evs.length c], .int .i64 now] w fun e w' => ∃ (A' : Option Addr) (n' c' : Nat) (v : Value), e = .returned (.tuple #[.slice A' n' c', .int .i64 0]) ∧ OwnL w' w.heap.size 57 12 (.slice A' n' c') Cm.cells (tellF most now evs f S).2 ∧
      LgW w' g gl gt most (tellF most now evs f S).1 (setT T f v evs) com halt ∧ KeptX w w' [gl, gt] := by
  obtain ⟨w1, hw1⟩ : ∃ w1, w1 = w.alloc (.cells #[.int .i64 f, .slice A evs.length c] 30) := ⟨_, rfl⟩
  have HB : Hid (Below w.heap.size w w1) := Lib.hid (by rw [hw1]; exact bAlloc (Below.refl _ _) _)
  have HP : Hid (Blk w1 w.heap.size 30 #[.int .i64 f, .slice A evs.length c]) := Lib.hid (by rw [hw1]; exact Blk.new _ _ _)
  have HG : Hid (LgW w1 g gl gt most S T com halt) := Lib.hid (by rw [hw1]; exact h.alloc _)
  have HR : Hid (Rd w1 w.heap.size A (evs.flatMap Ev.cells)) := Lib.hid (hr.below HB.out (Nat.le_refl _))
  have HF := Lib.hid (fits_any HG.out f now A c evs (by omega) (HR.out.more HB.out.size))
  rw [hE] at HF
  have HC : Hid (∀ W, Below w1.heap.size w1 W → Calls Try.prog 29 #[.pointer (some ⟨g, 0, none⟩), .agg #[.int .i64 f, .slice A evs.length c]] W fun e w' => ∃ (A' : Option Addr) (n' c' : Nat), e = .returned (.slice A' n' c') ∧ OwnL w' W.heap.size 57 12 (.slice A' n' c') Cm.cells (cancelF evs f S).2 ∧ LgW w' g gl gt most (cancelF evs f S).1 T com halt ∧ W.grownBy w' (some gl)) := Lib.hid (fun W hW =>
    cancel_any (HG.out.on hW) hS (by omega) f A c evs (by omega) ((HR.out.below hW HB.out.size).more (Nat.le_trans HB.out.size hW.size)))
  obtain ⟨n, hnn⟩ : ∃ n, evs.length = n := ⟨_, rfl⟩
  have HN := Lib.hid hnn
  have HOK := Lib.hid hok
  obtain ⟨hc1, hc2, hc3⟩ := cancelF_ok (evs := evs) (f := f) hS
  have HC1 := Lib.hid hc1
  obtain ⟨X, hX⟩ : ∃ X, tellF most now evs f S = X := ⟨_, rfl⟩
  obtain ⟨s0, hs0⟩ : ∃ s0, cancelF evs f S = s0 := ⟨_, rfl⟩
  have HX : Hid (X = evs.foldl (startS most now) s0) := Lib.hid (by rw [← hX, ← hs0]; rfl)
  obtain ⟨fl, hfl⟩ := int_lit (n := f) (wf_of (by omega) (by omega))
  have HFL := Lib.hid hfl
  rw [hs0] at HC hc2 hc3 HC1
  rw [hnn] at HF HP HC hw1 hn ⊢
  rw [hX]
  have lg := h.cells.1
  clear hE hnn hr h hok hS hX hs0 hfl hc1
  go_enter Try.func14, Try.ntmps14
  go_upto_region 1 with fail
  rw [← hw1]
  clear hw1
  have p0 := HP.out.cell 0
  have p1 := HP.out.cell 1
  have lp := HP.out.lt
  have hws := HB.out.size
  simp only [List.getElem?_toArray, List.getElem?_cons_zero, List.getElem?_cons_succ] at p0 p1
  go_wp2_with (first
    | (go_at_call 28; refine HF.out.mono ?_; rintro e w2 ⟨rfl, hb2⟩
       have HB2 := Lib.hid hb2
       have HP2 := Lib.hid (HP.out.on hb2)
       have p02 := HP2.out.cell 0
       have p12 := HP2.out.cell 1
       have lp2 := HP2.out.lt
       simp only [List.getElem?_toArray, List.getElem?_cons_zero, List.getElem?_cons_succ] at p02 p12
       clear hb2)
    | (go_at_call 29; refine (HC.out w2 HB2.out).mono ?_; rintro e w3 ⟨A3, n3, c3, rfl, ho3, hg3, hk3⟩
       have HO3 := Lib.hid ho3
       have HG3 := Lib.hid hg3
       have HK3 : Hid (KeptX w w3 [gl]) := Lib.hid (((KeptX.ofBelow HB.out [gl]).below HB2.out).grown hk3 (fun r e => by cases e; simp))
       have HP3 : Hid (Blk w3 w.heap.size 30 #[.int .i64 f, .slice A n c]) := Lib.hid (HP2.out.grown hk3 (fun e => HP2.out.noMap (HG.out.on HB2.out).live.block.choose_spec.choose_spec (Option.some.inj e).symm))
       have HR3 : Hid (Rd w3 w.heap.size A (evs.flatMap Ev.cells)) := Lib.hid ((HR.out.below HB2.out hws).turned (HG.out.on HB2.out).live.block.choose_spec.choose_spec hk3)
       have hs23 : w.heap.size ≤ w2.heap.size := Nat.le_trans hws HB2.out.size
       have hs3 : w2.heap.size ≤ w3.heap.size := hk3.size
       have p03 := HP3.out.cell 0
       have p13 := HP3.out.cell 1
       have lp3 := HP3.out.lt
       simp only [List.getElem?_toArray, List.getElem?_cons_zero, List.getElem?_cons_succ] at p03 p13
       clear ho3 hg3 hk3))
  clear p0 p1 lp p02 p12 lp2
  go_loopw [9, 29] (fun u v wr => ∃ k : Nat, k ≤ n ∧ v = .int .i64 k ∧ ∃ A' n' c', u = .slice A' n' c' ∧ Hid (OwnL wr w.heap.size 57 12 (.slice A' n' c') Cm.cells ((evs.take k).foldl (startS most now) s0).2) ∧ Hid (LgW wr g gl gt most ((evs.take k).foldl (startS most now) s0).1 T com halt) ∧ Hid (Blk wr w.heap.size 30 #[.int .i64 f, .slice A n c]) ∧ Hid (Rd wr w.heap.size A (evs.flatMap Ev.cells)) ∧ Hid (KeptX w wr [gl])) (fun _ v _ => n - (intOf v).toNat)
  case atStart => exact ⟨0, Nat.zero_le _, rfl, A3, n3, c3, rfl, Lib.hid (HO3.out.more hs23), HG3, HP3, HR3, HK3⟩
  case round =>
    obtain ⟨k, hk, rfl, A', n', c', rfl, HOU, HGR, HPR, HRR, HKR⟩ := hrel
    clear HO3 HG3 HP3 HR3 HK3 p03 p13 lp3
    by_cases hlt : k < n
    · have hkE : k < evs.length := by rw [HN.out]; exact hlt
      obtain ⟨b, off, hA, hbl, x0, x1, x2, x3, x4, x5, x6, x7, x8⟩ := HRR.out.ev hkE
      subst hA
      have hbw : b < wr.heap.size := Nat.lt_of_lt_of_le hbl HKR.out.size
      have HSN := Lib.hid (foldl_snoc (startS most now) s0 evs k hkE)
      obtain ⟨hs1, hs2, hs3⟩ := start_fold most now (evs.take k) s0 HC1.out (fun e he => (HOK.out e (List.mem_of_mem_take he)).1)
      have hs6 : (evs.take k).length ≤ k := by rw [List.length_take]; omega
      have hxk := HOK.out evs[k] (List.getElem_mem hkE)
      obtain ⟨x, hx⟩ : ∃ x, evs[k] = x := ⟨_, rfl⟩
      obtain ⟨s, hs⟩ : ∃ s, (evs.take k).foldl (startS most now) s0 = s := ⟨_, rfl⟩
      rw [hx] at x0 x1 x2 x3 x4 x5 x6 x7 x8 HSN hxk
      rw [hs] at HSN hs1 hs2 hs3 HOU HGR
      have HS1 := Lib.hid hs1
      have HXK := Lib.hid hxk
      clear hx hs hs1 hxk
      go_upto_region 10 with fail
      obtain ⟨w4, hw4⟩ : ∃ w4, w4 = wr.alloc (.cells #[.int .i64 x.frame, .int .i64 x.emitter, .int .i64 x.kind, .int .i64 x.ord, .int .i64 x.asset, .int .i64 x.gain, .int .i64 x.pan, .int .i64 x.prio, .int .i64 x.len] 43) := ⟨_, rfl⟩
      have HE4 : Hid (Blk w4 wr.heap.size 43 #[.int .i64 x.frame, .int .i64 x.emitter, .int .i64 x.kind, .int .i64 x.ord, .int .i64 x.asset, .int .i64 x.gain, .int .i64 x.pan, .int .i64 x.prio, .int .i64 x.len]) := Lib.hid (by rw [hw4]; exact Blk.new _ _ _)
      have HB4 : Hid (Below wr.heap.size wr w4) := Lib.hid (by rw [hw4]; exact bAlloc (Below.refl _ _) _)
      rw [← hw4]
      clear hw4 x0 x1 x2 x3 x4 x5 x6 x7 x8 hbw
      obtain ⟨z, ok, told, cc, hSR, hS2, hno, hyes⟩ := startR_of (most := most) (now := now) HS1.out HXK.out.1
      have HG4 := Lib.hid (HGR.out.on HB4.out)
      have HSA := Lib.hid (start_any g gl gt most com now halt (prs s.1) x z ok told cc.cells (prs (startS most now s x).1) w4 (by rw [prs_len]; omega) (by rw [HXK.out.2]; exact hnow) hSR HG4.out.blk HG4.out.live (evOk_wf HXK.out.1) hno hyes)
      have hcc : cc.cells.toArray = #[.int .i64 cc.kind, .int .i64 cc.e.frame, .int .i64 cc.e.emitter, .int .i64 cc.e.kind, .int .i64 cc.e.ord, .int .i64 cc.e.asset, .int .i64 cc.e.gain, .int .i64 cc.e.pan, .int .i64 cc.e.prio, .int .i64 cc.e.len, .int .i64 cc.late, .bool cc.played] := rfl
      rw [hcc] at HSA
      have HS2 := Lib.hid hS2
      have e0 := HE4.out.cell 0; have e1 := HE4.out.cell 1; have e2 := HE4.out.cell 2; have e3 := HE4.out.cell 3; have e4 := HE4.out.cell 4; have e5 := HE4.out.cell 5; have e6 := HE4.out.cell 6; have e7 := HE4.out.cell 7; have e8 := HE4.out.cell 8
      have lE4 := HE4.out.lt
      simp only [List.getElem?_toArray, List.getElem?_cons_zero, List.getElem?_cons_succ] at e0 e1 e2 e3 e4 e5 e6 e7 e8
      unfold Ev.val at HSA
      clear hSR hS2 hno hyes hcc
      go_upto_region 11 with (first
        | (go_at_call 30; refine HSA.out.mono ?_; rintro e w5 ⟨rfl, hM5, hg5⟩
           have HM5 := Lib.hid hM5
           have HGB5 := Lib.hid hg5
           clear hM5 hg5))
      obtain ⟨es, ck, hmb⟩ := HG4.out.live.block
      have HG5 : Hid (LgW w5 g gl gt most (startS most now s x).1 T com halt) := Lib.hid (HG4.out.turned HM5.out HGB5.out)
      have HO5 : Hid (OwnL w5 w.heap.size 57 12 (.slice A' n' c') Cm.cells s.2) := Lib.hid ((HOU.out.below HB4.out).kept HGB5.out (.inr ((HOU.out.below HB4.out).noMap hmb)))
      have HP5 : Hid (Blk w5 w.heap.size 30 #[.int .i64 f, .slice (some ⟨b, off, none⟩) n c]) := Lib.hid ((HPR.out.on HB4.out).grown HGB5.out (fun e => (HPR.out.on HB4.out).noMap hmb (Option.some.inj e).symm))
      have HR5 : Hid (Rd w5 w.heap.size (some ⟨b, off, none⟩) (evs.flatMap Ev.cells)) := Lib.hid ((HRR.out.below HB4.out HKR.out.size).turned hmb HGB5.out)
      have HK5 : Hid (KeptX w w5 [gl]) := Lib.hid ((HKR.out.below HB4.out).grown HGB5.out (fun r e => by cases e; simp))
      obtain ⟨w6, hw6⟩ : ∃ w6, w6 = w5.alloc (.cells #[.int .i64 cc.kind, .int .i64 cc.e.frame, .int .i64 cc.e.emitter, .int .i64 cc.e.kind, .int .i64 cc.e.ord, .int .i64 cc.e.asset, .int .i64 cc.e.gain, .int .i64 cc.e.pan, .int .i64 cc.e.prio, .int .i64 cc.e.len, .int .i64 cc.late, .bool cc.played] 57) := ⟨_, rfl⟩
      have HC6 : Hid (Blk w6 w5.heap.size 57 #[.int .i64 cc.kind, .int .i64 cc.e.frame, .int .i64 cc.e.emitter, .int .i64 cc.e.kind, .int .i64 cc.e.ord, .int .i64 cc.e.asset, .int .i64 cc.e.gain, .int .i64 cc.e.pan, .int .i64 cc.e.prio, .int .i64 cc.e.len, .int .i64 cc.late, .bool cc.played]) := Lib.hid (by rw [hw6]; exact Blk.new _ _ _)
      have HG6 : Hid (LgW w6 g gl gt most (startS most now s x).1 T com halt) := Lib.hid (by rw [hw6]; exact HG5.out.alloc _)
      have HO6 : Hid (OwnL w6 w.heap.size 57 12 (.slice A' n' c') Cm.cells s.2) := Lib.hid (by rw [hw6]; exact HO5.out.alloc _)
      have HP6 : Hid (Blk w6 w.heap.size 30 #[.int .i64 f, .slice (some ⟨b, off, none⟩) n c]) := Lib.hid (by rw [hw6]; exact HP5.out.alloc _)
      have HR6 : Hid (Rd w6 w.heap.size (some ⟨b, off, none⟩) (evs.flatMap Ev.cells)) := Lib.hid (by rw [hw6]; exact HR5.out.below (bAlloc (Below.refl _ _) _) HK5.out.size)
      have HK6 : Hid (KeptX w w6 [gl]) := Lib.hid (by rw [hw6]; exact HK5.out.alloc _)
      rw [← hw6]
      clear hw6 HG5 HO5 HP5 HR5 HK5 HGB5 HM5 hmb HG4 HSA HE4 HB4 HOU HGR HPR HRR HKR e0 e1 e2 e3 e4 e5 e6 e7 e8 lE4
      obtain ⟨c0, c1, c2, c3, c4, c5, c6, c7, c8⟩ : _ ∧ _ ∧ _ ∧ _ ∧ _ ∧ _ ∧ _ ∧ _ ∧ _ := ⟨HC6.out.cell 0, HC6.out.cell 1, HC6.out.cell 2, HC6.out.cell 3, HC6.out.cell 4, HC6.out.cell 5, HC6.out.cell 6, HC6.out.cell 7, HC6.out.cell 8⟩
      have c9 := HC6.out.cell 9
      have c10 := HC6.out.cell 10
      have c11 := HC6.out.cell 11
      have lC6 := HC6.out.lt
      simp only [List.getElem?_toArray, List.getElem?_cons_zero, List.getElem?_cons_succ] at c0 c1 c2 c3 c4 c5 c6 c7 c8 c9 c10 c11
      cases told with
      | false =>
        rw [if_neg (by decide), List.append_nil] at HS2
        go_wp2
        go_roundw
        case rel => exact ⟨k + 1, by omega, by go_num, A', n', c', rfl, Lib.hid (by rw [HSN.out, HS2.out]; exact HO6.out), Lib.hid (by rw [HSN.out]; exact HG6.out), HP6, HR6, HK6⟩
        case measure => simp [intOf]; omega
      | true =>
        rw [if_pos rfl] at HS2
        have hws6 := HK6.out.size
        go_wp2_with (first | (at_builtin; refine wpList_app_cm rfl (.tmp 41) (.tmp 43) rfl w.heap.size _ s.2 [cc] (HO6.out.alloc _) rfl _ _ 1 1 rfl rfl (rd_cm1 _ cc) (by simp only [List.length_cons, List.length_nil]; omega) (by simp; omega) ?_; intro A7 c7' n7 w7 hn7 ho7 hg7; have HO7 := Lib.hid ho7; have HG7 := Lib.hid hg7; clear ho7 hg7))
        go_roundw
        case rel =>
          have ho6 := HO6.out.alloc (.cells cc.cells.toArray 57)
          exact ⟨k + 1, by omega, by go_num, A7, n7, c7', rfl, Lib.hid (by rw [HSN.out, HS2.out]; exact HO7.out), Lib.hid (by rw [HSN.out]; exact (HG6.out.alloc _).farR ho6 HG7.out (by decide) (by decide)), Lib.hid ((HP6.out.alloc _).grown HG7.out ((HP6.out.alloc _).apart ho6 (by decide))), Lib.hid ((HR6.out.below (bAlloc (Below.refl _ _) _) hws6).grown HG7.out (fun r hr => ho6.base_le r hr)), Lib.hid ((HK6.out.alloc _).grown HG7.out (fun r hr => .inr (ho6.base_le r hr)))⟩
        case measure => simp [intOf]; omega
    · obtain rfl : k = n := by omega
      rw [List.take_of_length_le (by rw [HN.out]; exact Nat.le_refl _), ← HX.out] at HOU HGR
      go_upto_region 14 with fail
      have lgr := HGR.out.cells.1
      have g2 := HGR.out.cells.2.2.2.1
      have p0 := HPR.out.cell 0
      have p1 := HPR.out.cell 1
      have lp := HPR.out.lt
      have hgt := HGR.out.told.lt
      simp only [List.getElem?_toArray, List.getElem?_cons_zero, List.getElem?_cons_succ] at p0 p1
      have HTM := Lib.hid HGR.out.told
      have HCL := Lib.hid (cln_makes (w := wr) (c := c) (by have := HN.out; omega) (HRR.out.more HKR.out.size))
      rw [HN.out] at HCL
      have hKp := Keeps.base wr
      refine wp_region_mixed [.pure, .pure, .pure, .held, .pure, .held, .pure, .held, .make, .tail] (fun _ => clnTold wr evs) (by kernel_rfl) (by kernel_rfl) ?_
      repeat (first | (refine mix_pure rfl rfl rfl (fun K hK => ?_); go_big_quiet_op; refine hK _ ?_; clear hK K) | (refine mix_held rfl rfl rfl (by assumption) (fun K hK => ?_); go_big_quiet_op; refine hK _ ?_; clear hK K))
      refine mix_make rfl rfl (by assumption) clnTold_st (fun W hW => ?_) ?_
      · have HS2 := Lib.hid (HCL.out W hW)
        go_simp
        exact HS2.out
      rintro v ⟨Av, cv, hv⟩ hKp2
      simp only [Act.put, List.setIfInBounds_toArray, List.set_cons_zero, List.set_cons_succ]
      refine mix_storeM rfl rfl (.tmp 49) (.tmp 51) (.tmp 54) 60 3 28 rfl int_law Try.underlying60 gt T (setT T f v evs) rfl (fun W hW => HTM.out.same (hW.1.block gt HTM.out.lt)) (by unfold maxLen; omega) f (v, evs) fl rfl rfl HFL.out setT_1 setT_2 (by unfold setT; simp) (setT_4 HTM.out.nodup) ?_
      refine mix_nil ?_
      rintro w4 ⟨V, ⟨hV, hOv⟩, hM4, hT4⟩
      have hgb := hT4.grown
      obtain ⟨es, ck, hmb⟩ := (HGR.out.on hV).told.block
      have HG4 : Hid (LgW w4 g gl gt most X.1 (setT T f v evs) com halt) := Lib.hid (by
        have hL := HGR.out.on hV
        refine ⟨hL.blk.grown hgb (fun e => hL.blk.noMap hmb (Option.some.inj e).symm), hL.live.same (hgb.block gl hL.live.lt (fun e => hL.ne (Option.some.inj e))), hM4, fun p hp => ?_, hL.ne⟩
        rcases setT_1 p hp with rfl | ⟨hp, -⟩
        · have ho : OwnL V wr.heap.size 43 9 v Ev.cells evs := hOv
          exact (ho.kept hgb (.inr (ho.noMap hmb))).more (Nat.zero_le _)
        · exact (hL.rows p hp).kept hgb (.inr ((hL.rows p hp).noMap hmb)))
      have HO4 : Hid (OwnL w4 w.heap.size 57 12 (.slice A' n' c') Cm.cells X.2) := Lib.hid ((HOU.out.below hV).kept hgb (.inr ((HOU.out.below hV).noMap hmb)))
      have HK4 : Hid (KeptX w w4 [gl, gt]) := Lib.hid ((((HKR.out.more (by simp)).below hV)).grown hgb (fun r e => by cases e; simp))
      clear hKp hKp2 hV hOv hM4 hT4 hgb hmb HCL HTM
      go_wp2
      go_ret2
      exact ⟨A', n', c', v, rfl, HO4.out, HG4.out, HK4.out⟩
end
end Go.Proofs.Yteccmklacgpodaa
