/-
  The walks beneath: LPlP, LPlD, MixU.
-/
import Derived.Test.YteccmklacgpodaaMMgX
import Derived.Test.YteccmklacgpodaaMp1
import Derived.Test.YteccmklacgpodaaMp2
namespace Go.Proofs.Yteccmklacgpodaa
open Go.RowKit
set_option maxRecDepth 100000
set_option linter.unusedSimpArgs false
theorem KeptX.one {w w' : World} {r : Nat} (h : KeptX w w' [r]) : w.grownBy w' (some r) :=
  ⟨h.os, h.tape, h.output, h.size, fun k hk hne => h.block k hk (by simp only [List.mem_singleton]; exact fun e => hne (by rw [e]))⟩
section
variable {w W W' : World} {g gl gt gm i : Nat} {most com : Int} {halt : Bool} {S : List Ev} {T P : List TEnt} {A Ap : Option Addr} {c cp : Nat}
theorem LgW.keptM (h : LgW W g gl gt most S T com halt) {cs : Array Value} (hb : Blk W gm 52 cs) (hk : KeptX W W' [gm]) : LgW W' g gl gt most S T com halt := by
  obtain ⟨h1, h2, h3, h4⟩ := h.apart hb (by decide) (by decide)
  exact h.far hk.one h1 h2 h3 h4
theorem LgR.keptM (h : LgR w W g gl gt most i S T com halt) {cs : Array Value} (hb : Blk W gm 52 cs) (hgm : w.heap.size ≤ gm) (hk : KeptX W W' [gm]) : LgR w W' g gl gt most i S T com halt :=
  ⟨h.lg.keptM hb hk, h.below.trans (hk.toBelow (fun x hx => by rw [List.mem_singleton.1 hx]; exact hgm) h.below.size), h.own, h.ok, h.len, h.told, h.tlen, h.com⟩
theorem MgW.keptX (h : MgW W gm most S P com halt A c Ap cp) {S' : List Ev} {com' : Int} {halt' : Bool} (hl : LgW W g gl gt most S' T com' halt') {X : List Nat} (hk : KeptX W W' X) (hX : ∀ x ∈ X, x = g ∨ x = gl ∨ x = gt) : MgW W' gm most S P com halt A c Ap cp :=
  ⟨hl.blkX h.blk (by decide) hk hX, hl.ownX h.live (by decide) hk hX, hl.ownX h.pages (by decide) hk hX, fun p hp => hl.ownX (h.rows p hp) (by decide) hk hX⟩
theorem ownL_keptM {α : Type} {base : Nat} {E : TypeId} {m : Nat} {v : Value} {f : α → List Value} {l : List α} (ho : OwnL W base E m v f l) {cs : Array Value} (hb : Blk W gm 52 cs) (hE : E ≠ 52) (hk : KeptX W W' [gm]) : OwnL W' base E m v f l :=
  ho.same (fun k hv => hk.block k (ho.block_lt k hv) (by
    simp only [List.mem_singleton]
    rintro rfl
    exact hb.apart ho hE.symm hv))
/-- Both tell the same of each frame. -/
def ToldR (T P : List TEnt) (com : Int) : Prop := ∀ f, toldAt T f = toldP P com f
theorem toldR_nil : ToldR [] [] (-1) := fun f => by
  unfold toldP
  split <;> rfl
theorem ToldR.tell (h : ToldR T P com) {f : Int} (hf : com < f) (v v' : Value) (evs : List Ev) : ToldR (setT T f v evs) (setT P f v' evs) com := fun j => by
  have := h j
  unfold toldP at this ⊢
  rw [toldAt_set, toldAt_set]
  by_cases hj : f = j
  · rw [if_pos hj, if_pos hj, if_pos (by omega)]
  · rw [if_neg hj, if_neg hj]; exact this
theorem toldAt_gone (T : List TEnt) (f : Int) : toldAt (delT T f) f = [] := by
  unfold toldAt
  have : (delT T f).find? (fun p => decide (p.1 = f)) = none := by
    rw [List.find?_eq_none]
    intro p hp
    unfold delT at hp
    have := (List.mem_filter.1 hp).2
    simpa using this
  rw [this]
theorem ToldR.commit (h : ToldR T P com) : ToldR (delT T (com + 1)) P (com + 1) := fun j => by
  unfold toldP
  by_cases hj : j = com + 1
  · rw [hj, toldAt_gone, if_neg (by omega)]
  · rw [toldAt_del _ _ _ hj, h j]
    unfold toldP
    by_cases hc : com + 1 < j
    · rw [if_pos hc, if_pos (by omega)]
    · rw [if_neg hc, if_neg (by omega)]
/-- Both ledgers. -/
structure Both (w W : World) (g gl gt gm : Nat) (most : Int) (i : Nat) (S : List Ev) (T P : List TEnt) (com : Int) (halt : Bool) : Prop where
  lg : LgR w W g gl gt most i S T com halt
  mg : ∃ A c Ap cp, MgW W gm most S P com halt A c Ap cp
  own : w.heap.size ≤ gm
  plen : P.length ≤ i
  told : ToldR T P com
  hal : halt = true → S = []
theorem Both.on (h : Both w W g gl gt gm most i S T P com halt) (hb : Below W.heap.size W W') : Both w W' g gl gt gm most i S T P com halt := by
  obtain ⟨A, c, Ap, cp, hm⟩ := h.mg
  exact ⟨h.lg.on hb, ⟨A, c, Ap, cp, hm.on hb⟩, h.own, h.plen, h.told, h.hal⟩
theorem Both.step (h : Both w W g gl gt gm most i S T P com halt) : Both w W g gl gt gm most (i + 1) S T P com halt :=
  ⟨h.lg.step, h.mg, h.own, Nat.le_succ_of_le h.plen, h.told, h.hal⟩
end
/-- Two rows of the same commands. -/
theorem same_cm {w : World} {b b' : Nat} (A B : Option Addr) (n m c d : Nat) (L : List Cm) (h1 : OwnL w b 57 12 (.slice A n c) Cm.cells L) (h2 : OwnL w b' 57 12 (.slice B m d) Cm.cells L) (hL : L.length ≤ 1000000000) :
    Calls Try.prog 35 #[.slice A n c, .slice B m d] w fun e w' => e = .returned (.bool true) ∧ Below w.heap.size w w' := by
  have e1 := h1.len
  have e2 := h2.len
  have r1 := h1.rd
  have r2 := h2.rd
  rw [e1, e2]
  refine (r17Same_any A B c d L L w hL r1 r2).mono ?_
  rintro e w' ⟨rfl, hb⟩
  exact ⟨by rw [decide_eq_true (rfl : L = L)], hb⟩
theorem same_ev {w : World} {b b' : Nat} (A B : Option Addr) (n m c d : Nat) (L : List Ev) (h1 : OwnL w b 43 9 (.slice A n c) Ev.cells L) (h2 : OwnL w b' 43 9 (.slice B m d) Ev.cells L) (hL : L.length ≤ 1000000000) :
    Calls Try.prog 15 #[.slice A n c, .slice B m d] w fun e w' => e = .returned (.bool true) ∧ Below w.heap.size w w' := by
  have e1 := h1.len
  have e2 := h2.len
  have r1 := h1.rd
  have r2 := h2.rd
  rw [e1, e2]
  refine (same_any A B c d L L w hL r1 r2).mono ?_
  rintro e w' ⟨rfl, hb⟩
  exact ⟨by rw [decide_eq_true (rfl : L = L)], hb⟩
end Go.Proofs.Yteccmklacgpodaa

namespace Go.Proofs.Yteccmklacgpodaa
open Go.RowKit
set_option maxRecDepth 100000
set_option linter.unusedSimpArgs false
section
variable {w W : World} {g gl gt gm i : Nat} {most com : Int} {halt : Bool} {S : List Ev} {T P : List TEnt}
set_option maxHeartbeats 8000000 in
theorem does_any (h : Both w W g gl gt gm most i S T P com halt) (hm : most ≤ 256) (h1m : 1 ≤ most) (hi : i ≤ 200) (a : ActP) (hfar : ¬ farA a.frame a.by_ a.evs.length) (hr : ∀ W', Below w.heap.size w W' → Rd W' W'.heap.size a.A (a.evs.flatMap Ev.cells)) :
    Calls Try.prog 19 #[.pointer (some ⟨g, 0, none⟩), .pointer (some ⟨gm, 0, none⟩), .agg #[.int .i64 a.kind, .int .i64 a.frame, .slice a.A a.evs.length a.c, .int .i64 a.by_]] W fun e W' => e = .returned (.bool true) ∧ ∃ S T P com halt, Both w W' g gl gt gm most (i + 1) S T P com halt := by
  have hlen := h.lg.len
  have hl : S.length ≤ 256 := by omega
  have hpl : P.length ≤ 1000 := Nat.le_trans h.plen (by omega)
  have hcb := h.lg.com
  unfold farA at hfar
  obtain ⟨n, hn⟩ : ∃ n, a.evs.length = n := ⟨_, rfl⟩
  have HN := Lib.hid hn
  have HRE := Lib.hid hr
  obtain ⟨w3, hw3⟩ : ∃ w3, w3 = W.alloc (.cells #[.int .i64 a.kind, .int .i64 a.frame, .slice a.A a.evs.length a.c, .int .i64 a.by_] 32) := ⟨_, rfl⟩
  have HA3 : Hid (Blk w3 W.heap.size 32 #[.int .i64 a.kind, .int .i64 a.frame, .slice a.A a.evs.length a.c, .int .i64 a.by_]) := Lib.hid (by rw [hw3]; exact Blk.new _ _ _)
  have HB3 : Hid (Both w w3 g gl gt gm most i S T P com halt) := Lib.hid (by rw [hw3]; exact h.on (bAlloc (Below.refl _ _) _))
  rw [hn] at hfar hw3 HA3
  rw [hn]
  clear h hn hr
  go_enter Try.func19, Try.ntmps19
  go_upto_region 1 with fail
  rw [← hw3]
  obtain ⟨gA, hgA⟩ : ∃ gA, W.heap.size = gA := ⟨_, rfl⟩
  rw [hgA] at HA3 ⊢
  clear hw3 hgA
  obtain ⟨a0, a1, a2, a3, la⟩ := HA3.out.four
  have hown := HB3.out.own
  have HTO := Lib.hid HB3.out.told
  have HPL := Lib.hid HB3.out.plen
  have HAL := Lib.hid HB3.out.hal
  have HG3 := Lib.hid HB3.out.lg
  have HS := Lib.hid HB3.out.lg.ok
  obtain ⟨AL, cL, Ap, cp, hmg⟩ := HB3.out.mg
  have HM3 := Lib.hid hmg
  clear hmg
  by_cases hk1 : a.kind = 1
  · have q1 : (a.kind == 1) = true := by simp [hk1]
    clear hk1
    by_cases hE : fitsE halt com a.evs a.frame (a.frame + a.by_) = 0
    · obtain ⟨rfl, hargs, hcf⟩ := fitsE_zero hE
      obtain ⟨b1, b2, -, -⟩ := argB_of hargs
      have htl := (tellF_ok (most := most) (now := a.frame + a.by_) (f := a.frame) HS.out (fun e he => (b2 e he).1) hlen).2.2
      rw [HN.out] at htl
      have HTE := Lib.hid (tell_lgr HG3.out hm hi a.frame (a.frame + a.by_) a.A a.c a.evs (HRE.out _ HG3.out.below) hE)
      have HE := Lib.hid hE
      rw [HN.out] at HTE
      clear hE b1 b2 hargs HB3
      go_upto_region 4 with (first
        | (go_at_call 14; refine HTE.out.mono ?_; rintro e w6 ⟨A6, n6, c6, v6, rfl, ho6, hg6, hk6⟩
           have HG6 := Lib.hid hg6
           have HO6 := Lib.hid ho6
           have HM6 := Lib.hid (HM3.out.keptX HG3.out.lg hk6 (by simp))
           have HA6 := Lib.hid (HG3.out.lg.blkX HA3.out (by decide) hk6 (by simp))
           clear hg6 hk6 ho6))
      clear HG3 HM3 HA3 HTE a0 a1 a2 a3 la
      obtain ⟨a06, a16, a26, a36, la6⟩ := HA6.out.four
      have HTM := Lib.hid (rtell_ok HM6.out HS.out hl hm hpl a.frame (a.frame + a.by_) a.A a.c a.evs (HRE.out _ HG6.out.below) HE.out)
      rw [HN.out] at HTM
      go_upto_region 5 with (first
        | (go_at_call 34; refine HTM.out.mono ?_; rintro e w7 ⟨A7, n7, c7, v7, AL7, cL7, Ap7, cp7, rfl, ho7, hm7, hk7⟩
           have HG7 := Lib.hid (HG6.out.keptM HM6.out.blk hown hk7)
           have HO7 := Lib.hid (ownL_keptM HO6.out HM6.out.blk (by decide) hk7)
           have HQ7 := Lib.hid ho7
           have HB7 : Hid (Both w w7 g gl gt gm most (i + 1) (tellF most (a.frame + a.by_) a.evs a.frame S).1 (setT T a.frame v6 a.evs) (setT P a.frame v7 a.evs) com false) := Lib.hid ⟨HG7.out, ⟨_, _, _, _, hm7⟩, hown, Nat.le_trans (setT_len _ _ _ _) (Nat.succ_le_succ HPL.out), HTO.out.tell hcf v6 v7 a.evs, fun e => by cases e⟩
           clear ho7 hm7 hk7))
      have HSC := Lib.hid (same_cm A6 A7 n6 n7 c6 c7 _ HO7.out HQ7.out (by omega))
      clear HG6 HO6 HM6 HA6 HTM HG7 HO7 HQ7 a06 a16 a26 a36 la6
      go_wp2_with (first | (go_at_call 35; refine HSC.out.mono ?_; rintro e w8 ⟨rfl, hb8⟩; have HB8 := Lib.hid (HB7.out.on hb8); clear hb8))
      go_ret
      exact ⟨rfl, _, _, _, _, _, HB8.out⟩
    · have HTE := Lib.hid (tell_bad HG3.out.lg a.frame (a.frame + a.by_) a.A a.c a.evs (by have := HN.out; omega) (HRE.out _ HG3.out.below) hE)
      have HTM : Hid (∀ W', Below w3.heap.size w3 W' → _) := Lib.hid (fun W' (hb' : Below w3.heap.size w3 W') => rtell_bad (HM3.out.on hb') a.frame (a.frame + a.by_) a.A a.c a.evs (by have := HN.out; omega) (HRE.out _ (HG3.out.on hb').below) hE)
      obtain ⟨E, hEE⟩ : ∃ E, fitsE halt com a.evs a.frame (a.frame + a.by_) = E := ⟨_, rfl⟩
      rw [hEE, HN.out] at HTE HTM
      clear hEE hE
      go_upto_region 4 with (first
        | (go_at_call 14; refine HTE.out.mono ?_; rintro e w6 ⟨rfl, hb6⟩
           have HTM6 := Lib.hid (HTM.out w6 hb6)
           have HB6 := Lib.hid (HB3.out.on hb6)
           have HA6 := Lib.hid (HA3.out.on hb6)
           clear hb6))
      clear HG3 HM3 HA3 HTE HTM HB3 a0 a1 a2 a3 la
      obtain ⟨a06, a16, a26, a36, la6⟩ := HA6.out.four
      go_upto_region 5 with (first
        | (go_at_call 34; refine HTM6.out.mono ?_; rintro e w7 ⟨rfl, hb7⟩
           have HB7 := Lib.hid (HB6.out.on hb7).step
           clear hb7))
      have HSC := Lib.hid (same_cm none none 0 0 0 0 [] (OwnL.nil (w := w7) (base := 0)) (OwnL.nil (w := w7) (base := 0)) (by simp))
      clear HA6 HB6 HTM6 a06 a16 a26 a36 la6
      go_wp2_with (first | (go_at_call 35; refine HSC.out.mono ?_; rintro e w8 ⟨rfl, hb8⟩; have HB8 := Lib.hid (HB7.out.on hb8); clear hb8))
      go_ret
      exact ⟨rfl, _, _, _, _, _, HB8.out⟩
  · have q1 : (a.kind == 1) = false := by simp [hk1]
    clear hk1
    by_cases hk2 : a.kind = 2
    · have q2 : (a.kind == 2) = true := by simp [hk2]
      clear hk2 HN HRE
      obtain ⟨lgm, -, -, -, m3, -⟩ := HM3.out.cells
      go_upto_region 7 with fail
      by_cases hby : a.by_ = 0
      · rw [hby] at a3
        refine wp_region_mild (by kernel_rfl) (by kernel_rfl) ?_
        repeat (go_big_quiet_step (fail))
        refine wpQuiet_nil ?_
        intro w5 hw'
        obtain ⟨⟨wq, k5⟩, hw''⟩ := hw'
        subst hw''
        have HB5 := Lib.hid (HB3.out.on k5)
        have HG5 := Lib.hid (HG3.out.on k5)
        have HM5 := Lib.hid (HM3.out.on k5)
        clear HB3 HG3 HM3 HA3 a0 a1 a2 a3 la lgm m3 k5
        cases halt
        · have HTE := Lib.hid (commit_lgr HG5.out hi)
          have HTF := Lib.hid HTO.out.commit
          have htl := (toldAt_ok HG5.out.told (com + 1)).2
          have hcl := (commit_fold (toldAt T (com + 1)) (S, []) HS.out).2.2
          have hteq := HTO.out (com + 1)
          have HCL : Hid ((commitF (toldAt T (com + 1)) S).2.length ≤ 64) := Lib.hid (by unfold commitF; rw [hcl]; simpa using htl)
          have HTL := Lib.hid htl
          rw [hteq] at HTL
          clear htl hcl
          go_upto_region 9 with (first
            | (go_at_call 11; refine HTE.out.mono ?_; rintro e w6 ⟨A6, n6, c6, rfl, ho6, hg6, hk6⟩
               have HG6 := Lib.hid hg6
               have HO6 := Lib.hid ho6
               have HM6 := Lib.hid (HM5.out.keptX HG5.out.lg hk6 (by simp))
               clear hg6 hk6 ho6))
          have HTM := Lib.hid (rcommit_ok HM6.out HS.out hl hpl (by omega) HTL.out)
          rw [← hteq] at HTM
          go_upto_region 10 with (first
            | (go_at_call 36; refine HTM.out.mono ?_; rintro e w7 ⟨A7, n7, c7, AL7, cL7, rfl, ho7, hm7, hk7⟩
               have HG7 := Lib.hid (HG6.out.keptM HM6.out.blk hown hk7)
               have HO7 := Lib.hid (ownL_keptM HO6.out HM6.out.blk (by decide) hk7)
               have HQ7 := Lib.hid ho7
               have HB7 : Hid (Both w w7 g gl gt gm most (i + 1) (commitF (toldAt T (com + 1)) S).1 (delT T (com + 1)) P (com + 1) false) := Lib.hid ⟨HG7.out, ⟨_, _, _, _, hm7⟩, hown, Nat.le_succ_of_le HPL.out, HTF.out, fun e => by cases e⟩
               clear ho7 hm7 hk7))
          have HSC := Lib.hid (same_cm A6 A7 n6 n7 c6 c7 _ HO7.out HQ7.out (Nat.le_trans HCL.out (by omega)))
          clear HG5 HM5 HG6 HO6 HM6 HTM HG7 HO7 HQ7
          go_wp2_with (first | (go_at_call 35; refine HSC.out.mono ?_; rintro e w8 ⟨rfl, hb8⟩; have HB8 := Lib.hid (HB7.out.on hb8); clear hb8))
          go_ret
          exact ⟨rfl, _, _, _, _, _, HB8.out⟩
        · have HTE := Lib.hid (commit_halted HG5.out.lg (com + 1))
          have HTM := Lib.hid (rcommit_halted HM5.out (com + 1))
          have HB7 := Lib.hid HB5.out.step
          have HSC := Lib.hid (same_cm none none 0 0 0 0 [] (OwnL.nil (w := w5) (base := 0)) (OwnL.nil (w := w5) (base := 0)) (by simp))
          clear HG5 HM5 HB5
          go_wp2_with (first
            | (go_at_call 11; refine HTE.out.mono ?_; rintro e w6 ⟨rfl, rfl⟩)
            | (go_at_call 36; refine HTM.out.mono ?_; rintro e w6 ⟨rfl, rfl⟩)
            | (go_at_call 35; refine HSC.out.mono ?_; rintro e w8 ⟨rfl, hb8⟩; have HB8 := Lib.hid (HB7.out.on hb8); clear hb8))
          go_ret
          exact ⟨rfl, _, _, _, _, _, HB8.out⟩
      · have hby2 := hby
        refine wp_region_mild (by kernel_rfl) (by kernel_rfl) ?_
        repeat (go_big_quiet_step (fail))
        refine wpQuiet_nil ?_
        intro w5 hw'
        obtain ⟨⟨wq, k5⟩, hw''⟩ := hw'
        subst hw''
        have HB5 := Lib.hid (HB3.out.on k5)
        have HG5 := Lib.hid (HG3.out.on k5)
        have HM5 := Lib.hid (HM3.out.on k5)
        clear HB3 HG3 HM3 HA3 a0 a1 a2 a3 la lgm m3 k5
        have HB7 := Lib.hid HB5.out.step
        have HSC := Lib.hid (same_cm none none 0 0 0 0 [] (OwnL.nil (w := w5) (base := 0)) (OwnL.nil (w := w5) (base := 0)) (by simp))
        cases halt
        · have HTE := Lib.hid (commit_order HG5.out.lg (com + 1 + a.by_) (by omega) (by omega))
          have HTM := Lib.hid (rcommit_order HM5.out (com + 1 + a.by_) (by omega) (by omega))
          clear HG5 HM5 HB5
          go_wp2_with (first
            | (go_at_call 11; refine HTE.out.mono ?_; rintro e w6 ⟨rfl, rfl⟩)
            | (go_at_call 36; refine HTM.out.mono ?_; rintro e w6 ⟨rfl, rfl⟩)
            | (go_at_call 35; refine HSC.out.mono ?_; rintro e w8 ⟨rfl, hb8⟩; have HB8 := Lib.hid (HB7.out.on hb8); clear hb8))
          go_ret
          exact ⟨rfl, _, _, _, _, _, HB8.out⟩
        · have HTE := Lib.hid (commit_halted HG5.out.lg (com + 1 + a.by_))
          have HTM := Lib.hid (rcommit_halted HM5.out (com + 1 + a.by_))
          clear HG5 HM5 HB5
          go_wp2_with (first
            | (go_at_call 11; refine HTE.out.mono ?_; rintro e w6 ⟨rfl, rfl⟩)
            | (go_at_call 36; refine HTM.out.mono ?_; rintro e w6 ⟨rfl, rfl⟩)
            | (go_at_call 35; refine HSC.out.mono ?_; rintro e w8 ⟨rfl, hb8⟩; have HB8 := Lib.hid (HB7.out.on hb8); clear hb8))
          go_ret
          exact ⟨rfl, _, _, _, _, _, HB8.out⟩
    · have q2 : (a.kind == 2) = false := by simp [hk2]
      clear hk2
      by_cases hk3 : a.kind = 3
      · have q3 : (a.kind == 3) = true := by simp [hk3]
        clear hk3 HN HRE
        cases halt
        · have HHO := Lib.hid (halt_ok HG3.out.lg HS.out (by omega))
          have hhl := haltF_len S
          go_wp2_with (first
            | (go_at_call 23; refine HHO.out.mono ?_; rintro e w6 ⟨A6, n6, c6, rfl, ho6, hl6, hk6⟩
               have HG6 := Lib.hid (HG3.out.halts (by omega) hl6 hk6)
               have HO6 := Lib.hid ho6
               have HM6 := Lib.hid (HM3.out.keptX HG3.out.lg hk6 (by simp))
               have HHM := Lib.hid (rhalt_any HM6.out (by omega))
               clear hl6 hk6 ho6)
            | (go_at_call 37; refine HHM.out.mono ?_; rintro e w7 ⟨A7, n7, c7, rfl, ho7, hm7, hk7⟩
               have HG7 := Lib.hid (HG6.out.keptM HM6.out.blk hown hk7)
               have HO7 := Lib.hid (ownL_keptM HO6.out HM6.out.blk (by decide) hk7)
               have HB7 : Hid (Both w w7 g gl gt gm most (i + 1) [] T P com true) := Lib.hid ⟨HG7.out, ⟨_, _, _, _, hm7⟩, hown, Nat.le_succ_of_le HPL.out, HTO.out, fun _ => rfl⟩
               have HSC := Lib.hid (same_cm A6 A7 n6 n7 c6 c7 _ HO7.out ho7 (by omega))
               clear ho7 hm7 hk7)
            | (go_at_call 35; refine HSC.out.mono ?_; rintro e w8 ⟨rfl, hb8⟩; have HB8 := Lib.hid (HB7.out.on hb8); clear hb8))
          go_ret
          exact ⟨rfl, _, _, _, _, _, HB8.out⟩
        · have hS0 := HAL.out rfl
          subst hS0
          have HHO := Lib.hid (halt_again HG3.out.lg)
          have HHM := Lib.hid (rhalt_any HM3.out (by omega))
          go_wp2_with (first
            | (go_at_call 23; refine HHO.out.mono ?_; rintro e w6 ⟨rfl, rfl⟩)
            | (go_at_call 37; refine HHM.out.mono ?_; rintro e w7 ⟨A7, n7, c7, rfl, ho7, hm7, hk7⟩
               have HG7 := Lib.hid (HG3.out.keptM HM3.out.blk hown hk7)
               have HB7 : Hid (Both w w7 g gl gt gm most (i + 1) [] T P com true) := Lib.hid ⟨HG7.out.step, ⟨_, _, _, _, hm7⟩, hown, Nat.le_succ_of_le HPL.out, HTO.out, fun _ => rfl⟩
               have HSC := Lib.hid (same_cm none A7 0 n7 0 c7 (haltF []) (OwnL.nil (w := w7) (base := 0)) ho7 (by simp [haltF]))
               clear ho7 hm7 hk7)
            | (go_at_call 35; refine HSC.out.mono ?_; rintro e w8 ⟨rfl, hb8⟩; have HB8 := Lib.hid (HB7.out.on hb8); clear hb8))
          go_ret
          exact ⟨rfl, _, _, _, _, _, HB8.out⟩
      · have q3 : (a.kind == 3) = false := by simp [hk3]
        clear hk3
        have HS := Lib.hid HB3.out.step
        clear HB3 HG3 HM3
        go_wp2
        go_ret
        exact ⟨rfl, _, _, _, _, _, HS.out⟩
end
end Go.Proofs.Yteccmklacgpodaa

namespace Go.Proofs.Yteccmklacgpodaa
open Go.RowKit
section
variable {P : Program} {ops : Array Oper} {md : Region.Mode} {kd : Nat → Kd}
def muStep (P : Program) (ops : Array Oper) (kd : Nat → Kd) (o : Oper) (i : Nat) (K : Act → World → (World → Prop) → Prop) (a : Act) (w : World) (D : World → Prop) : Prop :=
  if Region.wanted o (yielded ops a.tmps) = true then
    match kd i with
    | .pure => ∃ v, (∀ W, RunsTo P o a W v) ∧ K (a.put o.dst v) w D
    | .held => (∀ W, D W → Grown w W) ∧ ∃ v, (∀ W, Grown w W → RunsTo P o a W v) ∧ K (a.put o.dst v) w D
    | .make => (∀ W, D W → Grown w W) ∧ ∃ (S : Value → Prop) (R : Value → World → Prop), (∀ W, D W → Oper.goes P o a W (fun u W' => (S u ∧ R u W') ∧ Grown W W')) ∧ ∀ v, S v → Ne (fun W => R v W ∧ Grown w W) → K (a.put o.dst v) w (fun W => R v W ∧ Grown w W)
    | .tail => ∃ T : Value → World → Prop, (∀ W, D W → Oper.goes P o a W T) ∧ ∀ v W', T v W' → K (a.put o.dst v) W' (Grown W')
  else K (a.put o.dst undef) w D
def muOp (P : Program) (ops : Array Oper) (kd : Nat → Kd) (i : Nat) (K : Act → World → (World → Prop) → Prop) (a : Act) (w : World) (D : World → Prop) : Prop :=
  match ops[i]? with
  | none => K a w D
  | some o => muStep P ops kd o i K a w D
theorem muStep_mono {o : Oper} {i : Nat} {a : Act} {w : World} {D : World → Prop} {K K' : Act → World → (World → Prop) → Prop} (hne : Ne D) (h : ∀ a w D, Ne D → K a w D → K' a w D) (hh : muStep P ops kd o i K a w D) : muStep P ops kd o i K' a w D := by
  unfold muStep at *
  split
  · rename_i hw
    rw [if_pos hw] at hh
    cases hk : kd i <;> rw [hk] at hh <;> simp only at hh ⊢
    · obtain ⟨v, h1, h2⟩ := hh; exact ⟨v, h1, h _ _ _ hne h2⟩
    · obtain ⟨h0, v, h1, h2⟩ := hh; exact ⟨h0, v, h1, h _ _ _ hne h2⟩
    · obtain ⟨h0, S, R, h1, h2⟩ := hh; exact ⟨h0, S, R, h1, fun v hv hn => h _ _ _ hn (h2 v hv hn)⟩
    · obtain ⟨T, h1, h2⟩ := hh; exact ⟨T, h1, fun v W' ht => h _ _ _ ⟨W', Grown.refl W'⟩ (h2 v W' ht)⟩
  · rename_i hw; rw [if_neg hw] at hh; exact h _ _ _ hne hh
theorem muOp_mono {i : Nat} {a : Act} {w : World} {D : World → Prop} {K K' : Act → World → (World → Prop) → Prop} (hne : Ne D) (h : ∀ a w D, Ne D → K a w D → K' a w D) (hh : muOp P ops kd i K a w D) : muOp P ops kd i K' a w D := by
  unfold muOp at *
  split
  · rename_i ho; simp only [ho] at hh; exact h _ _ _ hne hh
  · rename_i o ho; simp only [ho] at hh; exact muStep_mono hne h hh
theorem muStep_some {o : Oper} {i : Nat} {a : Act} {w : World} {D : World → Prop} {K : Act → World → (World → Prop) → Prop} (hne : Ne D) (hh : muStep P ops kd o i K a w D) : ∃ a' w' D', Ne D' ∧ K a' w' D' := by
  unfold muStep at hh
  split at hh
  · cases hk : kd i <;> rw [hk] at hh <;> simp only at hh
    · obtain ⟨v, -, h2⟩ := hh; exact ⟨_, _, _, hne, h2⟩
    · obtain ⟨-, v, -, h2⟩ := hh; exact ⟨_, _, _, hne, h2⟩
    · obtain ⟨h0, S, R, h1, h2⟩ := hh
      obtain ⟨W, hW⟩ := hne
      obtain ⟨v, W', ⟨hs, hr⟩, hg⟩ := goes_some (h1 W hW)
      have hn : Ne (fun W => R v W ∧ Grown w W) := ⟨W', hr, (h0 W hW).trans hg⟩
      exact ⟨_, _, _, hn, h2 v hs hn⟩
    · obtain ⟨T, h1, h2⟩ := hh
      obtain ⟨W, hW⟩ := hne
      obtain ⟨v, W', ht⟩ := goes_some (h1 W hW)
      exact ⟨_, _, _, ⟨W', Grown.refl W'⟩, h2 v W' ht⟩
  · exact ⟨_, _, _, hne, hh⟩
/-- Which kinds may come in either order. -/
def swapU (a b : Kd) : Bool := match a, b with
  | .pure, _ => true
  | _, .pure => true
  | .tail, _ => false
  | _, .tail => false
  | .make, .make => false
  | _, _ => true
theorem muStep_swap {i j : Nat} {oi oj : Oper} (hap : oi.apart ops oj = true) (hsi : ∀ cs b, oi.op ≠ .select cs b) (hsj : ∀ cs b, oj.op ≠ .select cs b) (hk : swapU (kd i) (kd j) = true) {K : Act → World → (World → Prop) → Prop} {a : Act} {w : World} {D : World → Prop} (hne : Ne D)
    (h : muStep P ops kd oi i (fun a1 w1 D1 => muStep P ops kd oj j K a1 w1 D1) a w D) : muStep P ops kd oj j (fun a2 w2 D2 => muStep P ops kd oi i K a2 w2 D2) a w D := by
  obtain ⟨h1, h2, h3⟩ := Oper.apart_spec hap
  have ei : ∀ (a : Act) u, execOp (a.put oj.dst u).eval oi = execOp a.eval oi := fun a u => execOp_put oi hsi a oj.dst u h3
  have ej : ∀ (a : Act) u, execOp (a.put oi.dst u).eval oj = execOp a.eval oj := fun a u => execOp_put oj hsj a oi.dst u h1
  have wi : ∀ (a : Act) u, Region.wanted oi (yielded ops (a.put oj.dst u).tmps) = Region.wanted oi (yielded ops a.tmps) := fun a u => wanted_put oi a oj.dst u h3
  have wj : ∀ (a : Act) u, Region.wanted oj (yielded ops (a.put oi.dst u).tmps) = Region.wanted oj (yielded ops a.tmps) := fun a u => wanted_put oj a oi.dst u h1
  have pc : ∀ (a : Act) u v, (a.put oi.dst u).put oj.dst v = (a.put oj.dst v).put oi.dst u := fun a u v => Act.put_comm a u v h2
  have ri : ∀ (a : Act) u W v, RunsTo P oi (a.put oj.dst u) W v ↔ RunsTo P oi a W v := fun a u W v => by unfold RunsTo; rw [ei]
  have rj : ∀ (a : Act) u W v, RunsTo P oj (a.put oi.dst u) W v ↔ RunsTo P oj a W v := fun a u W v => by unfold RunsTo; rw [ej]
  have gi : ∀ (a : Act) u W T, Oper.goes P oi (a.put oj.dst u) W T ↔ Oper.goes P oi a W T := fun a u W T => by unfold Oper.goes; rw [ei]
  have gj : ∀ (a : Act) u W T, Oper.goes P oj (a.put oi.dst u) W T ↔ Oper.goes P oj a W T := fun a u W T => by unfold Oper.goes; rw [ej]
  unfold muStep at h ⊢
  simp only [wi, wj, ri, rj, gi, gj] at h ⊢
  by_cases hwi : Region.wanted oi (yielded ops a.tmps) = true
  · by_cases hwj : Region.wanted oj (yielded ops a.tmps) = true
    · simp only [hwi, hwj, if_true] at h ⊢
      cases hki : kd i <;> cases hkj : kd j <;> rw [hki, hkj] at hk <;> simp only [hki, hkj] at h ⊢
      case tail.tail => simp [swapU] at hk
      case tail.held => simp [swapU] at hk
      case tail.make => simp [swapU] at hk
      case held.tail => simp [swapU] at hk
      case make.tail => simp [swapU] at hk
      case make.make => simp [swapU] at hk
      case pure.pure =>
        obtain ⟨v, hv, u, hu, hK⟩ := h
        exact ⟨u, hu, v, hv, by rw [← pc]; exact hK⟩
      case pure.held =>
        obtain ⟨v, hv, hD, u, hu, hK⟩ := h
        exact ⟨hD, u, hu, v, hv, by rw [← pc]; exact hK⟩
      case pure.make =>
        obtain ⟨v, hv, hD, S, R, hM, hK⟩ := h
        exact ⟨hD, S, R, hM, fun u hu hn => ⟨v, hv, by rw [← pc]; exact hK u hu hn⟩⟩
      case pure.tail =>
        obtain ⟨v, hv, T, hg, hK⟩ := h
        exact ⟨T, hg, fun u W' hu => ⟨v, hv, by rw [← pc]; exact hK u W' hu⟩⟩
      case held.pure =>
        obtain ⟨hD, v, hv, u, hu, hK⟩ := h
        exact ⟨u, hu, hD, v, hv, by rw [← pc]; exact hK⟩
      case held.held =>
        obtain ⟨hD, v, hv, -, u, hu, hK⟩ := h
        exact ⟨hD, u, hu, hD, v, hv, by rw [← pc]; exact hK⟩
      case held.make =>
        obtain ⟨hD, v, hv, -, S, R, hM, hK⟩ := h
        exact ⟨hD, S, R, hM, fun u hu hn => ⟨fun W hW => hW.2, v, hv, by rw [← pc]; exact hK u hu hn⟩⟩
      case make.pure =>
        obtain ⟨hD, S, R, hM, hK⟩ := h
        obtain ⟨W, hW⟩ := hne
        obtain ⟨v0, W', ⟨hs0, hr0⟩, hg0⟩ := goes_some (hM W hW)
        obtain ⟨u, hu, -⟩ := hK v0 hs0 ⟨W', hr0, (hD W hW).trans hg0⟩
        refine ⟨u, hu, hD, S, R, hM, fun v hv hn => ?_⟩
        obtain ⟨u', hu', hK'⟩ := hK v hv hn
        have : u' = u := runsTo_uniq (hu' W) (hu W)
        subst this
        rw [← pc]; exact hK'
      case make.held =>
        obtain ⟨hD, S, R, hM, hK⟩ := h
        obtain ⟨W, hW⟩ := hne
        obtain ⟨v0, W', ⟨hs0, hr0⟩, hg0⟩ := goes_some (hM W hW)
        obtain ⟨-, u, hu, -⟩ := hK v0 hs0 ⟨W', hr0, (hD W hW).trans hg0⟩
        refine ⟨hD, u, hu, hD, S, R, hM, fun v hv hn => ?_⟩
        obtain ⟨-, u', hu', hK'⟩ := hK v hv hn
        have : u' = u := runsTo_uniq (hu' w (Grown.refl w)) (hu w (Grown.refl w))
        subst this
        rw [← pc]; exact hK'
      case tail.pure =>
        obtain ⟨T, hg, hK⟩ := h
        obtain ⟨W, hW⟩ := hne
        obtain ⟨v0, W', ht0⟩ := goes_some (hg W hW)
        obtain ⟨u, hu, -⟩ := hK v0 W' ht0
        refine ⟨u, hu, T, hg, fun v W2 ht => ?_⟩
        obtain ⟨u', hu', hK'⟩ := hK v W2 ht
        have : u' = u := runsTo_uniq (hu' W) (hu W)
        subst this
        rw [← pc]; exact hK'
    · simp only [hwi, hwj, if_true, Bool.false_eq_true, if_false] at h ⊢
      cases hki : kd i <;> simp only [hki] at h ⊢
      · obtain ⟨v, hv, hK⟩ := h; exact ⟨v, hv, by rw [← pc]; exact hK⟩
      · obtain ⟨hD, v, hv, hK⟩ := h; exact ⟨hD, v, hv, by rw [← pc]; exact hK⟩
      · obtain ⟨hD, S, R, hM, hK⟩ := h; exact ⟨hD, S, R, hM, fun v hv hn => by rw [← pc]; exact hK v hv hn⟩
      · obtain ⟨T, hg, hK⟩ := h; exact ⟨T, hg, fun v W' ht => by rw [← pc]; exact hK v W' ht⟩
  · by_cases hwj : Region.wanted oj (yielded ops a.tmps) = true
    · simp only [hwi, hwj, if_true, Bool.false_eq_true, if_false] at h ⊢
      cases hkj : kd j <;> simp only [hkj] at h ⊢
      · obtain ⟨v, hv, hK⟩ := h; exact ⟨v, hv, by rw [← pc]; exact hK⟩
      · obtain ⟨hD, v, hv, hK⟩ := h; exact ⟨hD, v, hv, by rw [← pc]; exact hK⟩
      · obtain ⟨hD, S, R, hM, hK⟩ := h; exact ⟨hD, S, R, hM, fun v hv hn => by rw [← pc]; exact hK v hv hn⟩
      · obtain ⟨T, hg, hK⟩ := h; exact ⟨T, hg, fun v W' ht => by rw [← pc]; exact hK v W' ht⟩
    · simp only [hwi, hwj, Bool.false_eq_true, if_false] at h ⊢
      rw [← pc]; exact h
def wpAnyU (P : Program) (md : Region.Mode) (ops : Array Oper) (kd : Nat → Kd) (E : Act → World → (World → Prop) → Prop) : Nat → Array Bool → Act → World → (World → Prop) → Prop
  | 0, listed, a, w, D => Region.ready md ops listed = [] ∧ E a w D
  | f + 1, listed, a, w, D => (Region.ready md ops listed = [] → E a w D) ∧ ∀ i ∈ Region.ready md ops listed, muOp P ops kd i (wpAnyU P md ops kd E f (listed.setIfInBounds i true)) a w D
theorem wpOp_of_muOp {i : Nat} {a : Act} {w : World} {D : World → Prop} {K : Act → World → (World → Prop) → Prop} {K' : Act → World → Prop} {Q' : Exit → Act → World → Prop} {W : World} (hW : D W)
    (h : ∀ a w D W', D W' → K a w D → K' a W') (hh : muOp P ops kd i K a w D) : wpOp P ops Q' i K' a W := by
  unfold muOp at hh
  unfold wpOp
  split
  · rename_i ho; simp only [ho] at hh; exact h _ _ _ _ hW hh
  · rename_i o ho
    simp only [ho] at hh
    unfold muStep at hh
    split
    · rename_i hw
      rw [if_pos hw] at hh
      left
      cases hk : kd i <;> rw [hk] at hh <;> simp only at hh
      · obtain ⟨v, h1, h2⟩ := hh
        have h1 := h1 W
        unfold RunsTo at h1
        unfold Oper.wp
        rw [h1]
        exact h _ _ _ _ hW h2
      · obtain ⟨hD, v, h1, h2⟩ := hh
        have h1 := h1 W (hD W hW)
        unfold RunsTo at h1
        unfold Oper.wp
        rw [h1]
        exact h _ _ _ _ hW h2
      · obtain ⟨hD, S, R, hM, hK⟩ := hh
        exact Oper.wp_of_goes (hM W hW) fun v W' ⟨⟨hs, hr⟩, hg⟩ => h _ _ _ W' ⟨hr, (hD W hW).trans hg⟩ (hK v hs ⟨W', hr, (hD W hW).trans hg⟩)
      · obtain ⟨T, hg, hK⟩ := hh
        exact Oper.wp_of_goes (hg W hW) fun v W' ht => h _ _ _ W' (Grown.refl W') (hK v W' ht)
    · rename_i hw; rw [if_neg hw] at hh; exact h _ _ _ _ hW hh
theorem wpAny_of_U {Q : Exit → Act → World → Prop} : ∀ (f : Nat) (listed : Array Bool) (a : Act) (w : World) (D : World → Prop) (W : World), D W → wpAnyU P md ops kd (fun a _ D => ∀ W, D W → Q .normal a W) f listed a w D → wpAny P md ops Q f listed a W
  | 0, _, _, _, _, _, hW, h => ⟨h.1, h.2 _ hW⟩
  | f + 1, _, _, _, _, _, hW, h => ⟨fun h0 => h.1 h0 _ hW, fun i hi => wpOp_of_muOp hW (fun a' w' D' W' hW' h' => wpAny_of_U f _ a' w' D' W' hW' h') (h.2 i hi)⟩
/-- For whom one waits, directly or through others: as bits. -/
def edgesMask (md : Region.Mode) (ms : List Nat) : List Edge → Nat
  | [] => 0
  | e :: r => (if Region.binds md e = true then 2 ^ e.on ||| ms.getD e.on 0 else 0) ||| edgesMask md ms r
def masksOf (md : Region.Mode) : List Oper → List Nat → List Nat
  | [], ms => ms
  | o :: r, ms => masksOf md r (ms ++ [edgesMask md ms o.after.toList])
def waitsM (md : Region.Mode) (ops : Array Oper) (j i : Nat) : Bool := ((masksOf md ops.toList []).getD j 0).testBit i
/-- What waiting is. -/
def WaitsP (md : Region.Mode) (ops : Array Oper) (j i : Nat) : Prop := ∀ listed, Closed md ops listed → (∀ oj, ops[j]? = some oj → ∀ e ∈ oj.after, Region.binds md e = true → listed.getD e.on false = true) → listed.getD i false = true
theorem edgesMask_bit {ms : List Nat} (hms : ∀ j i, (ms.getD j 0).testBit i = true → WaitsP md ops j i) {i : Nat} : ∀ (l : List Edge), (edgesMask md ms l).testBit i = true → ∀ listed, Closed md ops listed → (∀ e ∈ l, Region.binds md e = true → listed.getD e.on false = true) → listed.getD i false = true
  | [], h, _, _, _ => by simp [edgesMask] at h
  | e :: r, h, listed, hcl, hd => by
    rw [edgesMask, Nat.testBit_or, Bool.or_eq_true] at h
    rcases h with h | h
    · by_cases hb : Region.binds md e = true
      · rw [if_pos hb, Nat.testBit_or, Bool.or_eq_true] at h
        have hl := hd e (by simp) hb
        rcases h with h | h
        · rw [Nat.testBit_two_pow] at h
          have : e.on = i := by simpa using h
          rw [← this]; exact hl
        · exact hms e.on i h listed hcl (fun ok hok e' he hb' => hcl e.on ok hok hl e' he hb')
      · rw [if_neg hb] at h; simp at h
    · exact edgesMask_bit hms r h listed hcl (fun e' he => hd e' (by simp [he]))
theorem masksOf_ok : ∀ (l : List Oper) (ms : List Nat), (∀ k, l[k]? = ops[ms.length + k]?) → (∀ j i, (ms.getD j 0).testBit i = true → WaitsP md ops j i) → ∀ j i, ((masksOf md l ms).getD j 0).testBit i = true → WaitsP md ops j i
  | [], _, _, hms, j, i, h => hms j i h
  | o :: r, ms, hl, hms, j, i, h => by
    refine masksOf_ok r _ (fun k => ?_) (fun j i hji => ?_) j i h
    · have := hl (k + 1)
      rw [List.length_append, List.length_singleton]
      simpa [Nat.add_assoc, Nat.add_comm 1 k] using this
    · by_cases hj : j < ms.length
      · rw [List.getD_eq_getElem?_getD, List.getElem?_append_left hj, ← List.getD_eq_getElem?_getD] at hji
        exact hms j i hji
      · by_cases hj2 : j = ms.length
        · subst hj2
          rw [List.getD_eq_getElem?_getD, List.getElem?_append_right (Nat.le_refl _)] at hji
          simp only [Nat.sub_self, List.getElem?_cons_zero, Option.getD_some] at hji
          intro listed hcl hd
          have h0 : ops[ms.length]? = some o := by simpa using (hl 0).symm
          exact edgesMask_bit hms _ hji listed hcl (fun e he hb => hd o h0 e (by simpa using he) hb)
        · rw [List.getD_eq_getElem?_getD, List.getElem?_eq_none (by simp; omega)] at hji
          simp at hji
theorem waitsM_ready {listed : Array Bool} (h : Closed md ops listed) {j i : Nat} (hj : j ∈ Region.ready md ops listed) (hw : waitsM md ops j i = true) : listed.getD i false = true :=
  masksOf_ok ops.toList [] (fun k => by simp) (fun j i h => by simp at h) j i hw listed h (fun oj hoj e he hb => by
    obtain ⟨-, o, ho, hall⟩ := mem_ready.1 hj
    obtain rfl : o = oj := Option.some.inj (ho.symm.trans hoj)
    exact hall e he hb)
theorem wpAnyU_first {E : Act → World → (World → Prop) → Prop} {i : Nat} {oi : Oper} (hi : ops[i]? = some oi) (hsel : ∀ (j : Nat) (o : Oper) cs b, ops[j]? = some o → o.op ≠ .select cs b)
    (hsw : ∀ j, j < ops.size → j ≠ i → swapU (kd i) (kd j) = false → waitsM md ops j i = true ∨ waitsM md ops i j = true) :
    ∀ (f : Nat) (listed : Array Bool) (a : Act) (w : World) (D : World → Prop), Ne D → Closed md ops listed →
      (∀ j oj, ops[j]? = some oj → j ≠ i → listed.getD j true = false → (∀ e ∈ oj.after, Region.binds md e = true → e.on ≠ i) → oi.apart ops oj = true) →
      i ∈ Region.ready md ops listed → muOp P ops kd i (wpAnyU P md ops kd E f (listed.setIfInBounds i true)) a w D → wpAnyU P md ops kd E (f + 1) listed a w D := by
  intro f
  induction f with
  | zero =>
    intro listed a w D hne _ _ hr H
    refine ⟨fun h => (by rw [h] at hr; cases hr), fun j hj => ?_⟩
    by_cases hji : j = i
    · subst hji; exact H
    · unfold muOp at H
      rw [hi] at H
      obtain ⟨a', w', D', -, h0, -⟩ := muStep_some hne H
      have := ready_mono hj hji
      rw [h0] at this; cases this
  | succ f ih =>
    intro listed a w D hne hcl hfree hr H
    refine ⟨fun h => (by rw [h] at hr; cases hr), fun j hj => ?_⟩
    by_cases hji : j = i
    · subst hji; exact H
    · obtain ⟨hjun, oj, hoj, hall⟩ := mem_ready.1 hj
      have hun := (mem_ready.1 hr).1
      have hnot : ∀ e ∈ oj.after, Region.binds md e = true → e.on ≠ i := fun e he hb heq => by
        have h1 := hall e he hb
        rw [heq, getD_both hun] at h1
        cases h1
      have hap := hfree j oj hoj hji hjun hnot
      have hswap : swapU (kd i) (kd j) = true := by
        cases hs : swapU (kd i) (kd j) with
        | true => rfl
        | false =>
          rcases hsw j (Array.getElem?_eq_some_iff.1 hoj).1 hji hs with h1 | h1
          · have h2 := waitsM_ready hcl hj h1
            rw [getD_both hun] at h2; cases h2
          · have h2 := waitsM_ready hcl hr h1
            rw [getD_both hjun] at h2; cases h2
      have hfree' : ∀ k ok, ops[k]? = some ok → k ≠ i → (listed.setIfInBounds j true).getD k true = false →
          (∀ e ∈ ok.after, Region.binds md e = true → e.on ≠ i) → oi.apart ops ok = true := fun k ok hk hki hun' hno => by
        refine hfree k ok hk hki ?_ hno
        by_cases hjk : j = k
        · subst hjk; exact hjun
        · rw [getD_set_ne true hjk] at hun'; exact hun'
      have hri := ready_mono hr (Ne.symm hji)
      unfold muOp at H
      rw [hi] at H
      have H2 : muStep P ops kd oi i (fun a1 w1 D1 => muStep P ops kd oj j (wpAnyU P md ops kd E f ((listed.setIfInBounds i true).setIfInBounds j true)) a1 w1 D1) a w D :=
        muStep_mono hne (fun a1 w1 D1 _ hK => by
          have := hK.2 j (ready_mono hj hji)
          unfold muOp at this
          rw [hoj] at this
          exact this) H
      have H3 := muStep_swap hap (fun cs b => hsel i oi cs b hi) (fun cs b => hsel j oj cs b hoj) hswap hne H2
      unfold muOp
      rw [hoj]
      refine muStep_mono hne (fun a2 w2 D2 hne2 h3 => ih (listed.setIfInBounds j true) a2 w2 D2 hne2 (hcl.set hj) hfree' hri ?_) H3
      unfold muOp
      rw [hi, Array.setIfInBounds_comm _ _ hji]
      exact h3
def wpMixU (P : Program) (ops : Array Oper) (kd : Nat → Kd) (E : Act → World → (World → Prop) → Prop) : List Oper → Nat → Act → World → (World → Prop) → Prop
  | [], _, a, w, D => E a w D
  | o :: rest, k, a, w, D => muStep P ops kd o k (wpMixU P ops kd E rest (k + 1)) a w D
def mixUB (md : Region.Mode) (ops : Array Oper) (kd : Nat → Kd) : Bool :=
  Region.lexB md ops && (List.range ops.size).all fun i => (List.range ops.size).all fun j => decide (j = i) || (swapU (kd i) (kd j) || (waitsM md ops j i || waitsM md ops i j))
theorem wpAnyU_lex {E : Act → World → (World → Prop) → Prop} (hs : Region.noSelect ops = true) (hsw : ∀ i j, i < ops.size → j < ops.size → j ≠ i → swapU (kd i) (kd j) = false → waitsM md ops j i = true ∨ waitsM md ops i j = true) :
    ∀ (l : List Oper) (k : Nat) (listed : Array Bool) (a : Act) (w : World) (D : World → Prop), Ne D → Closed md ops listed → (∀ j, l[j]? = ops[k + j]?) →
    Region.lexFrom md ops l.length k listed = true → wpMixU P ops kd E l k a w D → wpAnyU P md ops kd E l.length listed a w D
  | [], _, _, _, _, _, _, _, _, hB, h => ⟨by simpa [Region.lexFrom] using hB, h⟩
  | o :: l, k, listed, a, w, D, hne, hcl, hl, hB, h => by
    have h0 : ops[k]? = some o := by simpa using (hl 0).symm
    simp only [List.length_cons, Region.lexFrom, Bool.and_eq_true] at hB
    obtain ⟨⟨hr, hf⟩, hB'⟩ := hB
    have hk : k < ops.size := (Array.getElem?_eq_some_iff.1 h0).1
    refine wpAnyU_first h0 (Region.noSelect_spec hs) (fun j hjl hj hsw' => hsw k j hk hjl hj hsw') l.length listed a w D hne hcl (Region.free_spec h0 hf) (by simpa using hr) ?_
    unfold muOp
    rw [h0]
    exact muStep_mono hne (fun a' w' D' hne' h' => wpAnyU_lex hs hsw l (k + 1) _ a' w' D' hne' (hcl.set (by simpa using hr)) (fun j => by have := hl (j + 1); simpa [Nat.add_assoc, Nat.add_comm 1 j] using this) hB' h') h
/-- **The law**, before it is a region. -/
theorem any_mixedU {Q : Exit → Act → World → Prop} {a : Act} {w : World} {l : List Oper} (kds : List Kd) (hB : mixUB .any l.toArray (fun i => kds.getD i .pure) = true)
    (h : wpMixU P l.toArray (fun i => kds.getD i .pure) (fun a _ D => ∀ W, D W → Q .normal a W) l 0 a w (Grown w)) : wpAny P .any l.toArray Q l.toArray.size (Array.replicate l.toArray.size false) a { w with drawn := w.drawn + 1 } := by
  simp only [mixUB, Bool.and_eq_true] at hB
  obtain ⟨hlex, hall⟩ := hB
  simp only [Region.lexB, Bool.and_eq_true] at hlex
  have hg0 : Grown w { w with drawn := w.drawn + 1 } := (Below.refl _ _).drew
  refine (wpAny_of_U (kd := fun i => kds.getD i .pure) _ _ _ w (Grown w) _ hg0 ?_)
  have := wpAnyU_lex (P := P) (md := .any) (kd := fun i => kds.getD i .pure) (E := fun a _ D => ∀ W, D W → Q .normal a W) hlex.1 (fun i j hi hjl hj hs => by
    have h1 := List.all_eq_true.1 (List.all_eq_true.1 hall i (List.mem_range.2 hi)) j (List.mem_range.2 hjl)
    simp only [Bool.or_eq_true, decide_eq_true_eq] at h1
    rcases h1 with h1 | h1 | h1 | h1
    · exact absurd h1 hj
    · rw [hs] at h1; cases h1
    · exact .inl h1
    · exact .inr h1) l 0 (Array.replicate l.toArray.size false) a w (Grown w) ⟨w, Grown.refl w⟩ (Closed.none _ _ _) (by simp) (by simpa using hlex.2) h
  simpa using this
theorem wp_region_mixedU {id : Nat} {Q : Exit → Act → World → Prop} {a : Act} {w : World} {l : List Oper} (kds : List Kd) (hm : P.follows .mixedOrders = true) (hB : mixUB .any l.toArray (fun i => kds.getD i .pure) = true)
    (h : wpMixU P l.toArray (fun i => kds.getD i .pure) (fun a _ D => ∀ W, D W → Q .normal a W) l 0 a w (Grown w)) : (Code.region id l.toArray true).wp P Q a w :=
  wp_region_any hm (any_mixedU kds hB h)
/-! ### the walk's steps -/
section
variable {E : Act → World → (World → Prop) → Prop} {a : Act} {o : Oper} {rest : List Oper} {k : Nat} {w : World} {D : World → Prop}
theorem mixU_skip (hw : Region.wanted o (yielded ops a.tmps) = false) (h : wpMixU P ops kd E rest (k + 1) (a.put o.dst undef) w D) : wpMixU P ops kd E (o :: rest) k a w D := by
  unfold wpMixU muStep
  rw [if_neg (by rw [hw]; decide)]
  exact h
theorem mixU_pure (hw : Region.wanted o (yielded ops a.tmps) = true) (hk : kd k = .pure) (hp : valOp o.op = true)
    (h : ∀ K : Act → Prop, (∀ a, wpMixU P ops kd E rest (k + 1) a w D → K a) → o.quiet P a (fun _ => True) K) : wpMixU P ops kd E (o :: rest) k a w D := by
  unfold wpMixU muStep
  rw [if_pos hw, hk]
  obtain ⟨v, h1, h2⟩ := h _ fun _ h => h
  exact ⟨v, fun W => runs_of_quiet hp (h1 W trivial), h2⟩
theorem mixU_held (hw : Region.wanted o (yielded ops a.tmps) = true) (hk : kd k = .held) (hp : valOp o.op = true) (hD : ∀ W, D W → Grown w W)
    (h : ∀ K : Act → Prop, (∀ a, wpMixU P ops kd E rest (k + 1) a w D → K a) → o.quiet P a (fun w' => ∃ x : Ext w, w' = x.world) K) : wpMixU P ops kd E (o :: rest) k a w D := by
  unfold wpMixU muStep
  rw [if_pos hw, hk]
  obtain ⟨v, h1, h2⟩ := h _ fun _ h => h
  exact ⟨hD, v, fun W hW => runs_of_quiet hp (h1 W ⟨⟨W, hW⟩, rfl⟩), h2⟩
theorem mixU_load (hw : Region.wanted o (yielded ops a.tmps) = true) (hk : kd k = .held) (hD : ∀ W, D W → Grown w W) (ty : TypeId) (x : Operand) (ho : o.op = .load ty x)
    (b i : Nat) (hx : a.eval x = .pointer (some ⟨b, i, none⟩)) (cs : List Value) (d : TypeDesc) (hb : b < w.heap.size) (hc : w.rangeAt b i cs)
    (hu : P.underlying ty = some d) (hd : d.isRow = true) (hi : (P.info? ty).map (·.size) = some cs.length)
    (h : wpMixU P ops kd E rest (k + 1) (a.put o.dst (.agg cs.toArray)) w D) : wpMixU P ops kd E (o :: rest) k a w D := by
  unfold wpMixU muStep
  rw [if_pos hw, hk]
  refine ⟨hD, _, fun W hW => ?_, h⟩
  have hc' : W.rangeAt b i cs := fun j v hv => (Below.cell (p := ⟨b, i + j, none⟩) hW hb).trans (hc j v hv)
  unfold RunsTo execOp
  simp only [ho, hx, Instr.loadAt, Instr.sureAddr, Sem.run_bind, Sem.run_pure, Result.andThen_ok, run_loadVar_mid W b i ty cs d hc' hu hd hi]
theorem mixU_act (hw : Region.wanted o (yielded ops a.tmps) = true) (hk : kd k = .make) (hD : ∀ W, D W → Grown w W) (S : Value → Prop) (R : Value → World → Prop) (hM : ∀ W, D W → Oper.goes P o a W (fun u W' => (S u ∧ R u W') ∧ Grown W W'))
    (h : ∀ v, S v → wpMixU P ops kd E rest (k + 1) (a.put o.dst v) w (fun W => R v W ∧ Grown w W)) : wpMixU P ops kd E (o :: rest) k a w D := by
  unfold wpMixU muStep
  rw [if_pos hw, hk]
  exact ⟨hD, S, R, hM, fun v hv _ => h v hv⟩
/-- What writes: the world that it leaves is the new base. -/
theorem mixU_write (hw : Region.wanted o (yielded ops a.tmps) = true) (hk : kd k = .tail) (T : Value → World → Prop) (hM : ∀ W, D W → Oper.goes P o a W T)
    (h : ∀ v W', T v W' → wpMixU P ops kd E rest (k + 1) (a.put o.dst v) W' (Grown W')) : wpMixU P ops kd E (o :: rest) k a w D := by
  unfold wpMixU muStep
  rw [if_pos hw, hk]
  exact ⟨T, hM, h⟩
theorem mixU_run (v : Value) (hw : Region.wanted o (yielded ops a.tmps) = true) (hk : kd k = .pure) (hr : ∀ W, RunsTo P o a W v) (h : wpMixU P ops kd E rest (k + 1) (a.put o.dst v) w D) : wpMixU P ops kd E (o :: rest) k a w D := by
  unfold wpMixU muStep
  rw [if_pos hw, hk]
  exact ⟨v, hr, h⟩
theorem mixU_hrun (v : Value) (hw : Region.wanted o (yielded ops a.tmps) = true) (hk : kd k = .held) (hD : ∀ W, D W → Grown w W) (hr : ∀ W, Grown w W → RunsTo P o a W v) (h : wpMixU P ops kd E rest (k + 1) (a.put o.dst v) w D) : wpMixU P ops kd E (o :: rest) k a w D := by
  unfold wpMixU muStep
  rw [if_pos hw, hk]
  exact ⟨hD, v, hr, h⟩
theorem mixU_nil (h : E a w D) : wpMixU P ops kd E [] k a w D := h
end
end
end Go.Proofs.Yteccmklacgpodaa
