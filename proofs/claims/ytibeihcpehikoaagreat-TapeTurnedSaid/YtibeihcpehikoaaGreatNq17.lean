/-
  The game's small walks: bits, boxes, headings, an event told.
-/
import Derived.Test.YtibeihcpehikoaaGreatNq16
namespace Go.Proofs.YtibeihcpehikoaaGreat
open Go.RowKit
set_option maxRecDepth 100000

set_option maxHeartbeats 400000 in
theorem gwithin_any (n lo hi : Int) (w : World) : Calls Tryz.prog 185 #[.int .i64 n, .int .i64 lo, .int .i64 hi] w fun e w' => e = .returned (.bool (inB n lo hi)) ∧ w = w' := by
  have hz : inB n lo hi = decide (lo ≤ n ∧ n ≤ hi) := rfl
  by_cases h0 : lo ≤ n <;> by_cases h1 : n ≤ hi
  all_goals
    simp only [h0, h1, and_self, and_true, and_false, decide_true, decide_false] at hz
    have HZ := Lib.hid hz
    clear hz
    go_enter Tryz.func185, Tryz.ntmps185
    go_wp2
    go_ret
    exact ⟨ret_bool HZ.out.symm, rfl⟩
set_option maxHeartbeats 400000 in
theorem garena_any (w : World) : Calls Tryz.prog 196 #[] w fun e w' => e = .returned (.agg #[.int .i32 (-4194304), .int .i32 (-4194304), .int .i32 4194304, .int .i32 4194304]) ∧ Below w.heap.size w w' := by
  go_enter Tryz.func196, Tryz.ntmps196
  go_wp2
  refine bodyPost_ret (v := .agg #[.int .i32 (-4194304), .int .i32 (-4194304), .int .i32 4194304, .int .i32 4194304]) (by simp [results, Tryz.results196, go_sem]) rfl ⟨rfl, (by repeat (first | exact Below.refl _ _ | (with_reducible assumption) | apply bAlloc | apply below_drewN | apply Below.drew))⟩
theorem yard_nums : padd (-4194304) 262144 = -3932160 ∧ psub 4194304 262144 = 3932160 ∧ rightB (padd (-4194304) 262144) (padd (-4194304) 262144) (psub 4194304 262144) (psub 4194304 262144) = true ∧ F32 (-4194304) ∧ F32 4194304 ∧ F32 262144 := by
  refine ⟨by decide, by decide, by decide, ?_, ?_, ?_⟩ <;> (unfold F32; omega)
set_option maxHeartbeats 1000000 in
theorem gyard_any (w : World) : Calls Tryz.prog 237 #[] w fun e w' => e = .returned (.agg #[.int .i32 (-3932160), .int .i32 (-3932160), .int .i32 3932160, .int .i32 3932160]) ∧ Below w.heap.size w w' := by
  obtain ⟨e1, e2, e3, f1, f2, f3⟩ := yard_nums
  have E1 := Lib.hid e1
  have E2 := Lib.hid e2
  have E3 := Lib.hid e3
  clear e1 e2 e3
  go_enter Tryz.func237, Tryz.ntmps237
  go_wp2_with fail
  refine (garena_any _).mono ?_
  rintro e w1 ⟨rfl, k1⟩
  have HR := Lib.hid (Blk.on (g := w.heap.size) (E := 273) (cs := #[.int .i32 0, .int .i32 0, .int .i32 0, .int .i32 0]) (by repeat (first | ((with_reducible refine blk_new_at ?_); first | rfl | (simp; done)) | (with_reducible refine Blk.alloc ?_ _) | (with_reducible refine Blk.drew ?_))) k1)
  have hb1 : Below w.heap.size w w1 := (by repeat (first | exact Below.refl _ _ | (with_reducible assumption) | apply bAlloc | apply below_drewN | apply Below.drew | (refine bSetG ?_ (by first | omega | (simp; omega)) _ _) | (refine bTrans ?_ (by with_reducible assumption))))
  have HB1 := Lib.hid hb1
  clear k1 hb1
  go_wp2_with fail
  refine (sShrink_any f1 f1 f2 f2 f3 E3.out _).mono ?_
  rw [E1.out, E2.out]
  rintro e w2 ⟨rfl, k2⟩
  have hb2 : Below w.heap.size w w2 := bTrans HB1.out k2
  have r := HR.out.on k2
  have ra := r.cell 0
  have rb := r.cell 1
  have rc := r.cell 2
  have rd := r.cell 3
  have re := r.frozen 0
  have rf := r.frozen 1
  have rg := r.frozen 2
  have rh := r.frozen 3
  have rl := r.lt
  simp only [List.getElem?_toArray, List.getElem?_cons_zero, List.getElem?_cons_succ] at ra rb rc rd
  clear r k2 HR HB1
  go_wp2
  refine bodyPost_ret (v := .agg #[.int .i32 (-3932160), .int .i32 (-3932160), .int .i32 3932160, .int .i32 3932160]) (by simp [results, Tryz.results237, go_sem, ra, rb, rc, rd, rl]) rfl ⟨rfl, (by repeat (first | exact Below.refl _ _ | (with_reducible assumption) | apply bAlloc | apply below_drewN | apply Below.drew | (refine bSetG ?_ (by first | omega | (simp; omega)) _ _) | (refine bTrans ?_ (by with_reducible assumption))))⟩
theorem gpressed_any (n : Nat) (b : Nat) (hn : n < 256) (hb : b < 256) (w : World) : Calls Tryz.prog 190 #[.int .u8 n, .int .u8 b] w fun e w' => e = .returned (.bool (n &&& b != 0)) ∧ w = w' := by
  have hbits : bits .and .u8 (n : Int) (b : Int) = ((n &&& b : Nat) : Int) := (bits_nat .u8 8 (by decide) (fun m h0 h1 => by rw [IntKind.wrap_u8]; omega) n b (by simpa using hn) (by simpa using hb)).1
  obtain ⟨q, hq⟩ : ∃ q, n &&& b = q := ⟨_, rfl⟩
  rw [hq] at hbits ⊢
  clear hq
  go_enter Tryz.func190, Tryz.ntmps190
  go_wp2
  go_ret
  refine ⟨ret_bool ?_, rfl⟩
  first
    | rfl
    | (rw [Bool.eq_iff_iff, bne_iff_ne, bne_iff_ne]; omega)
def hdX (a l : Int) : Int := fmul (sinZ (a + 16384)) l
def hdY (a l : Int) : Int := fmul (sinZ a) l
theorem hdX_bd (a l : Int) : F32 (hdX a l) := fmul_bd _ _
theorem hdY_bd (a l : Int) : F32 (hdY a l) := fmul_bd _ _
set_option maxHeartbeats 1000000 in
theorem gheading_any (a l : Int) (hl : F32 l) (w : World) : Calls Tryz.prog 240 #[.int .i64 a, .int .i32 l] w fun e w' => e = .returned (.agg #[.int .i32 (hdX a l), .int .i32 (hdY a l)]) ∧ Below w.heap.size w w' := by
  have h1 := Lib.hid (show fmul (sinZ (a + 16384)) l = hdX a l from rfl)
  have h2 := Lib.hid (show fmul (sinZ a) l = hdY a l from rfl)
  have HL := Lib.hid hl
  clear hl
  go_enter Tryz.func240, Tryz.ntmps240
  go_wp2_with fail
  refine (tCos_any _ _).mono ?_
  rintro e w1 ⟨rfl, rfl⟩
  go_wp2_with fail
  refine (tSin_any _ _).mono ?_
  rintro e w1 ⟨rfl, rfl⟩
  go_wp2_with fail
  refine (sScale_any (sinZ_f32 _) (sinZ_f32 _) HL.out _).mono ?_
  rw [h1.out, h2.out]
  rintro e w1 ⟨rfl, k1⟩
  have r := (Blk.on (g := w.heap.size) (E := 33) (cs := #[.int .i32 0, .int .i32 0]) (by repeat (first | ((with_reducible refine blk_new_at ?_); first | rfl | (simp; done)) | (with_reducible refine Blk.alloc ?_ _) | (with_reducible refine Blk.drew ?_))) k1)
  have ra := r.cell 0
  have rb := r.cell 1
  have rc := r.frozen 0
  have rd := r.frozen 1
  have rl := r.lt
  simp only [List.getElem?_toArray, List.getElem?_cons_zero, List.getElem?_cons_succ] at ra rb
  clear r
  go_wp2
  refine bodyPost_ret (v := .agg #[.int .i32 (hdX a l), .int .i32 (hdY a l)]) (by simp [results, Tryz.results240, go_sem, ra, rb]) rfl ⟨rfl, (by repeat (first | exact Below.refl _ _ | (with_reducible assumption) | apply bAlloc | apply below_drewN | apply Below.drew | (refine bSetG ?_ (by first | omega | (simp; omega)) _ _) | (refine bTrans ?_ (by with_reducible assumption))))⟩

/-! ### an event told -/
theorem own_caps {α : Type} {w : World} {base : Nat} {E : TypeId} {m : Nat} {f : α → List Value} {l : List α} {g n c : Nat} (h : OwnL w base E m (.slice (some ⟨g, 0, none⟩) n c) f l) : n ≤ c ∧ c ≤ 9223372036854775807 := by
  have hl := h.len
  rcases h.2 with ⟨e, -⟩ | ⟨g', cap, cur, hv, hb, hg, hn, hc, hs, ht⟩
  · cases e
  · simp only [Value.slice.injEq, Option.some.injEq, Addr.mk.injEq, and_true] at hv
    obtain ⟨rfl, -, rfl⟩ := hv
    unfold maxLen at hc
    omega
theorem evOk_ord {x : Ev} {F o : Int} (h : evOk (x.at_ F 0) = true) (ho : 0 ≤ o ∧ o ≤ 15) : evOk (x.at_ F o) = true := by
  unfold evOk keyOk at h ⊢
  simp only [Ev.at_, Ev.key, Bool.and_eq_true] at h ⊢
  exact ⟨⟨⟨⟨⟨⟨⟨⟨h.1.1.1.1.1.1.1.1, h.1.1.1.1.1.1.1.2⟩, h.1.1.1.1.1.1.2⟩, inB_ok ho⟩, h.1.1.1.1.2⟩, h.1.1.1.2⟩, h.1.1.2⟩, h.1.2⟩, h.2⟩
section
variable {g gp base : Nat} {S : Nat → Int} {F : Int} {L : List Ev} (em kd au ga pr ln x : Int) {w : World}
set_option maxHeartbeats 2000000 in
theorem gtell_any (h : Stg w g gp base S F L) (hx : F32 x) (hok : evOk ((evT em kd au ga pr ln x).at_ F 0) = true) (hn : L.length < 64) (hr : cntE L em kd ≤ 15) :
    Calls Tryz.prog 193 #[.pointer (some ⟨g, 0, none⟩), .int .i64 em, .int .i64 kd, .int .i64 au, .int .i64 ga, .int .i64 pr, .int .i64 ln, .int .i32 x] w fun e w' => e = .returned (.tuple #[]) ∧ Stg w' g gp base S F (addE F L (evT em kd au ga pr ln x)) ∧ Below base w w' := by
  obtain ⟨A, n, c, hP, hA, hnc, hcm⟩ := h.pg
  have hln := hA.len
  have HADD : ∀ W, W = w → Calls Tryz.prog 246 #[.pointer (some ⟨gp, 0, none⟩), (evT em kd au ga pr ln x).val] W fun e w' => (∃ r, e = .returned r) ∧ Stg w' g gp base S F (addE F L (evT em kd au ga pr ln x)) ∧ Below base w w' := by
    rintro W rfl
    refine (page_add gp F A n c L (evT em kd au ga pr ln x) base W h.bw h.bp hP hA (by omega) hnc hcm h.ok hok hr).mono ?_
    rintro e w' ⟨g', c', rfl, h1, h2, h3, h4, h5⟩
    have hgo : (Value.slice A n c).ownBlock ≠ some g := Blk.apart h.st hA (by decide)
    refine ⟨⟨_, rfl⟩, ⟨(h4 g (Blk.lt h.st) h.ne hgo).trans h.st, ⟨_, _, c', h1, h2, ?_, ?_⟩, h.ok.add _ ?_, h.bg, h.bp, Nat.le_trans h.bw h3.size⟩, h3⟩
    · exact (own_caps h2).1
    · exact (own_caps h2).2
    · exact evOk_ord hok ⟨by omega, by show ((cntE L em kd : Nat) : Int) ≤ 15; omega⟩
  have c60 := h.st.page
  have hlt := h.lt
  obtain ⟨x1, x2⟩ := hx
  obtain ⟨q, hq⟩ : ∃ q, x * 32768 / 4194304 = q := ⟨_, rfl⟩
  have hpan : panZ em x = if 0 < em then max (-32768) (min q 32768) else 0 := by unfold panZ; rw [hq]
  obtain ⟨X, hX⟩ : ∃ X, evT em kd au ga pr ln x = X := ⟨_, rfl⟩
  rw [hX] at HADD ⊢
  have hXv : X.val = .agg #[.int .i64 0, .int .i64 em, .int .i64 kd, .int .i64 0, .int .i64 au, .int .i64 ga, .int .i64 (panZ em x), .int .i64 pr, .int .i64 ln] := by rw [← hX]; rfl
  rw [hXv, hpan] at HADD
  clear h hP hA hnc hcm hln hok hn hr hX hXv hpan
  by_cases h0 : 0 < em
  · rw [if_pos h0] at HADD
    have HA2 := Lib.hid HADD
    clear HADD
    go_enter Tryz.func193, Tryz.ntmps193
    go_wp2_with fail
    refine (HA2.out w rfl).mono ?_
    rintro e w2 ⟨⟨r, rfl⟩, hs, hb⟩
    have HSS := Lib.hid hs
    have HBB := Lib.hid hb
    clear hs hb
    go_wp2
    go_end0
    exact ⟨rfl, HSS.out, HBB.out⟩
  · rw [if_neg h0] at HADD
    have h1 : em ≤ 0 := by omega
    have HA2 := Lib.hid HADD
    clear h0 HADD
    go_enter Tryz.func193, Tryz.ntmps193
    go_wp2_with fail
    refine (HA2.out w rfl).mono ?_
    rintro e w2 ⟨⟨r, rfl⟩, hs, hb⟩
    have HSS := Lib.hid hs
    have HBB := Lib.hid hb
    clear hs hb
    go_wp2
    go_end0
    exact ⟨rfl, HSS.out, HBB.out⟩
end
end Go.Proofs.YtibeihcpehikoaaGreat
