/-
  The walks beneath: RdR, RdI, RdO, RdS.
-/
import Derived.Deep.Cut
import Derived.Test.YtibeihcpehikoaaGreatNt1
import Derived.Test.YtibeihcpehikoaaGreatNr5
import Derived.Test.YtibeihcpehikoaaGreatNr37
import Derived.Test.YtibeihcpehikoaaGreatNs1
namespace Go.Proofs.YtibeihcpehikoaaGreat
section
open Go.RowKit
set_option maxRecDepth 100000
set_option linter.unusedSimpArgs false
/-- The reader's block. -/
def RdB (w : World) (g : Nat) (s : ByteArray) (bad : Bool) : Prop := Blk w g 174 #[.string s, .bool bad]
theorem RdB.str {w : World} {g : Nat} {s : ByteArray} {bad : Bool} (h : RdB w g s bad) (t : ByteArray) : RdB (w.setCell ⟨g, 0, none⟩ (.string t)) g t bad := Blk.set h 0 (.string t)
theorem RdB.off {w : World} {g : Nat} {s : ByteArray} {bad : Bool} (h : RdB w g s bad) (b : Bool) : RdB (w.setCell ⟨g, 1, none⟩ (.bool b)) g s b := Blk.set h 1 (.bool b)
theorem RdB.on {w w' : World} {g : Nat} {s : ByteArray} {bad : Bool} (h : RdB w g s bad) (hb : Below w.heap.size w w') : RdB w' g s bad := Blk.on h hb
theorem RdB.lt {w : World} {g : Nat} {s : ByteArray} {bad : Bool} (h : RdB w g s bad) : g < w.heap.size := Blk.lt h
set_option maxHeartbeats 1000000 in
theorem take_ok (g : Nat) (s : ByteArray) (n : Nat) (w : World) (h : RdB w g s false) (hn : n ≤ s.size) :
    Calls Tryz.prog 99 #[.pointer (some ⟨g, 0, none⟩), .int .i64 n] w fun e w' => e = .returned (.string (s.extract 0 n)) ∧ RdB w' g (s.extract n s.size) false ∧ w.grownBy w' (some g) := by
  have H := Lib.hid h
  have ha := Blk.cell H.out 0; have hb := Blk.cell H.out 1; have hl := Blk.lt H.out; have hf := Blk.frozen H.out 0; have hg := Blk.frozen H.out 1; simp only [List.getElem?_toArray, List.getElem?_cons_zero, List.getElem?_cons_succ] at ha hb
  clear h
  go_enter Tryz.func99, Tryz.ntmps99
  go_wp2
  go_ret
  exact ⟨rfl, H.out.str _, oSet (oRefl _ _) _ _⟩
set_option maxHeartbeats 1000000 in
theorem take_no (g : Nat) (s : ByteArray) (bad : Bool) (n : Nat) (w : World) (h : RdB w g s bad) (hn : bad = true ∨ s.size < n) :
    Calls Tryz.prog 99 #[.pointer (some ⟨g, 0, none⟩), .int .i64 n] w fun e w' => e = .returned (.string ⟨#[]⟩) ∧ RdB w' g s true ∧ w.grownBy w' (some g) := by
  have H := Lib.hid h
  have ha := Blk.cell H.out 0; have hb := Blk.cell H.out 1; have hl := Blk.lt H.out; have hf := Blk.frozen H.out 0; have hg := Blk.frozen H.out 1; simp only [List.getElem?_toArray, List.getElem?_cons_zero, List.getElem?_cons_succ] at ha hb
  clear h
  cases bad
  · have hlt : s.size < n := by
      rcases hn with h | h
      · cases h
      · exact h
    clear hn
    go_enter Tryz.func99, Tryz.ntmps99
    go_wp2
    go_ret
    exact ⟨rfl, H.out.off _, oSet (oRefl _ _) _ _⟩
  · clear hn
    go_enter Tryz.func99, Tryz.ntmps99
    go_wp2
    go_ret
    exact ⟨rfl, H.out.off _, oSet (oRefl _ _) _ _⟩
/-- What a number is read as. -/
def nrOk (s : ByteArray) (bad : Bool) (most : Nat) : Prop := bad = false ∧ (rdN s.data.toList).2.2 = 0 ∧ (rdN s.data.toList).1 ≤ most
set_option maxHeartbeats 2000000 in
theorem number_ok (g : Nat) (s : ByteArray) (bad : Bool) (most : Nat) (w : World) (h : RdB w g s bad) (hk : nrOk s bad most) (hs : s.size ≤ 1000000) (hm : most ≤ 4294967295) :
    Calls Tryz.prog 100 #[.pointer (some ⟨g, 0, none⟩), .int .u64 most] w fun e w' => e = .returned (.int .i64 ((rdN s.data.toList).1 : Nat)) ∧ RdB w' g (s.extract (rdN s.data.toList).2.1 s.size) false ∧ w.grownBy w' (some g) := by
  obtain ⟨rfl, hk2, hk3⟩ := hk
  have HR := Lib.hid (rd_any s w (by omega))
  unfold RdR at HR
  rw [hk2] at HR
  obtain ⟨hf1, hf2, -, -⟩ := rdN_fits s.data.toList
  rw [ba_len] at hf2
  have HT := Lib.hid (take_ok g s (rdN s.data.toList).2.1 w h hf2)
  obtain ⟨v, hv⟩ : ∃ v, (rdN s.data.toList).1 = v := ⟨_, rfl⟩
  obtain ⟨z, hz⟩ : ∃ z, (rdN s.data.toList).2.1 = z := ⟨_, rfl⟩
  rw [hv] at HR hf1 hk3 ⊢
  rw [hz] at HR HT hf2 ⊢
  clear hk2 hv hz
  have H := Lib.hid h
  have ha := Blk.cell H.out 0; have hb := Blk.cell H.out 1; have hl := Blk.lt H.out; have hf := Blk.frozen H.out 0; have hg := Blk.frozen H.out 1; simp only [List.getElem?_toArray, List.getElem?_cons_zero, List.getElem?_cons_succ] at ha hb
  clear h
  go_enter Tryz.func100, Tryz.ntmps100
  go_wp2_with (first
    | (go_at_call 167; refine HR.out.mono ?_; rintro e w1 ⟨rfl, rfl⟩)
    | (go_at_call 99; refine HT.out.mono ?_; rintro e w2 ⟨rfl, hB2, hg2⟩; have HB2 := Lib.hid hB2; have HG2 := Lib.hid hg2; clear hB2 hg2))
  go_ret
  exact ⟨by go_num, HB2.out, HG2.out⟩
set_option maxHeartbeats 2000000 in
theorem number_no (g : Nat) (s : ByteArray) (bad : Bool) (most : Nat) (w : World) (h : RdB w g s bad) (hk : ¬ nrOk s bad most) (hs : s.size ≤ 1000000) :
    Calls Tryz.prog 100 #[.pointer (some ⟨g, 0, none⟩), .int .u64 most] w fun e w' => e = .returned (.int .i64 0) ∧ RdB w' g s true ∧ w.grownBy w' (some g) := by
  have HR := Lib.hid (rd_any s w (by omega))
  unfold RdR at HR
  unfold nrOk at hk
  obtain ⟨hf1, hf2, -, -⟩ := rdN_fits s.data.toList
  rw [ba_len] at hf2
  obtain ⟨v, hv⟩ : ∃ v, (rdN s.data.toList).1 = v := ⟨_, rfl⟩
  obtain ⟨z, hz⟩ : ∃ z, (rdN s.data.toList).2.1 = z := ⟨_, rfl⟩
  obtain ⟨er, her⟩ : ∃ er, (rdN s.data.toList).2.2 = er := ⟨_, rfl⟩
  rw [hv] at HR hf1 hk
  rw [hz] at HR hf2
  rw [her] at HR hk
  clear hv hz her
  have H := Lib.hid h
  have ha := Blk.cell H.out 0; have hb := Blk.cell H.out 1; have hl := Blk.lt H.out; have hf := Blk.frozen H.out 0; have hg := Blk.frozen H.out 1; simp only [List.getElem?_toArray, List.getElem?_cons_zero, List.getElem?_cons_succ] at ha hb
  clear h
  cases bad
  · by_cases h1 : er = 0
    · subst h1
      have h2 : most < v := by
        rcases Nat.lt_or_ge most v with h | h
        · exact h
        · exact absurd ⟨rfl, rfl, h⟩ hk
      clear hk
      go_enter Tryz.func100, Tryz.ntmps100
      go_wp2_with (first
        | (go_at_call 167; refine HR.out.mono ?_; rintro e w1 ⟨rfl, rfl⟩))
      go_ret
      exact ⟨rfl, H.out.off _, oSet (oRefl _ _) _ _⟩
    · have q1 : (er != 0) = true := by simpa using h1
      clear hk h1
      go_enter Tryz.func100, Tryz.ntmps100
      go_wp2_with (first
        | (go_at_call 167; refine HR.out.mono ?_; rintro e w1 ⟨rfl, rfl⟩))
      go_ret
      exact ⟨rfl, H.out.off _, oSet (oRefl _ _) _ _⟩
  · clear hk
    go_enter Tryz.func100, Tryz.ntmps100
    go_wp2_with (first
      | (go_at_call 167; refine HR.out.mono ?_; rintro e w1 ⟨rfl, rfl⟩))
    go_ret
    exact ⟨rfl, H.out.off _, oSet (oRefl _ _) _ _⟩
end
section
open Go.RowKit
set_option maxRecDepth 100000
set_option linter.unusedSimpArgs false
def slN : Value → Nat
  | .slice _ n _ => n
  | _ => 0
theorem own_turn {α : Type} {w w' : World} {base : Nat} {E : TypeId} {m : Nat} {v : Value} {f : α → List Value} {l : List α} {g : Nat} (h : OwnL w base E m v f l) (hg : w.grownBy w' (some g)) (hb : g < base) : OwnL w' base E m v f l :=
  h.kept hg (by
    cases hv : v.ownBlock with
    | none => exact .inl rfl
    | some k =>
      have := h.base_le k hv
      exact .inr (fun e => by injection e with e; omega))
theorem ba_get? (s : ByteArray) (j : Nat) (h : j < s.size) : s.data.toList[j]? = some s[j] := by
  rw [← bytes_get s j h]
  exact List.getElem?_eq_getElem (l := s.data.toList) h
theorem first_of (R : ByteArray) (h1 : 1 ≤ R.size) (hh : 0 < (R.extract 0 1).size) : ((R.extract 0 1)[0]).toNat = R[0].toNat := by
  have a := ba_get? (R.extract 0 1) 0 hh
  rw [extract_take, List.getElem?_take, if_pos (by decide), ba_get? R 0 h1] at a
  rw [Option.some.inj a]
/-- The bytes stand for these inputs, and what is behind them. -/
def Stands (s : ByteArray) (bad : Bool) (n : Nat) (L : List Nat) (rest : List UInt8) : Prop := bad = false ∧ L.length = n ∧ (∀ z ∈ L, z < 256) ∧ s.data.toList = insB L ++ rest
/-- So far. -/
def StandsAt (s : ByteArray) (bad0 : Bool) (n : Nat) (l : List Nat) (R : ByteArray) (bad : Bool) : Prop := ∀ (L : List Nat) (rest : List UInt8), Stands s bad0 n L rest → bad = false ∧ ∃ r, L = l ++ r ∧ R.data.toList = insB r ++ rest
theorem StandsAt.start {s : ByteArray} {bad : Bool} {n : Nat} : StandsAt s bad n [] s bad := fun L _ h => ⟨h.1, L, rfl, h.2.2.2⟩
/-- What comes next, if anything stands. -/
theorem StandsAt.next {s R : ByteArray} {bad0 : Bool} {n : Nat} {l L : List Nat} {rest : List UInt8} (h : StandsAt s bad0 n l R false) (hl : l.length < n) (hn : n ≤ 20000) (hL : Stands s bad0 n L rest) :
    ∃ x r, L = l ++ List.replicate (headN x r + 1) x ++ r.drop (headN x r) ∧ x < 256 ∧ headN x r + 1 ≤ n - l.length ∧ 1 ≤ R.size ∧ R.data.toList = UInt8.ofNat x :: (numB (headN x r + 1) ++ (insB (r.drop (headN x r)) ++ rest)) ∧
      rdN (R.extract 1 R.size).data.toList = (headN x r + 1, (numB (headN x r + 1)).length, 0) ∧ ((R.extract 1 R.size).extract (numB (headN x r + 1)).length (R.extract 1 R.size).size).data.toList = insB (r.drop (headN x r)) ++ rest := by
  obtain ⟨-, r0, e1, e2⟩ := h L rest hL
  cases r0 with
  | nil =>
    have h1 := hL.2.1
    rw [e1] at h1
    simp at h1
    omega
  | cons x r =>
    have h1 := hL.2.1
    rw [e1, List.length_append, List.length_cons] at h1
    have h2 := headN_le x r
    have e3 : R.data.toList = UInt8.ofNat x :: (numB (headN x r + 1) ++ (insB (r.drop (headN x r)) ++ rest)) := by
      rw [e2, insB_cons, List.cons_append, List.append_assoc]
    have e4 : (R.extract 1 R.size).data.toList = numB (headN x r + 1) ++ (insB (r.drop (headN x r)) ++ rest) := by
      rw [extract_drop, e3]; rfl
    refine ⟨x, r, ?_, hL.2.2.1 x (by rw [e1]; simp), by omega, ?_, e3, ?_, ?_⟩
    · rw [List.append_assoc, ← head_split]; exact e1
    · rw [← ba_len, e3]; simp
    · rw [e4]; exact rdN_numB _ (by omega)
    · rw [extract_drop, e4, List.drop_left]
theorem StandsAt.no {s R : ByteArray} {bad0 : Bool} {n : Nat} {l : List Nat} (h : StandsAt s bad0 n l R false) (hl : l.length < n) (hn : n ≤ 20000)
    (hx : R.size < 1 ∨ ¬ nrOk (R.extract 1 R.size) false (n - l.length) ∨ (rdN (R.extract 1 R.size).data.toList).1 = 0) (L : List Nat) (rest : List UInt8) : ¬ Stands s bad0 n L rest := fun hL => by
  obtain ⟨x, r, h1, h2, h3, h4, h5, h6, h7⟩ := h.next hl hn hL
  rcases hx with hx | hx | hx
  · omega
  · exact hx ⟨rfl, by rw [h6], by rw [h6]; exact h3⟩
  · rw [h6] at hx
    simp at hx
theorem StandsAt.more {s R : ByteArray} {bad0 : Bool} {n : Nat} {l : List Nat} (h : StandsAt s bad0 n l R false) (hl : l.length < n) (hn : n ≤ 20000) {k : Nat} {c : Nat} (hk : (rdN (R.extract 1 R.size).data.toList).1 = k) (hs : 0 < R.size) (hc : R[0].toNat = c) :
    StandsAt s bad0 n (l ++ List.replicate k c) ((R.extract 1 R.size).extract (rdN (R.extract 1 R.size).data.toList).2.1 (R.extract 1 R.size).size) false := fun L rest hL => by
  obtain ⟨x, r, h1, h2, h3, h4, h5, h6, h7⟩ := h.next hl hn hL
  rw [h6] at hk ⊢
  have hx : c = x := by
    rw [← hc, ← bytes_get R 0 hs]
    have : R.data.toList[0] = UInt8.ofNat x := by
      have h8 : R.data.toList[0]? = some (UInt8.ofNat x) := by rw [h5]; rfl
      exact (List.getElem?_eq_some_iff.1 h8).2
    rw [this, u8_nat h2]
  subst hx
  have hk : headN c r + 1 = k := hk
  rw [hk] at h1
  exact ⟨rfl, r.drop (headN c r), h1, h7⟩
/-- What inputs are read. -/
def InpQ (w : World) (g : Nat) (s : ByteArray) (bad0 : Bool) (n : Nat) (e : Ending) (w' : World) : Prop :=
  ∃ (A : Option Addr) (c : Nat) (l : List Nat) (R : ByteArray) (bad : Bool), e = .returned (.slice A l.length c) ∧ OwnL w' w.heap.size 5 1 (.slice A l.length c) btC l ∧ l.length ≤ n ∧ (∀ z ∈ l, z < 256) ∧ RdB w' g R bad ∧ w.grownBy w' (some g) ∧ R.size ≤ s.size ∧
    (∀ (L : List Nat) (rest : List UInt8), Stands s bad0 n L rest → l = L ∧ R.data.toList = rest ∧ bad = false)
set_option maxHeartbeats 4000000 in
theorem rinp_any (g : Nat) (s : ByteArray) (bad0 : Bool) (n : Nat) (w : World) (h : RdB w g s bad0) (hs : s.size ≤ 1000000) (hn : n ≤ 20000) :
    Calls Tryz.prog 101 #[.pointer (some ⟨g, 0, none⟩), .int .i64 n] w fun e w' => InpQ w g s bad0 n e w' := by
  obtain ⟨ib, hib, hbz, hb1, hb2⟩ := info_parts Tryz.infoU8
  have hgl := h.lt
  have H := Lib.hid h
  clear h
  go_enter Tryz.func101, Tryz.ntmps101
  go_wp2
  go_loopw [5] (fun v wr => ∃ (l : List Nat) (R : ByteArray) (bad : Bool) (A : Option Addr) (c : Nat), v = .slice A l.length c ∧ Hid (OwnL wr w.heap.size 5 1 (.slice A l.length c) btC l) ∧ l.length ≤ n ∧ Hid (∀ z ∈ l, z < 256) ∧ Hid (RdB wr g R bad) ∧ Hid (w.grownBy wr (some g)) ∧ R.size ≤ s.size ∧ Hid (StandsAt s bad0 n l R bad)) (fun v _ => n - slN v)
  case atStart => exact ⟨[], s, bad0, none, 0, rfl, Lib.hid OwnL.nil, Nat.zero_le _, Lib.hid (by simp), H, Lib.hid (oRefl _ _), Nat.le_refl _, Lib.hid StandsAt.start⟩
  case round =>
    obtain ⟨l, R, bad, A, c, rfl, HO, hl, HZ, HB, HG, hR, HS⟩ := hrel
    clear H
    cases bad
    · by_cases hlt : l.length < n
      · have hR6 : R.size ≤ 1000000 := by omega
        have hml : n - l.length ≤ 4294967295 := by omega
        have hnl : (n : Int) - (l.length : Int) = ((n - l.length : Nat) : Int) := by omega
        have ra := Blk.cell HB.out 0; have rb := Blk.cell HB.out 1; have rl := Blk.lt HB.out; have rf := Blk.frozen HB.out 0; have rg := Blk.frozen HB.out 1; simp only [List.getElem?_toArray, List.getElem?_cons_zero, List.getElem?_cons_succ] at ra rb
        by_cases h1 : 1 ≤ R.size
        · have HT := Lib.hid (take_ok g R 1 wr HB.out h1)
          have hR1 : (R.extract 1 R.size).size = R.size - 1 := by simp
          have HXX : Hid (∀ (hh : 0 < (R.extract 0 1).size), ((R.extract 0 1)[0]).toNat = R[0].toNat) := Lib.hid (fun hh => first_of R h1 hh)
          have HNO := Lib.hid (fun hx => HS.out.no hlt hn hx)
          have HMO := Lib.hid (fun k c hk hc => HS.out.more (k := k) (c := c) hlt hn hk h1 hc)
          have hvz : (R.extract 0 1).size = 1 := by simp; omega
          obtain ⟨R1, eR1⟩ : ∃ R1, R.extract 1 R.size = R1 := ⟨_, rfl⟩
          rw [eR1] at HT hR1 HNO HMO
          obtain ⟨V, hV⟩ : ∃ V, R.extract 0 1 = V := ⟨_, rfl⟩
          rw [hV] at HT HXX hvz
          clear eR1 hV HS
          by_cases hok : nrOk R1 false (n - l.length)
          · have HNM := Lib.hid (fun V' (hB : RdB V' g R1 false) => number_ok g R1 false (n - l.length) V' hB hok (by omega) hml)
            have hkm : (rdN R1.data.toList).1 ≤ n - l.length := hok.2.2
            obtain ⟨k, hk⟩ : ∃ k, (rdN R1.data.toList).1 = k := ⟨_, rfl⟩
            rw [hk] at HNM hkm HNO HMO
            have hR2 : (R1.extract (rdN R1.data.toList).2.1 R1.size).size ≤ R1.size := by simp
            obtain ⟨R2, eR2⟩ : ∃ R2, R1.extract (rdN R1.data.toList).2.1 R1.size = R2 := ⟨_, rfl⟩
            rw [eR2] at HNM hR2 HMO
            clear hk eR2 hok
            by_cases hk0 : k = 0
            · subst hk0
              have HNS := Lib.hid (HNO.out (.inr (.inr rfl)))
              clear HNO HMO
              go_wp2_with (first
                | (go_at_call 99; refine HT.out.mono ?_; rintro e w1 ⟨rfl, hB1, hg1⟩; have HB1 := Lib.hid hB1; have HG1 := Lib.hid (oTrans HG.out hg1); clear hB1 hg1)
                | (go_at_call 100; refine (HNM.out _ HB1.out).mono ?_; rintro e w2 ⟨rfl, hB2, hg2⟩; have HB2 := Lib.hid hB2; have HG2 := Lib.hid (oTrans HG1.out hg2); have qa := Blk.cell HB2.out 0; have qb := Blk.cell HB2.out 1; have ql := Blk.lt HB2.out; have qf := Blk.frozen HB2.out 0; have qg := Blk.frozen HB2.out 1; simp only [List.getElem?_toArray, List.getElem?_cons_zero, List.getElem?_cons_succ] at qa qb; clear hB2 hg2 ra rb rl rf rg))
              go_ret
              exact ⟨none, 0, [], R2, true, rfl, OwnL.nil, Nat.zero_le _, by simp, HB2.out.off _, oSet HG2.out _ _, by omega, fun L rest h => absurd h (HNS.out L rest)⟩
            · have hvx := HXX.out (by omega)
              have hv0 : 0 < V.size := by omega
              obtain ⟨c0, hc0⟩ : ∃ c0, V[0].toNat = c0 := ⟨_, rfl⟩
              have hc256 : c0 < 256 := by have := UInt8.toNat_lt V[0]; omega
              have HMM := Lib.hid (HMO.out k c0 rfl (by rw [← hvx]; exact hc0))
              clear HNO HMO hvx HXX
              go_upto_region 8 with (first
                | (go_at_call 99; refine HT.out.mono ?_; rintro e w1 ⟨rfl, hB1, hg1⟩; have HB1 := Lib.hid hB1; have HG1 := Lib.hid (oTrans HG.out hg1); have HO1 := Lib.hid (own_turn HO.out hg1 hgl); clear hB1 hg1)
                | (go_at_call 100; refine (HNM.out _ HB1.out).mono ?_; rintro e w2 ⟨rfl, hB2, hg2⟩; have HB2 := Lib.hid hB2; have HG2 := Lib.hid (oTrans HG1.out hg2); have HO2 := Lib.hid (own_turn HO1.out hg2 hgl); have qa := Blk.cell HB2.out 0; have qb := Blk.cell HB2.out 1; have ql := Blk.lt HB2.out; have qf := Blk.frozen HB2.out 0; have qg := Blk.frozen HB2.out 1; simp only [List.getElem?_toArray, List.getElem?_cons_zero, List.getElem?_cons_succ] at qa qb; clear hB2 hg2 ra rb rl rf rg))
              clear HB1 HG1 HO1 HT HNM HB HG HO
              go_wp2
              go_loopw [5, 40] (fun v i wq => ∃ (j : Nat) (A : Option Addr) (c : Nat), j ≤ k ∧ i = .int .i64 j ∧ v = .slice A (l.length + j) c ∧ Hid (OwnL wq w.heap.size 5 1 (.slice A (l.length + j) c) btC (l ++ List.replicate j c0)) ∧ Hid (Below w.heap.size w2 wq)) (fun _ i _ => k - (intOf i).toNat)
              case atStart => exact ⟨0, A, c, Nat.zero_le _, rfl, rfl, Lib.hid (by simpa using HO2.out), Lib.hid (Below.refl _ _)⟩
              case round =>
                obtain ⟨j, A', c', hj, rfl, rfl, HOq, HBq⟩ := hrel
                have hwq := HBq.out.size
                have hw2 := HG2.out.size
                by_cases hjk : j < k
                · go_wp2_with (at_builtin; refine wpList_append_own _ rfl (.tmp 42) (.tmp 45) 25 rfl w.heap.size 5 ib _ 1 1 Tryz.underlying25 hib hbz hb1 hb2 rfl (by decide) (.slice A' (l.length + j) c') (l.length + j) ((l ++ List.replicate j c0).flatMap btC) rfl ?c0 ⟨wr.heap.size, 0, none⟩ 1 1 [.int .u8 c0] rfl rfl ?c1 ?c2 ?c3 ?c4 ?c5 ?_)
                  case c0 =>
                    have h := World.ownsRow.alloc HOq.out (.cells #[.int .u8 (c0 : Nat)] 5)
                    rwa [List.length_append, List.length_replicate] at h
                  case c1 => exact cell_new_row wr #[.int .u8 c0] 5 _ rfl
                  case c2 => simp [Value.oneCell']
                  case c3 => simp [maxLen]; omega
                  case c4 => omega
                  case c5 => simp; omega
                  intro v' w' hown' hgr hnil
                  have hb3 : Below w.heap.size w2 w' := Below.grown (HBq.out.alloc (by omega) _) hgr (by simp; omega) HOq.out.base_le
                  have hw2 : OwnL w' w.heap.size 5 1 v' btC (l ++ List.replicate (j + 1) c0) := by
                    unfold OwnL
                    rw [List.replicate_succ', ← List.append_assoc, List.length_append, List.flatMap_append, List.length_append, List.length_replicate]
                    simpa [btC] using hown'
                  obtain ⟨A2, c2, hv2⟩ := hw2.shape
                  rw [List.length_append, List.length_replicate] at hv2
                  subst hv2
                  have HW3 := Lib.hid hw2
                  have HB3 := Lib.hid hb3
                  clear hown' hgr hnil hw2 hb3
                  go_wp2
                  go_roundw
                  case rel => exact ⟨j + 1, A2, c2, by omega, by go_num, rfl, HW3, HB3⟩
                  case measure => simp [intOf]; omega
                · obtain rfl : j = k := by omega
                  have HZ3 : Hid (∀ z ∈ l ++ List.replicate j c0, z < 256) := Lib.hid (fun z hz => by
                    rcases List.mem_append.1 hz with h | h
                    · exact HZ.out z h
                    · rw [(List.mem_replicate.1 h).2]; exact hc256)
                  have HB3 : Hid (RdB wr g R2 false) := Lib.hid (Blk.below HB2.out HBq.out hgl)
                  have HG3 : Hid (w.grownBy wr (some g)) := Lib.hid (oBelow HG2.out HBq.out (Nat.le_refl _))
                  clear HB2 HG2 HO2 HBq
                  go_wp2
                  go_roundw
                  case rel => exact ⟨l ++ List.replicate j c0, R2, false, A', c', by simp, Lib.hid (by simpa using HOq.out), by simp; omega, HZ3, HB3, HG3, by omega, HMM⟩
                  case measure => simp [slN]; omega
          · have HNS := Lib.hid (HNO.out (.inr (.inl hok)))
            have HNM := Lib.hid (fun V' (hB : RdB V' g R1 false) => number_no g R1 false (n - l.length) V' hB hok (by omega))
            clear HNO HMO hok HXX
            go_wp2_with (first
              | (go_at_call 99; refine HT.out.mono ?_; rintro e w1 ⟨rfl, hB1, hg1⟩; have HB1 := Lib.hid hB1; have HG1 := Lib.hid (oTrans HG.out hg1); clear hB1 hg1)
              | (go_at_call 100; refine (HNM.out _ HB1.out).mono ?_; rintro e w2 ⟨rfl, hB2, hg2⟩; have HB2 := Lib.hid hB2; have HG2 := Lib.hid (oTrans HG1.out hg2); have qa := Blk.cell HB2.out 0; have qb := Blk.cell HB2.out 1; have ql := Blk.lt HB2.out; have qf := Blk.frozen HB2.out 0; have qg := Blk.frozen HB2.out 1; simp only [List.getElem?_toArray, List.getElem?_cons_zero, List.getElem?_cons_succ] at qa qb; clear hB2 hg2 ra rb rl rf rg))
            go_ret
            exact ⟨none, 0, [], R1, true, rfl, OwnL.nil, Nat.zero_le _, by simp, HB2.out.off _, oSet HG2.out _ _, by omega, fun L rest h => absurd h (HNS.out L rest)⟩
        · have HNS := Lib.hid (HS.out.no hlt hn (.inl (by omega)))
          have HT := Lib.hid (take_no g R false 1 wr HB.out (.inr (by omega)))
          have HNM := Lib.hid (fun V' (hB : RdB V' g R true) => number_no g R true (n - l.length) V' hB (fun h => by cases h.1) (by omega))
          clear HS
          go_wp2_with (first
            | (go_at_call 99; refine HT.out.mono ?_; rintro e w1 ⟨rfl, hB1, hg1⟩; have HB1 := Lib.hid hB1; have HG1 := Lib.hid (oTrans HG.out hg1); clear hB1 hg1)
            | (go_at_call 100; refine (HNM.out _ HB1.out).mono ?_; rintro e w2 ⟨rfl, hB2, hg2⟩; have HB2 := Lib.hid hB2; have HG2 := Lib.hid (oTrans HG1.out hg2); have qa := Blk.cell HB2.out 0; have qb := Blk.cell HB2.out 1; have ql := Blk.lt HB2.out; have qf := Blk.frozen HB2.out 0; have qg := Blk.frozen HB2.out 1; simp only [List.getElem?_toArray, List.getElem?_cons_zero, List.getElem?_cons_succ] at qa qb; clear hB2 hg2 ra rb rl rf rg))
          go_ret
          exact ⟨none, 0, [], R, true, rfl, OwnL.nil, Nat.zero_le _, by simp, HB2.out.off _, oSet HG2.out _ _, by omega, fun L rest h => absurd h (HNS.out L rest)⟩
      · have ra := Blk.cell HB.out 0; have rb := Blk.cell HB.out 1; have rl := Blk.lt HB.out; have rf := Blk.frozen HB.out 0; have rg := Blk.frozen HB.out 1; simp only [List.getElem?_toArray, List.getElem?_cons_zero, List.getElem?_cons_succ] at ra rb
        have HEN : Hid (∀ (L : List Nat) (rest : List UInt8), Stands s bad0 n L rest → l = L ∧ R.data.toList = rest) := Lib.hid (fun L rest hL => by
          obtain ⟨-, r, e1, e2⟩ := HS.out L rest hL
          have h1 := hL.2.1
          rw [e1, List.length_append] at h1
          obtain rfl : r = [] := List.eq_nil_of_length_eq_zero (by omega)
          exact ⟨by rw [e1]; simp, by rw [e2]; rfl⟩)
        clear HS
        go_wp2
        go_ret
        exact ⟨A, c, l, R, false, rfl, HO.out, hl, HZ.out, HB.out, HG.out, hR, fun L rest h => ⟨(HEN.out L rest h).1, (HEN.out L rest h).2, rfl⟩⟩
    · have ra := Blk.cell HB.out 0; have rb := Blk.cell HB.out 1; have rl := Blk.lt HB.out; have rf := Blk.frozen HB.out 0; have rg := Blk.frozen HB.out 1; simp only [List.getElem?_toArray, List.getElem?_cons_zero, List.getElem?_cons_succ] at ra rb
      have HEN : Hid (∀ (L : List Nat) (rest : List UInt8), ¬ Stands s bad0 n L rest) := Lib.hid (fun L rest hL => by cases (HS.out L rest hL).1)
      clear HS
      by_cases hlt : l.length < n
      all_goals
        go_wp2
        go_ret
        exact ⟨A, c, l, R, true, rfl, HO.out, hl, HZ.out, HB.out, HG.out, hR, fun L rest h => absurd h (HEN.out L rest)⟩
/-- Four bytes' number. -/
def wordV (l : List UInt8) : Nat := l.foldl (fun n c => n * 256 + c.toNat) 0
theorem wordV_lt : ∀ (l : List UInt8), wordV l < 256 ^ l.length := by
  intro l
  unfold wordV
  have H : ∀ (l : List UInt8) (n k : Nat), n < 256 ^ k → l.foldl (fun n c => n * 256 + c.toNat) n < 256 ^ (k + l.length) := by
    intro l
    induction l with
    | nil => intro n k h; exact h
    | cons c l ih =>
      intro n k h
      rw [List.foldl_cons, List.length_cons, show k + (l.length + 1) = k + 1 + l.length by omega]
      refine ih _ (k + 1) ?_
      have := UInt8.toNat_lt c
      rw [Nat.pow_succ]
      omega
  have := H l 0 0 (by decide)
  rwa [Nat.zero_add] at this
theorem wordV_be4 (m : Nat) (hm : m < 4294967296) : wordV (be4 m) = m := by
  unfold wordV be4
  simp only [List.foldl_cons, List.foldl_nil, u8_nat (Nat.mod_lt _ (by decide : 0 < 256))]
  omega
theorem wordV_take (l : List UInt8) (k : Nat) (h : k < l.length) : wordV (l.take (k + 1)) = wordV (l.take k) * 256 + l[k].toNat := by
  unfold wordV
  rw [List.take_succ_eq_append_getElem h, List.foldl_append]
  rfl
end
section
open Go.RowKit
set_option maxRecDepth 100000
set_option linter.unusedSimpArgs false
/-- A string's bytes, in a row of their own. -/
theorem conv_bytes (s : ByteArray) (W : World) : ∃ c wx, (convert 9 25 (.string s)).run Tryz.prog W = .ok (.slice (some ⟨W.heap.size, 0, none⟩) s.size c) wx ∧ Below W.heap.size W wx ∧ W.heap.size < wx.heap.size ∧ ∀ j (h : j < s.size), wx.cell? ⟨W.heap.size, j, none⟩ = some (.int .u8 (s[j].toNat : Nat)) := by
  refine ⟨_, _, run_bytes_of_string (P := Tryz.prog) W 9 25 5 s Tryz.underlying9 Tryz.underlying25 Tryz.underlying5, (Below.refl W.heap.size W).drew.alloc (Nat.le_refl _) _, ?_, fun j h => ?_⟩
  · rw [World.size_alloc]; exact Nat.lt_succ_self _
  · rw [cell_of_row _ _ j _ 5 _ (heap_new_at W.drew _ W.heap.size rfl)]
    unfold bytesRow
    rw [Array.getElem?_append_left (by simpa using h), Array.getElem?_map]
    have : s.data[j]? = some s[j] := by
      rw [Array.getElem?_eq_getElem h]; rfl
    rw [this]; rfl
theorem u32_orlow (a b : Int) (a0 : 0 ≤ a) (a1 : a < 16777216) (b0 : 0 ≤ b) (b1 : b < 256) : bits .or .u32 (a * 256) b = a * 256 + b :=
  bits_join .u32 32 (by decide) wraps_u32 8 _ _ (by omega) (by omega) (by omega) b0 (by omega) (by omega)
def WordQ (w : World) (g : Nat) (s : ByteArray) (bad : Bool) (e : Ending) (w' : World) : Prop :=
  ∃ (m : Nat) (R : ByteArray) (bad' : Bool), e = .returned (.int .u32 m) ∧ m < 4294967296 ∧ RdB w' g R bad' ∧ w.grownBy w' (some g) ∧
    (∀ (v : Nat) (rest : List UInt8), bad = false → v < 4294967296 → s.data.toList = be4 v ++ rest → m = v ∧ R.data.toList = rest ∧ bad' = false)
set_option maxHeartbeats 2000000 in
theorem rword_any (g : Nat) (s : ByteArray) (bad : Bool) (w : World) (h : RdB w g s bad) :
    Calls Tryz.prog 102 #[.pointer (some ⟨g, 0, none⟩)] w fun e w' => WordQ w g s bad e w' := by
  obtain ⟨V, R, bad', HT, hV, HQ⟩ : ∃ (V R : ByteArray) (bad' : Bool), Hid (Calls Tryz.prog 99 #[.pointer (some ⟨g, 0, none⟩), .int .i64 4] w fun e w' => e = .returned (.string V) ∧ RdB w' g R bad' ∧ w.grownBy w' (some g)) ∧ V.size ≤ 4 ∧
      Hid (∀ (v : Nat) (rest : List UInt8), bad = false → v < 4294967296 → s.data.toList = be4 v ++ rest → V.data.toList = be4 v ∧ R.data.toList = rest ∧ bad' = false) := by
    by_cases hc : bad = false ∧ 4 ≤ s.size
    · obtain ⟨rfl, h4⟩ := hc
      refine ⟨_, _, false, Lib.hid (take_ok g s 4 w h h4), by simp; omega, Lib.hid (fun v rest _ _ e => ⟨?_, ?_, rfl⟩)⟩
      · rw [extract_take, e, List.take_left' (be4_length v)]
      · rw [extract_drop, e, List.drop_left' (be4_length v)]
    · refine ⟨⟨#[]⟩, s, true, Lib.hid (take_no g s bad 4 w h (by
        cases bad
        · exact .inr (Nat.lt_of_not_le (fun h => hc ⟨rfl, h⟩))
        · exact .inl rfl)), by decide, Lib.hid (fun v rest hb _ e => ?_)⟩
      exfalso
      refine hc ⟨hb, ?_⟩
      rw [← ba_len, e, List.length_append, be4_length]; omega
  have hgl := h.lt
  clear h
  have HLT := Lib.hid (wordV_lt V.data.toList)
  have HW : Hid (∀ k (h : k < V.size), wordV (V.data.toList.take (k + 1)) = wordV (V.data.toList.take k) * 256 + V[k].toNat) := Lib.hid (fun k h => by
    rw [wordV_take _ k h, bytes_get V k h])
  have HWL : Hid (∀ k, k ≤ 4 → wordV (V.data.toList.take k) < 256 ^ k) := Lib.hid (fun k _ => by
    have h1 := wordV_lt (V.data.toList.take k)
    refine Nat.lt_of_lt_of_le h1 (Nat.pow_le_pow_right (by decide) ?_)
    rw [List.length_take]; omega)
  go_enter Tryz.func102, Tryz.ntmps102
  go_wp2_with (first | (go_at_call 99; refine HT.out.mono ?_; rintro e w1 ⟨rfl, hB1, hg1⟩; obtain ⟨c1, wx, hcv, hbx, hlx, hcx⟩ := conv_bytes V w1; have HB1 := Lib.hid (hB1.on hbx); have HG1 := Lib.hid (oBelow' hg1 hbx); have HCX := Lib.hid hcx; clear hB1 hg1 hcx hbx))
  go_loop [3, 10] (fun nv i => ∃ k : Nat, k ≤ V.size ∧ i = .int .i64 k ∧ nv = .int .u32 (wordV (V.data.toList.take k) : Nat)) (fun _ i => V.size - (intOf i).toNat)
  case atStart => exact ⟨0, Nat.zero_le _, rfl, rfl⟩
  case round =>
    obtain ⟨k, hk, rfl, rfl⟩ := hrel
    by_cases hlt : k < V.size
    · have hc := HCX.out k hlt
      have hw := HW.out k hlt
      have hl := HWL.out k (by omega)
      have hb := UInt8.toNat_lt V[k]
      have hl2 : wordV (V.data.toList.take k) < 16777216 := by
        refine Nat.lt_of_lt_of_le hl ?_
        exact Nat.pow_le_pow_right (n := 256) (j := 3) (by decide) (by omega)
      have HWK := Lib.hid hw
      obtain ⟨q, hq⟩ : ∃ q, wordV (V.data.toList.take k) = q := ⟨_, rfl⟩
      rw [hq] at hl2 HWK ⊢
      have hor := u32_orlow (q : Int) (V[k].toNat : Int) (by omega) (by omega) (by omega) (by omega)
      have hsh : IntKind.u32.wrap ((q : Int) * 256) = (q : Int) * 256 := by rw [IntKind.wrap_u32]; omega
      clear hq hl hw hcv
      go_wp2
      go_round
      case rel => exact ⟨k + 1, by omega, by go_num, by rw [HWK.out]; go_num⟩
      case measure => simp [intOf]; omega
    · obtain rfl : k = V.size := by omega
      have HT4 : Hid (V.data.toList.take V.size = V.data.toList) := Lib.hid (List.take_of_length_le (Nat.le_refl _))
      have hl := HWL.out V.size hV
      rw [HT4.out] at hl ⊢
      have hl2 : wordV V.data.toList < 4294967296 := Nat.lt_of_lt_of_le hl (Nat.pow_le_pow_right (n := 256) (j := 4) (by decide) hV)
      clear hl hcv
      go_wp2
      go_ret
      refine ⟨wordV V.data.toList, R, bad', rfl, hl2, HB1.out, HG1.out, fun v rest h1 h2 h3 => ?_⟩
      obtain ⟨q1, q2, q3⟩ := HQ.out v rest h1 h2 h3
      exact ⟨by rw [q1, wordV_be4 v h2], q2, q3⟩
end
section
open Go.RowKit
set_option maxRecDepth 100000
set_option linter.unusedSimpArgs false
/-- The error of what was sealed. -/
def openE (s : ByteArray) : Int := if s.size < 4 then 3 else if s.data.toList = sealB (s.data.toList.take (s.size - 4)) then 0 else 15
/-- What was sealed. -/
def openV (s : ByteArray) : ByteArray := if openE s = 0 then s.extract 0 (s.size - 4) else ⟨#[]⟩
theorem openV_ok {s : ByteArray} (h : openE s = 0) : openV s = s.extract 0 (s.size - 4) := if_pos h
theorem openV_no {s : ByteArray} (h : openE s ≠ 0) : openV s = ⟨#[]⟩ := if_neg h
theorem beq_yes {a b : ByteArray} (h : a = b) : (a.toList == b.toList) = true := by rw [h]; simp
theorem beq_no {a b : ByteArray} (h : a ≠ b) : (a.toList == b.toList) = false := by
  rw [beq_eq_false_iff_ne, ByteArray.toList_eq, ByteArray.toList_eq]
  exact fun e => h (data_ext _ _ e)
theorem seal_iff (s : ByteArray) (m : Nat) (hm : s.size = m + 4) : (s.extract m s.size).data.toList = be4 (sumN (s.extract 0 m).data.toList) ↔ s.data.toList = sealB (s.data.toList.take (s.size - 4)) := by
  rw [extract_drop, extract_take, show s.size - 4 = m by omega]
  constructor
  · intro h
    conv => lhs; rw [← List.take_append_drop m s.data.toList, h]
    rfl
  · intro h
    have h2 := congrArg (List.drop m) h
    rw [h2]
    unfold sealB
    rw [List.drop_left' (by rw [List.length_take, ba_len]; omega)]
set_option maxHeartbeats 2000000 in
theorem open_sum (s : ByteArray) (w : World) (hs : s.size ≤ 1000000) :
    Calls Tryz.prog 98 #[.string s] w fun e w' => e = .returned (.tuple #[.string (openV s), .int .i64 (openE s)]) ∧ Below w.heap.size w w' := by
  by_cases h4 : s.size < 4
  · have HE : Hid (openE s = 3) := Lib.hid (if_pos h4)
    go_enter Tryz.func98, Tryz.ntmps98
    go_wp2
    go_ret2
    exact ⟨by rw [openV_no (by rw [HE.out]; decide), HE.out]; rfl, (by repeat (first | exact Below.refl _ _ | (with_reducible assumption) | apply bAlloc | apply below_drewN | apply Below.drew))⟩
  · obtain ⟨m, hm⟩ : ∃ m, s.size = m + 4 := ⟨s.size - 4, by omega⟩
    have HI := Lib.hid (seal_iff s m hm)
    have hmi : (s.size : Int) - 4 = (m : Int) := by omega
    have HO := Lib.hid (fun V => of_any (s.extract 0 m) V (by simp; omega))
    have hlt := sumN_lt (s.extract 0 m).data.toList
    have HM4 : Hid (s.size - 4 = m) := Lib.hid (by omega)
    have HE : Hid (openE s = if s.data.toList = sealB (s.data.toList.take (s.size - 4)) then 0 else 15) := Lib.hid (if_neg h4)
    obtain ⟨q, hq⟩ : ∃ q, sumN (s.extract 0 m).data.toList = q := ⟨_, rfl⟩
    rw [hq] at HO hlt HI
    have HTL := Lib.hid (fun V => tail_any q hlt V)
    by_cases hd : (s.extract m s.size).data.toList = be4 q
    · have HE0 : Hid (openE s = 0) := Lib.hid (by rw [HE.out, if_pos (HI.out.1 hd)])
      have heq : ((⟨(be4 q).toArray⟩ : ByteArray).toList == (s.extract m (m + 4)).toList) = true := beq_yes (by rw [← hm]; exact (data_ext _ _ hd).symm)
      obtain ⟨T, hT⟩ : ∃ T : ByteArray, ⟨(be4 q).toArray⟩ = T := ⟨_, rfl⟩
      rw [hT] at HTL heq
      clear hq hT hd HI HE
      go_enter Tryz.func98, Tryz.ntmps98
      go_wp2_with fail
      refine wp_region_mild (by kernel_rfl) (by kernel_rfl) ?_
      repeat (go_big_quiet_step (first | (go_at_call 146; exact mild_same (HO.out _)) | (go_at_call 164; exact mild_of (HTL.out _)) | fail))
      refine wpQuiet_nil ?_
      intro w4 hw'
      obtain ⟨⟨wq, k4⟩, hw''⟩ := hw'
      subst hw''
      go_wp2
      go_ret2
      exact ⟨by rw [openV_ok HE0.out, HM4.out, HE0.out]; rfl, k4⟩
    · have HE0 : Hid (openE s = 15) := Lib.hid (by rw [HE.out, if_neg (fun h => hd (HI.out.2 h))])
      have hne : ((⟨(be4 q).toArray⟩ : ByteArray).toList == (s.extract m (m + 4)).toList) = false := beq_no (by rw [← hm]; exact fun h => hd (by rw [← h]))
      obtain ⟨T, hT⟩ : ∃ T : ByteArray, ⟨(be4 q).toArray⟩ = T := ⟨_, rfl⟩
      rw [hT] at HTL hne
      clear hq hT hd HI HE
      go_enter Tryz.func98, Tryz.ntmps98
      go_wp2_with fail
      refine wp_region_mild (by kernel_rfl) (by kernel_rfl) ?_
      repeat (go_big_quiet_step (first | (go_at_call 146; exact mild_same (HO.out _)) | (go_at_call 164; exact mild_of (HTL.out _)) | fail))
      refine wpQuiet_nil ?_
      intro w4 hw'
      obtain ⟨⟨wq, k4⟩, hw''⟩ := hw'
      subst hw''
      go_wp2
      go_ret2
      exact ⟨by rw [openV_no (by rw [HE0.out]; decide), HE0.out]; rfl, k4⟩
end
end Go.Proofs.YtibeihcpehikoaaGreat
