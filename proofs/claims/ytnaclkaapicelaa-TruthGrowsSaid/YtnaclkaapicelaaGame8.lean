/-
  The walks of a whole play, of a clash, of the round's end.
-/
import Derived.Test.YtnaclkaapicelaaGame6
import Derived.Test.YtnaclkaapicelaaGameT
import Derived.Test.YtnaclkaapicelaaGame5
namespace Go.Proofs.Ytnaclkaapicelaa
open Go.RowKit
set_option maxRecDepth 100000
theorem steerP_b {p : Nat → Int} (h : PlB p) (n : Nat) : PlB (steerP p n) := ((((h.cool.face n).brake n).thrust n).dash n).slow
theorem steerL_len (i : Nat) (p : Nat → Int) (n : Nat) (F : Int) (L : List Ev) : (steerL i p n F L).length ≤ L.length + 2 := by
  unfold steerL lDash lThrust
  split <;> split <;> (try simp only [addE_length]) <;> omega
theorem lMove_len (i : Nat) (p : Nat → Int) (F : Int) (L : List Ev) : (lMove i p F L).length ≤ L.length + 1 := by
  unfold lMove
  split
  · omega
  · rw [addE_length]; exact Nat.le_refl _
section
variable {g gp base : Nat} {S : Nat → Int} {F : Int} {L : List Ev} {w : World} {i n : Nat}
set_option maxHeartbeats 4000000 in
theorem gplay_any (h : Stg w g gp base S F L) (hi : i < 2) (hok : StOk S) (hn : n < 64) (hF : 0 ≤ F ∧ F ≤ 1073741824) (hS : S 0 = F) (hL : L.length ≤ 10) :
    Calls Try.prog 32 #[.pointer (some ⟨g, 0, none⟩), .int .i64 i, .int .u8 n] w fun e w' => e = .returned (.tuple #[]) ∧ Stg w' g gp base (playS i n F (S, L)).1 F (playS i n F (S, L)).2 ∧ Below base w w' := by
  have hpb := (hok.m.pl i hi).b (hok.two i hi)
  have h1 := h.as (putP_get S i).symm
  have c8 := h1.cellP hi 8 (by decide) (k := .i64) rfl
  have hlt := h.lt
  have hi2 : (i : Int) < 2 := by omega
  have hdc := hok.m.dc
  obtain ⟨p, hp⟩ : ∃ p, getP S i = p := ⟨_, rfl⟩
  have HE : Hid (playS i n F (S, L) = if 1 < p 8 then (putP S i (upd p 8 (p 8 - 1)), L) else if p 8 = 1 then (putP (upd S 1 (nextZ (S 1))) i (pBack p (throwZ (S 1) 4)), addE F L (evT ((i : Int) + 1) 6 6 16384 9 0 (cornX (throwZ (S 1) 4)))) else if bit n 16 then fireS i F (putP S i (pMove (steerP p n)), lMove i (steerP p n) F (steerL i p n F L)) else (putP S i (pMove (steerP p n)), lMove i (steerP p n) F (steerL i p n F L))) := by
    subst hp; exact Lib.hid rfl
  rw [hp] at hpb h1 c8
  obtain ⟨d0, d1⟩ := hpb.dn
  have H := Lib.hid h1
  have HP := Lib.hid hpb
  have HS := Lib.hid hS
  have HU := Lib.hid hdc
  clear h h1 hpb hp hS hok hdc
  by_cases h8 : 1 < p 8
  · have HR := Lib.hid (HE.out.trans (if_pos h8))
    clear HE
    go_enter Try.func32, Try.ntmps32
    go_wp2_with fail
    refine (gback_more H.out hi h8 d1).mono ?_
    rintro e w1 ⟨rfl, k1, k2⟩
    have H1 := Lib.hid k1
    have H2 := Lib.hid k2
    clear k1 k2
    go_wp2
    refine bodyPost_ret (results_none rfl _ _ _) rfl ⟨rfl, ?_, H2.out⟩
    rw [HR.out]
    exact H1.out
  · by_cases h1 : p 8 = 1
    · have HR := Lib.hid (HE.out.trans ((if_neg h8).trans (if_pos h1)))
      have H8 := Lib.hid h1
      have hpos : 0 < p 8 := by omega
      clear HE h1
      go_enter Try.func32, Try.ntmps32
      go_wp2_with fail
      refine (gback_one H.out hi H8.out HU.out hF (by omega)).mono ?_
      rintro e w1 ⟨rfl, k1, k2⟩
      have H1 := Lib.hid k1
      have H2 := Lib.hid k2
      clear k1 k2
      go_wp2
      refine bodyPost_ret (results_none rfl _ _ _) rfl ⟨rfl, ?_, H2.out⟩
      rw [HR.out]
      exact H1.out
    · have HR := Lib.hid (HE.out.trans ((if_neg h8).trans (if_neg h1)))
      have hz : p 8 ≤ 0 := by omega
      have hl1 := steerL_len i p n F L
      have hl2 := lMove_len i (steerP p n) F (steerL i p n F L)
      clear HE h1 h8 d0 d1
      go_enter Try.func32, Try.ntmps32
      go_wp2_with fail
      refine (gsteer_any H.out hi hn HP.out hF HS.out (by omega)).mono ?_
      rintro e w1 ⟨rfl, k1, k2⟩
      have HP1 := Lib.hid (steerP_b HP.out n)
      have H1 : Hid (Stg w1 g gp base (putP S i (steerP p n)) F (steerL i p n F L)) := k1
      have HB1 := Lib.hid k2
      clear k1 k2
      go_wp2_with fail
      refine (gmove_any H1.out hi HP1.out hF (by omega)).mono ?_
      rintro e w2 ⟨rfl, k1, k2⟩
      have H2 := Lib.hid k1
      have HB2 := Lib.hid (HB1.out.trans k2)
      have HP2 := Lib.hid HP1.out.move
      clear k1 k2
      go_wp2_with fail
      refine (pr_any n 16 _ rfl hn (by decide) _).mono ?_
      rintro e w3 ⟨rfl, rfl⟩
      cases hbit : bit n 16
      · have HF2 := Lib.hid (HR.out.trans (if_neg (by rw [hbit]; decide)))
        go_wp2
        go_end0
        rw [HF2.out]
        exact ⟨rfl, H2.out, HB2.out⟩
      · have HF2 := Lib.hid (HR.out.trans (if_pos hbit))
        go_wp2_with fail
        refine (gfire_any H2.out hi HP2.out hF (by omega)).mono ?_
        rintro e w4 ⟨rfl, k1, k2⟩
        have H4 := Lib.hid k1
        have HB4 := Lib.hid (HB2.out.trans k2)
        clear k1 k2
        go_wp2
        go_end0
        rw [HF2.out]
        exact ⟨rfl, H4.out, HB4.out⟩
end
end Go.Proofs.Ytnaclkaapicelaa
