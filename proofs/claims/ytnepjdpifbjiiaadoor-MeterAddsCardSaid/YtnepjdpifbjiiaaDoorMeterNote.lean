/-
  A meter notes what a peer does.
-/
import Derived.Test.YtnepjdpifbjiiaaDoorMeterLeaf
namespace Go.Proofs.YtnepjdpifbjiiaaDoor
open Go.RowKit
set_option maxRecDepth 100000

structure OutP where
  cA : Option Addr
  cC : Nat
  cmds : List CmdP
  sA : Option Addr
  sC : Nat
  sends : List ByteArray
  moved : Bool
def OutP.cells (o : OutP) : List Value := [.slice o.cA o.cmds.length o.cC, .slice o.sA o.sends.length o.sC, .bool o.moved]
theorem OutP.cells_length (o : OutP) : o.cells.length = 3 := rfl
def OutP.val (o : OutP) : Value := .agg #[.slice o.cA o.cmds.length o.cC, .slice o.sA o.sends.length o.sC, .bool o.moved]
/-- What an out's slices hold, wherever but in block g. -/
def OutP.At (o : OutP) (w : World) (g : Nat) : Prop := RdN w g o.cA (o.cmds.flatMap CmdP.cells) ∧ RdN w g o.sA (o.sends.map Value.string)
theorem OutP.At.only {o : OutP} {w w' : World} {g : Nat} (h : o.At w g) (k : w.grownBy w' (some g)) : o.At w' g := ⟨h.1.only k, h.2.only k⟩

def sendF (f : Nat → Int) (s : ByteArray) : Nat → Int := upd (upd f 2 (f 2 + 1)) 3 (wrap64 (f 3 + s.size))
def movF (f : Nat → Int) (o : OutP) : Nat → Int := if o.moved then upd (upd f 0 (f 0 + 1)) 1 (f 1 + 1) else upd f 0 (f 0 + 1)
def noteF (f : Nat → Int) (o : OutP) : Nat → Int := o.cmds.foldl cmdF (o.sends.foldl sendF (movF f o))
theorem Sm.mov {f : Nat → Int} {B : Int} (h : Sm f B) (o : OutP) : Sm (movF f o) (B + 1) := by
  unfold movF
  split
  · intro j hj
    unfold Go.Proofs.YtnepjdpifbjiiaaDoor.upd
    split
    · have := h 1 (by decide); omega
    · split
      · have := h 0 (by decide); omega
      · have := h j hj; omega
  · exact h.upd _ _ (by have := h 0 (by decide); omega)
theorem Sm.send {f : Nat → Int} {B : Int} (h : Sm f B) (s : ByteArray) : Sm (sendF f s) (B + 1) := by
  unfold sendF
  intro j hj
  rw [upd_other _ _ _ _ hj]
  unfold Go.Proofs.YtnepjdpifbjiiaaDoor.upd
  split
  · have := h 2 (by decide); omega
  · have := h j hj; omega
theorem Sm.sends {f : Nat → Int} : ∀ {B : Int} (l : List ByteArray), Sm f B → Sm (l.foldl sendF f) (B + l.length) := fun {B} l => by
  induction l generalizing f B with
  | nil => intro h; exact h.more (by simp)
  | cons s l ih =>
    intro h
    have := ih (h.send s)
    rw [List.foldl_cons]
    exact this.more (by rw [List.length_cons]; omega)
theorem Sm.cmds {f : Nat → Int} : ∀ {B : Int} (l : List CmdP), Sm f B → Sm (l.foldl cmdF f) (B + l.length) := fun {B} l => by
  induction l generalizing f B with
  | nil => intro h; exact h.more (by simp)
  | cons s l ih =>
    intro h
    have := ih (h.cmd s)
    rw [List.foldl_cons]
    exact this.more (by rw [List.length_cons]; omega)
theorem foldl_take {α β : Type} (F : β → α → β) (b : β) (l : List α) (k : Nat) (h : k < l.length) : (l.take (k + 1)).foldl F b = F ((l.take k).foldl F b) l[k] := by
  rw [List.take_succ_eq_append_getElem h, List.foldl_append]; rfl

set_option maxHeartbeats 2000000 in
theorem note_any (g : Nat) (f : Nat → Int) (o : OutP) (w : World) (hf : IBlk w g 53 74 f) (hs : Sm f 500000) (ho : o.At w g) (hc : o.cmds.length ≤ 60) (hn : o.sends.length ≤ 60) :
    Calls Tryd.prog 9 #[.pointer (some ⟨g, 0, none⟩), o.val] w fun e w' => e = .returned (.tuple #[]) ∧ IBlk w' g 53 74 (noteF f o) ∧ w.grownBy w' (some g) := by
  have HF := Lib.hid hf
  have HO := Lib.hid ho
  have HS := Lib.hid hs
  have HM := Lib.hid (hs.mov o)
  have hlt := hf.lt
  have c0 := hf.cell 0 (by decide)
  have f0 := hf.frozen 0
  have b0 := hs 0 (by decide)
  have c1 := hf.cell 1 (by decide)
  have f1 := hf.frozen 1
  have b1 := hs 1 (by decide)
  unfold OutP.val
  clear hf hs ho
  go_enter Tryd.func9, Tryd.ntmps9
  cases hm : o.moved
  all_goals
    have hW0 : ∃ W0, IBlk W0 g 53 74 (movF f o) ∧ w.grownBy W0 (some g) ∧ Blk W0 w.heap.size 31 #[.slice o.cA o.cmds.length o.cC, .slice o.sA o.sends.length o.sC, .bool o.moved] ∧
        W0 = ((if o.moved then (w.setCell ⟨g, 0, none⟩ (.int .i64 (f 0 + 1))).setCell ⟨g, 1, none⟩ (.int .i64 (f 1 + 1)) else w.setCell ⟨g, 0, none⟩ (.int .i64 (f 0 + 1))).alloc (.cells #[.slice o.cA o.cmds.length o.cC, .slice o.sA o.sends.length o.sC, .bool o.moved] 31)) := by
      refine ⟨_, ?_, ?_, ?_, rfl⟩
      · unfold movF
        rw [hm]
        first | exact ((HF.out.set 0 _).set 1 _).alloc _ | exact (HF.out.set 0 _).alloc _
      · rw [hm]
        first | exact oAlloc (oSet (oSet (oRefl _ _) _ _) _ _) _ | exact oAlloc (oSet (oRefl _ _) _ _) _
      · rw [hm]
        exact heap_new_at _ _ _ (by simp)
    obtain ⟨W0, hI, hg0, hk0, hW0⟩ := hW0
    rw [hm] at hW0 hk0
    simp only [if_true, if_false, Bool.false_eq_true] at hW0
    have HI := Lib.hid hI
    have HG0 := Lib.hid hg0
    have HK0 := Lib.hid hk0
    clear hI hg0 hk0
    go_wp2
    rw [← hW0]
    clear hW0 hm
    go_loopw [33] (fun i wr => ∃ k : Nat, k ≤ o.sends.length ∧ i = .int .i64 k ∧ IBlk wr g 53 74 ((o.sends.take k).foldl sendF (movF f o)) ∧ w.grownBy wr (some g) ∧ Hid (W0.grownBy wr (some g))) (fun i _ => o.sends.length - (intOf i).toNat)
    case atStart => exact ⟨0, Nat.zero_le _, rfl, HI.out, HG0.out, Lib.hid (oRefl _ _)⟩
    case round =>
      clear HI HG0
      obtain ⟨k, hk, rfl, hi, hg, hgw⟩ := hrel
      have hlt2 := hi.lt
      have hkx := HK0.out.grown hgw.out (by intro e; cases e; omega)
      by_cases hltk : k < o.sends.length
      · obtain ⟨b, off, hA, hb, hc⟩ := ((HO.out.only hg).2.1).one (k := k) (by simpa using hltk)
        simp only [List.getElem_map] at hc
        have hft := foldl_take sendF (movF f o) o.sends k hltk
        have HFT := Lib.hid hft
        have d2 := hi.cell 2 (by decide)
        have g2 := hi.frozen 2
        have d3 := hi.cell 3 (by decide)
        have g3 := hi.frozen 3
        have hsm := (HM.out.sends (o.sends.take k)) 2 (by decide)
        rw [List.length_take] at hsm
        have HII := Lib.hid hi
        obtain ⟨G, hG⟩ : ∃ G, (o.sends.take k).foldl sendF (movF f o) = G := ⟨_, rfl⟩
        rw [hG] at d2 d3 hsm HII HFT
        clear hft hi hG hkx
        rw [hA]
        go_wp2
        go_roundw
        case rel => exact ⟨k + 1, by omega, by go_num, by rw [HFT.out]; exact (HII.out.set 2 _).set 3 _, oSet (oSet hg _ _) _ _, Lib.hid (oSet (oSet hgw.out _ _) _ _)⟩
        case measure => simp [intOf]; omega
      · have hfull : o.sends.take k = o.sends := List.take_of_length_le (by omega)
        rw [hfull] at hi
        have hsm := HM.out.sends o.sends
        obtain ⟨G, hG⟩ : ∃ G, o.sends.foldl sendF (movF f o) = G := ⟨_, rfl⟩
        rw [hG] at hi hsm
        have hfin : noteF f o = o.cmds.foldl cmdF G := by unfold noteF; rw [hG]
        have HFIN := Lib.hid hfin
        have HSM := Lib.hid hsm
        have HII := Lib.hid hi
        have HG1 := Lib.hid hg
        have k0 := hkx.cell 0
        simp only [List.getElem?_toArray, List.getElem?_cons_zero] at k0
        have hl4 := hkx.lt
        clear hfull hi hsm hG hfin hg hkx
        obtain ⟨wo, rfl⟩ : ∃ wo : World, wo = wr := ⟨_, rfl⟩
        go_wp2
        go_loopw [61] (fun i wr => ∃ k : Nat, k ≤ o.cmds.length ∧ i = .int .i64 k ∧ IBlk wr g 53 74 ((o.cmds.take k).foldl cmdF G) ∧ w.grownBy wr (some g)) (fun i _ => o.cmds.length - (intOf i).toNat)
        case atStart => exact ⟨0, Nat.zero_le _, rfl, HII.out, HG1.out⟩
        case round =>
          clear HII HG1
          obtain ⟨k, hk, rfl, hi, hg⟩ := hrel
          have hlt3 := hi.lt
          by_cases hltk : k < o.cmds.length
          · obtain ⟨b, off, hA, hb, hc⟩ := ((HO.out.only hg).1.1).at_ CmdP.cells_length (by decide) hltk
            have hft := foldl_take cmdF G o.cmds k hltk
            have HFT := Lib.hid hft
            have hsm := HSM.out.cmds (o.cmds.take k)
            have hq : Sm ((o.cmds.take k).foldl cmdF G) 1000000 := hsm.more (by rw [List.length_take]; omega)
            have e0 := hc 0 _ rfl
            have e1 := hc 1 _ rfl
            have e2 := hc 2 _ rfl
            have e3 := hc 3 _ rfl
            have e4 := hc 4 _ rfl
            have e5 := hc 5 _ rfl
            have e6 := hc 6 _ rfl
            have e7 := hc 7 _ rfl
            have e8 := hc 8 _ rfl
            have e9 := hc 9 _ rfl
            have e10 := hc 10 _ rfl
            have e11 := hc 11 _ rfl
            rw [Nat.add_zero] at e0
            obtain ⟨G2, hG2⟩ : ∃ G2, (o.cmds.take k).foldl cmdF G = G2 := ⟨_, rfl⟩
            rw [hG2] at hi hq HFT
            have HII := Lib.hid hi
            have HQ := Lib.hid hq
            obtain ⟨C, hC⟩ : ∃ C, o.cmds[k] = C := ⟨_, rfl⟩
            rw [hC] at e0 e1 e2 e3 e4 e5 e6 e7 e8 e9 e10 e11 HFT
            clear hc hft hi hq hsm hG2 hC
            rw [hA]
            go_wp2
            go_region_law (first | (go_simp; go_at_call 21; refine (cmd_any g G2 C _ (by exact (HII.out.alloc _).drew) HQ.out).mono ?_; rintro e w2 ⟨rfl, hi2, hg2⟩; dsimp only))
            have HI2 := Lib.hid hi2
            have HG2 := Lib.hid hg2
            clear hi2 hg2
            go_wp2
            go_roundw
            case rel => exact ⟨k + 1, by omega, by go_num, by rw [HFT.out]; exact HI2.out, oTrans (oDrew (oAlloc hg _)) HG2.out⟩
            case measure => simp [intOf]; omega
          · have hfull : o.cmds.take k = o.cmds := List.take_of_length_le (by omega)
            rw [hfull] at hi
            have HII := Lib.hid hi
            clear hfull hi
            go_wp2
            go_end0
            refine ⟨rfl, ?_, hg⟩
            rw [HFIN.out]
            exact HII.out
end Go.Proofs.YtnepjdpifbjiiaaDoor
