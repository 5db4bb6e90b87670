/-
  What a meter's numbers are, of the outs that were noted.
-/
import Derived.Test.YtnepjdpifbjiiaaDoorMeterRef4
namespace Go.Proofs.YtnepjdpifbjiiaaDoor
open Go.RowKit
set_option maxRecDepth 100000

def hit (j : Nat) (c : CmdP) : Bool :=
  if j = 4 then decide (c.kind = 4) && c.played
  else if j = 6 then decide (c.kind = 1)
  else if j = 7 then decide (c.kind = 2)
  else if j = 8 then decide (c.kind = 3)
  else if j = 9 then decide (c.kind = 4)
  else decide (c.kind = 1) && decide (10 + clamp c.late = j)
theorem cmdF_hit (f : Nat → Int) (c : CmdP) (j : Nat) (h : 4 ≤ j) : cmdF f c j = f j + if hit j c then 1 else 0 := by
  unfold cmdF hit upd
  by_cases k1 : c.kind = 1
  · have n4 : ¬ c.kind = 4 := by omega
    have n2 : ¬ c.kind = 2 := by omega
    have n3 : ¬ c.kind = 3 := by omega
    by_cases hj : j = 10 + clamp c.late
    · subst hj
      have a4 : ¬ 10 + clamp c.late = 4 := by omega
      have a6 : ¬ 10 + clamp c.late = 6 := by omega
      have a7 : ¬ 10 + clamp c.late = 7 := by omega
      have a8 : ¬ 10 + clamp c.late = 8 := by omega
      have a9 : ¬ 10 + clamp c.late = 9 := by omega
      simp [k1, a4, a6, a7, a8, a9]
    · have hj' : ¬ 10 + clamp c.late = j := fun e => hj e.symm
      by_cases h6 : j = 6
      · subst h6
        simp [k1]
        omega
      · simp [k1, hj, h6, hj']
  · by_cases k2 : c.kind = 2
    · by_cases h7 : j = 7
      · subst h7; simp [k2]
      · simp [k2, h7]
    · by_cases k3 : c.kind = 3
      · by_cases h8 : j = 8
        · subst h8; simp [k3]
        · simp [k3, h8]
      · by_cases k4 : c.kind = 4
        · cases hp : c.played
          · by_cases h9 : j = 9
            · subst h9; simp [k4]
            · simp [k4, h9]
          · by_cases h4 : j = 4
            · subst h4; simp [k4]
            · by_cases h9 : j = 9
              · subst h9; simp [k4]
              · simp [k4, h9, h4]
        · simp [k1, k2, k3, k4]
theorem cnt_cons {α : Type} (p : α → Bool) (x : α) (l : List α) : cnt p (x :: l) = (if p x then 1 else 0) + cnt p l := by
  unfold cnt
  rw [List.filter_cons]
  split <;> simp <;> omega
theorem cnt_app {α : Type} (p : α → Bool) (a b : List α) : cnt p (a ++ b) = cnt p a + cnt p b := by
  unfold cnt
  rw [List.filter_append, List.length_append]; omega
theorem cmds_hit (cs : List CmdP) (j : Nat) (h : 4 ≤ j) : ∀ f : Nat → Int, (cs.foldl cmdF f) j = f j + cnt (hit j) cs := by
  induction cs with
  | nil => intro f; simp [cnt]
  | cons c cs ih =>
    intro f
    rw [List.foldl_cons, ih, cmdF_hit f c j h, cnt_cons]; omega
theorem cmdF_low (f : Nat → Int) (c : CmdP) (j : Nat) (h : j < 4) : cmdF f c j = f j := by
  unfold cmdF
  repeat' split
  all_goals first | rfl | (rw [upd_other _ _ _ _ (by omega), upd_other _ _ _ _ (by omega)]) | rw [upd_other _ _ _ _ (by omega)]
theorem cmds_low (cs : List CmdP) (j : Nat) (h : j < 4) : ∀ f : Nat → Int, (cs.foldl cmdF f) j = f j := by
  induction cs with
  | nil => intro f; rfl
  | cons c cs ih => intro f; rw [List.foldl_cons, ih, cmdF_low f c j h]
theorem sends_other (ss : List ByteArray) (j : Nat) (h2 : j ≠ 2) (h3 : j ≠ 3) : ∀ f : Nat → Int, (ss.foldl sendF f) j = f j := by
  induction ss with
  | nil => intro f; rfl
  | cons s ss ih => intro f; rw [List.foldl_cons, ih, sendF, upd_other _ _ _ _ h3, upd_other _ _ _ _ h2]
theorem sends_two (ss : List ByteArray) : ∀ f : Nat → Int, (ss.foldl sendF f) 2 = f 2 + ss.length := by
  induction ss with
  | nil => intro f; simp
  | cons s ss ih =>
    intro f
    rw [List.foldl_cons, ih, sendF, upd_other _ _ _ _ (by decide), upd_same, List.length_cons]; omega
theorem sends_three (ss : List ByteArray) : ∀ f : Nat → Int, (ss.foldl sendF f) 3 = ss.foldl addB (f 3) := by
  induction ss with
  | nil => intro f; rfl
  | cons s ss ih =>
    intro f
    rw [List.foldl_cons, ih, sendF, upd_same, List.foldl_cons]; rfl
theorem movF_other (f : Nat → Int) (o : OutP) (j : Nat) (h : 2 ≤ j) : movF f o j = f j := by
  unfold movF
  split
  · rw [upd_other _ _ _ _ (by omega), upd_other _ _ _ _ (by omega)]
  · rw [upd_other _ _ _ _ (by omega)]

def mF (l : List OutP) : Nat → Int := l.foldl noteF fun _ => 0
theorem mF_take (l : List OutP) (k : Nat) (h : k < l.length) : mF (l.take (k + 1)) = noteF (mF (l.take k)) l[k] := foldl_take noteF _ l k h
theorem Sm.note {f : Nat → Int} {B : Int} (h : Sm f B) (o : OutP) (hc : o.cmds.length ≤ 60) (hn : o.sends.length ≤ 60) : Sm (noteF f o) (B + 200) :=
  (((h.mov o).sends o.sends).cmds o.cmds).more (by omega)
theorem mF_sm (l : List OutP) (h : ∀ o ∈ l, o.cmds.length ≤ 60 ∧ o.sends.length ≤ 60) : ∀ k, k ≤ l.length → Sm (mF (l.take k)) (200 * k) := fun k => by
  induction k with
  | zero => exact fun _ j _ => by simp [mF]
  | succ k ih =>
    intro hk
    have h1 := ih (by omega)
    rw [mF_take l k (by omega)]
    obtain ⟨h3, h4⟩ := h l[k] (List.getElem_mem _)
    exact (h1.note _ h3 h4).more (by omega)
theorem note_hit (f : Nat → Int) (o : OutP) (j : Nat) (h : 4 ≤ j) : noteF f o j = f j + cnt (hit j) o.cmds := by
  unfold noteF
  rw [cmds_hit _ j h, sends_other _ j (by omega) (by omega), movF_other _ _ _ (by omega)]
theorem fold_hit (l : List OutP) (j : Nat) (h : 4 ≤ j) : ∀ f : Nat → Int, (l.foldl noteF f) j = f j + cnt (hit j) (l.flatMap OutP.cmds) := by
  induction l with
  | nil => intro f; simp [cnt]
  | cons o l ih => intro f; rw [List.foldl_cons, ih, note_hit f o j h, List.flatMap_cons, cnt_app]; omega
theorem fold_zero (l : List OutP) : ∀ f : Nat → Int, (l.foldl noteF f) 0 = f 0 + l.length := by
  induction l with
  | nil => intro f; simp
  | cons o l ih =>
    intro f
    have : noteF f o 0 = f 0 + 1 := by
      unfold noteF
      rw [cmds_low _ 0 (by decide), sends_other _ 0 (by decide) (by decide)]
      unfold movF
      split
      · rw [upd_other _ _ _ _ (by decide), upd_same]
      · rw [upd_same]
    rw [List.foldl_cons, ih, this, List.length_cons]; omega
theorem fold_one (l : List OutP) : ∀ f : Nat → Int, (l.foldl noteF f) 1 = f 1 + movedOf l := by
  induction l with
  | nil => intro f; simp [movedOf]
  | cons o l ih =>
    intro f
    have : noteF f o 1 = f 1 + if o.moved then 1 else 0 := by
      unfold noteF
      rw [cmds_low _ 1 (by decide), sends_other _ 1 (by decide) (by decide)]
      unfold movF
      cases hm : o.moved
      · simp [upd]
      · simp [upd]
    have h2 : movedOf (o :: l) = (if o.moved then 1 else 0) + movedOf l := cnt_cons OutP.moved o l
    rw [List.foldl_cons, ih, this, h2]; omega
theorem fold_two (l : List OutP) : ∀ f : Nat → Int, (l.foldl noteF f) 2 = f 2 + (sendsOf l).length := by
  induction l with
  | nil => intro f; simp [sendsOf]
  | cons o l ih =>
    intro f
    have : noteF f o 2 = f 2 + o.sends.length := by
      unfold noteF
      rw [cmds_low _ 2 (by decide), sends_two, movF_other _ _ _ (by decide)]
    have h2 : sendsOf (o :: l) = o.sends ++ sendsOf l := by unfold sendsOf; rw [List.flatMap_cons]
    rw [List.foldl_cons, ih, this, h2, List.length_append]; omega
theorem fold_three (l : List OutP) : ∀ f : Nat → Int, (l.foldl noteF f) 3 = (sendsOf l).foldl addB (f 3) := by
  induction l with
  | nil => intro f; rfl
  | cons o l ih =>
    intro f
    have : noteF f o 3 = o.sends.foldl addB (f 3) := by
      unfold noteF
      rw [cmds_low _ 3 (by decide), sends_three, movF_other _ _ _ (by decide)]
    have h2 : sendsOf (o :: l) = o.sends ++ sendsOf l := by unfold sendsOf; rw [List.flatMap_cons]
    rw [List.foldl_cons, ih, this, h2, List.foldl_append]
theorem hit_kind (l : List OutP) (j : Nat) (k : Int) (hk : 1 ≤ k ∧ k ≤ 4) (h : ∀ c, hit j c = decide (c.kind = k)) : cnt (hit j) (l.flatMap OutP.cmds) = (cmdsOf l k).length := by
  unfold cnt cmdsOf
  rw [if_pos hk]
  congr 2
  exact List.filter_congr fun c _ => h c
theorem agree (l : List OutP) (hl : l.length ≤ 200) (ho : ∀ o ∈ l, o.cmds.length ≤ 60 ∧ o.sends.length ≤ 60) (hb : 0 ≤ bytesOf l ∧ bytesOf l ≤ 9223372036854775807) : Agree (mF l) l where
  pos j := by
    have h3 : mF l 3 = bytesOf l := fold_three l _
    by_cases hj : j = 3
    · subst hj; rw [h3]; exact hb
    · have := mF_sm l ho l.length (Nat.le_refl _)
      rw [List.take_length] at this
      have := this j hj
      omega
  outs := by rw [mF, fold_zero]; simp
  moved := by rw [mF, fold_one]; simp
  sent := by rw [mF, fold_two]; simp
  bytes := fold_three l _
  played := by
    rw [mF, fold_hit _ _ (by decide), Int.zero_add]
    unfold cnt cmdsOf
    rw [if_pos (by decide), List.filter_filter]
    congr 2
    refine List.filter_congr fun c _ => ?_
    unfold hit
    rw [if_pos rfl, Bool.and_comm]
  k1 := by rw [mF, fold_hit _ _ (by decide), Int.zero_add]; exact hit_kind l 6 1 (by decide) fun c => rfl
  k2 := by rw [mF, fold_hit _ _ (by decide), Int.zero_add]; exact hit_kind l 7 2 (by decide) fun c => rfl
  k3 := by rw [mF, fold_hit _ _ (by decide), Int.zero_add]; exact hit_kind l 8 3 (by decide) fun c => rfl
  k4 := by rw [mF, fold_hit _ _ (by decide), Int.zero_add]; exact hit_kind l 9 4 (by decide) fun c => rfl
  late j hj := by
    rw [mF, fold_hit _ _ (by omega), Int.zero_add]
    unfold cnt cmdsOf
    rw [if_pos (by decide), List.filter_filter]
    congr 2
    refine List.filter_congr fun c _ => ?_
    unfold hit lateIs
    rw [if_neg (by omega), if_neg (by omega), if_neg (by omega), if_neg (by omega), if_neg (by omega), Bool.and_comm]
    congr 1
    exact decide_eq_decide.2 (by omega)

/-- The bytes of strings that lie within reach. -/
theorem addB_bd (ss : List ByteArray) (h : ∀ s ∈ ss, s.size ≤ 140737488355328) : ∀ b : Int, 0 ≤ b → b + 140737488355328 * ss.length ≤ 9223372036854775807 → 0 ≤ ss.foldl addB b ∧ ss.foldl addB b ≤ 9223372036854775807 := by
  induction ss with
  | nil => intro b h1 h2; simp at h2 ⊢; omega
  | cons s ss ih =>
    intro b h1 h2
    have hs := h s (by simp)
    rw [List.length_cons] at h2
    have e : addB b s = b + s.size := by unfold addB wrap64; omega
    rw [List.foldl_cons, e]
    exact ih (fun x hx => h x (by simp [hx])) _ (by omega) (by omega)
theorem bytes_bd (l : List OutP) (hl : l.length ≤ 200) (hc : ∀ o ∈ l, o.sends.length ≤ 60) (hs : ∀ o ∈ l, ∀ s ∈ o.sends, s.size ≤ 140737488355328) : 0 ≤ bytesOf l ∧ bytesOf l ≤ 9223372036854775807 := by
  have h1 := sends_len l hc
  refine addB_bd _ (fun s h => ?_) 0 (Int.le_refl _) (by omega)
  obtain ⟨o, ho, h⟩ := List.mem_flatMap.1 h
  exact hs o ho s h
end Go.Proofs.YtnepjdpifbjiiaaDoor
