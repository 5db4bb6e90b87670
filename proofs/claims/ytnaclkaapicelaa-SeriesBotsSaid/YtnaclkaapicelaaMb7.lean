/-
  The walks beneath: SerP, SerW, SerT, SerD.
-/
import Derived.Deep.RegionHeld3
import Derived.StillTactics
import Derived.Test.YtnaclkaapicelaaEv
namespace Go.Proofs.Ytnaclkaapicelaa.Ser

structure Rnd where
  frame : Int
  a : Int
  b : Int
  win : Int
def Rnd.cells (r : Rnd) : List Value := [.int .i64 r.frame, .int .i64 r.a, .int .i64 r.b, .int .i64 r.win]
theorem Rnd.cells_length (r : Rnd) : r.cells.length = 4 := rfl
def winOf (a b : Int) : Int := if b < a then 0 else if a < b then 1 else -1
def hit (e : Ev) (who : Int) : Bool := e.kind == 5 && e.emitter == 2 - who
def killsOf (l : List Ev) (who : Int) : Int := (l.map fun e => if hit e who then 1 else 0).sum
theorem killsOf_take (l : List Ev) (who : Int) (k : Nat) (h : k < l.length) : killsOf (l.take (k + 1)) who = killsOf (l.take k) who + if hit l[k] who then 1 else 0 := by
  unfold killsOf
  rw [List.take_succ_eq_append_getElem h, List.map_append, List.sum_append]
  simp
theorem killsOf_snoc (l : List Ev) (who : Int) (e : Ev) : killsOf (l ++ [e]) who = killsOf l who + if hit e who then 1 else 0 := by
  unfold killsOf
  rw [List.map_append, List.sum_append]
  simp
theorem killsOf_bd (l : List Ev) (who : Int) : 0 ≤ killsOf l who ∧ killsOf l who ≤ l.length := by
  induction l with
  | nil => simp [killsOf]
  | cons e l ih =>
    have : killsOf (e :: l) who = (if hit e who then 1 else 0) + killsOf l who := by simp [killsOf]
    rw [this, List.length_cons]
    split <;> omega
structure Thr where
  out : List Rnd
  a : Int
  b : Int
def stepT (t : Thr) (e : Ev) : Thr :=
  if e.kind = 7 then ⟨t.out ++ [⟨e.frame, t.a, t.b, winOf t.a t.b⟩], 0, 0⟩
  else ⟨t.out, t.a + (if hit e 0 then 1 else 0), t.b + (if hit e 1 then 1 else 0)⟩
def thr (l : List Ev) : Thr := l.foldl stepT ⟨[], 0, 0⟩
theorem thr_take (l : List Ev) (k : Nat) (h : k < l.length) : thr (l.take (k + 1)) = stepT (thr (l.take k)) l[k] := by
  rw [List.take_succ_eq_append_getElem h, thr, List.foldl_append]; rfl
theorem thr_bd (l : List Ev) : ∀ k, k ≤ l.length → 0 ≤ (thr (l.take k)).a ∧ (thr (l.take k)).a ≤ k ∧ 0 ≤ (thr (l.take k)).b ∧ (thr (l.take k)).b ≤ k ∧ (thr (l.take k)).out.length ≤ k ∧
    ∀ r ∈ (thr (l.take k)).out, 0 ≤ r.a ∧ r.a ≤ k ∧ 0 ≤ r.b ∧ r.b ≤ k
  | 0, _ => by simp [thr]
  | k + 1, h => by
    obtain ⟨h1, h2, h3, h4, h5, h6⟩ := thr_bd l k (by omega)
    rw [thr_take l k (by omega), stepT]
    split
    · refine ⟨by simp only; omega, by simp only; omega, by simp only; omega, by simp only; omega, by simp; omega, fun r hr => ?_⟩
      rcases List.mem_append.1 hr with hr | hr
      · have := h6 r hr; omega
      · simp only [List.mem_singleton] at hr; subst hr; simp only; omega
    · refine ⟨by simp only; split <;> omega, by simp only; split <;> omega, by simp only; split <;> omega, by simp only; split <;> omega, by simp only; omega, fun r hr => ?_⟩
      have := h6 r hr; omega
/-- All kills are those of the rounds, and the open ones. -/
theorem thr_sum (l : List Ev) : ∀ k, k ≤ l.length → ((thr (l.take k)).out.map Rnd.a).sum + (thr (l.take k)).a = killsOf (l.take k) 0 ∧ ((thr (l.take k)).out.map Rnd.b).sum + (thr (l.take k)).b = killsOf (l.take k) 1
  | 0, _ => by simp [thr, killsOf]
  | k + 1, h => by
    obtain ⟨h1, h2⟩ := thr_sum l k (by omega)
    have hk : k < l.length := by omega
    rw [thr_take l k hk, killsOf_take l 0 k hk, killsOf_take l 1 k hk, stepT]
    split
    · rename_i h7
      have e0 : hit l[k] 0 = false := by simp [hit, h7]
      have e1 : hit l[k] 1 = false := by simp [hit, h7]
      rw [e0, e1]
      simp only [List.map_append, List.sum_append, List.map_cons, List.map_nil, List.sum_cons, List.sum_nil]
      constructor
      · simp; omega
      · simp; omega
    · simp only
      constructor
      · omega
      · omega
/-- From where the open kills are counted. -/
def fromOf (l : List Ev) : Nat → Nat
  | 0 => 0
  | k + 1 => match l[k]? with
    | some e => if e.kind = 7 then k + 1 else fromOf l k
    | none => fromOf l k
theorem fromOf_le (l : List Ev) : ∀ k, fromOf l k ≤ k
  | 0 => Nat.le_refl _
  | k + 1 => by
    have := fromOf_le l k
    rw [fromOf]
    split
    · split <;> omega
    · omega
theorem fromOf_kills (l : List Ev) : ∀ k, k ≤ l.length → (thr (l.take k)).a = killsOf ((l.take k).drop (fromOf l k)) 0 ∧ (thr (l.take k)).b = killsOf ((l.take k).drop (fromOf l k)) 1
  | 0, _ => by simp [thr, killsOf]
  | k + 1, h => by
    obtain ⟨h1, h2⟩ := fromOf_kills l k (by omega)
    have hk : k < l.length := by omega
    have hf := fromOf_le l k
    rw [thr_take l k hk, fromOf, List.getElem?_eq_getElem hk, stepT]
    simp only
    split
    · rename_i h7
      have : (l.take (k + 1)).drop (k + 1) = [] := List.drop_of_length_le (by simp; omega)
      rw [this]
      simp [killsOf]
    · have : (l.take (k + 1)).drop (fromOf l k) = (l.take k).drop (fromOf l k) ++ [l[k]] := by
        rw [List.take_succ_eq_append_getElem hk, List.drop_append_of_le_length (by simp; omega)]
      rw [this, killsOf_snoc, killsOf_snoc, ← h1, ← h2]
      simp
def rightEv : Int → List Ev → Bool
  | _, [] => true
  | last, e :: l => if e.frame < last ∨ 1073741824 < e.frame then false else rightEv e.frame l
end Go.Proofs.Ytnaclkaapicelaa.Ser

namespace Go.Proofs.Ytnaclkaapicelaa.Ser
open Go.RowKit

set_option maxHeartbeats 400000 in
theorem right_any (A : Option Addr) (c : Nat) (l : List Ev) (w : World) (hn : l.length ≤ 1000000) (hr : Rd w w.heap.size A (l.flatMap Ev.cells)) :
    Calls Try.prog 65 #[.slice A l.length c] w fun e w' => e = .returned (.bool (rightEv 0 l)) ∧ Below w.heap.size w w' := by
  have HR := Lib.hid hr
  clear hr
  go_enter Try.func65, Try.ntmps65
  go_wp2
  go_loopw [3, 8] (fun last i wr => ∃ k : Nat, k ≤ l.length ∧ i = .int .i64 k ∧ ∃ z, last = .int .i64 z ∧ Hid (rightEv 0 l = rightEv z (l.drop k)) ∧ Below w.heap.size w wr) (fun _ i _ => l.length - (intOf i).toNat)
  case atStart => exact ⟨0, Nat.zero_le _, rfl, 0, rfl, rfl, Below.refl _ _⟩
  case round =>
    obtain ⟨k, hk, rfl, z, rfl, hz, hb⟩ := hrel
    by_cases hlt : k < l.length
    · obtain ⟨b, off, rfl, hB, h0, h1, h2, h3, h4, h5, h6, h7, h8⟩ := (HR.out.below hb (Nat.le_refl _)).ev hlt
      go_wp2
      · go_ret
        refine ⟨ret_bool ?_, hb.alloc hb.size _⟩
        rw [hz.out, List.drop_eq_getElem_cons hlt, rightEv, if_pos (by omega)]
      · go_roundw
        case rel =>
          refine ⟨k + 1, by omega, by go_num, _, rfl, ?_, hb.alloc hb.size _⟩
          show _ = _
          rw [hz.out, List.drop_eq_getElem_cons hlt, rightEv, if_neg (by omega)]
        case measure => simp [intOf]; omega
      · go_ret
        refine ⟨ret_bool ?_, hb.alloc hb.size _⟩
        rw [hz.out, List.drop_eq_getElem_cons hlt, rightEv, if_pos (by omega)]
    · have e0 : rightEv 0 l = true := by rw [hz.out, List.drop_of_length_le (by omega), rightEv]
      have E0 := Lib.hid e0
      clear e0
      go_wp2
      go_ret
      exact ⟨ret_bool E0.out.symm, hb⟩


set_option maxHeartbeats 400000 in
theorem winner_any (a b : Int) (w : World) :
    Calls Try.prog 106 #[.agg #[.int .i64 a, .int .i64 b]] w fun e w' => e = .returned (.int .i64 (winOf a b)) ∧ w.alloc (.cells #[.int .i64 a, .int .i64 b] 66) = w' := by
  rcases Int.lt_trichotomy a b with h | h | h
  · have HZ := Lib.hid (show winOf a b = 1 by unfold winOf; rw [if_neg (by omega), if_pos h])
    go_enter Try.func106, Try.ntmps106
    go_wp2
    go_ret
    exact ⟨ret_int HZ.out.symm, rfl⟩
  · subst h
    have HZ := Lib.hid (show winOf a a = -1 by unfold winOf; rw [if_neg (by omega), if_neg (by omega)])
    go_enter Try.func106, Try.ntmps106
    go_wp2
    go_ret
    exact ⟨ret_int HZ.out.symm, rfl⟩
  · have HZ := Lib.hid (show winOf a b = 0 by unfold winOf; rw [if_pos h])
    go_enter Try.func106, Try.ntmps106
    go_wp2
    go_ret
    exact ⟨ret_int HZ.out.symm, rfl⟩

end Go.Proofs.Ytnaclkaapicelaa.Ser

namespace Go.Proofs.Ytnaclkaapicelaa.Ser
open Go.RowKit

theorem Try.infoRound : (Try.prog.info? 68).map (fun i => (i.zero, i.size, i.bytes)) = some (some (.agg #[.int .i64 0, .int .i64 0, .int .i64 0, .int .i64 0]), 4, 32) := by kernel_rfl

set_option maxRecDepth 100000 in
set_option maxHeartbeats 1600000 in
theorem through_any (A : Option Addr) (c : Nat) (l : List Ev) (w : World) (hn : l.length ≤ 1000000) (hr : Rd w w.heap.size A (l.flatMap Ev.cells)) :
    Calls Try.prog 66 #[.slice A l.length c] w fun e w' => ∃ A' cp, e = .returned (.tuple #[.slice A' (thr l).out.length cp, .agg #[.int .i64 (thr l).a, .int .i64 (thr l).b]]) ∧
      OwnL w' w.heap.size 68 4 (.slice A' (thr l).out.length cp) Rnd.cells (thr l).out ∧ Below w.heap.size w w' := by
  have HR := Lib.hid hr
  have HT := Lib.hid (thr_bd l)
  clear hr
  obtain ⟨i0, hi0, hz0, hz1, hz2⟩ := info_parts Try.infoRound
  go_enter Try.func66, Try.ntmps66
  go_wp2
  go_loopw [4, 10] (fun v i wr => ∃ k : Nat, k ≤ l.length ∧ i = .int .i64 k ∧ ∃ A' cp, v = .slice A' (thr (l.take k)).out.length cp ∧ OwnL wr w.heap.size 68 4 (.slice A' (thr (l.take k)).out.length cp) Rnd.cells (thr (l.take k)).out ∧
    Blk wr w.heap.size 66 #[.int .i64 0, .int .i64 0] ∧ Blk wr (w.heap.size + 1) 66 #[.int .i64 (thr (l.take k)).a, .int .i64 (thr (l.take k)).b] ∧ Below w.heap.size w wr) (fun _ i _ => l.length - (intOf i).toNat)
  case atStart =>
    refine ⟨0, Nat.zero_le _, rfl, none, 0, by simp [thr], by simpa [thr] using OwnL.nil, ?_, ?_, (by repeat (first | exact Below.refl _ _ | (with_reducible assumption) | apply bAlloc | apply below_drewN | apply Below.drew))⟩
    · exact (Blk.new _ _ _).alloc _
    · have := Blk.new (w.alloc (.cells #[.int .i64 0, .int .i64 0] 66)) 66 #[.int .i64 0, .int .i64 0]
      simpa [thr] using this
  case round =>
    obtain ⟨k, hk, rfl, A', cp, rfl, hown, hres, hkl, hb⟩ := hrel
    obtain ⟨t1, t2, t3, t4, t5, t6⟩ := HT.out k hk
    clear t6
    by_cases hlt : k < l.length
    · obtain ⟨b, off, rfl, hB, h0, h1, h2, h3, h4, h5, h6, h7, h8⟩ := (HR.out.below hb (Nat.le_refl _)).ev hlt
      have k0 := hkl.cell 0
      have k1 := hkl.cell 1
      have f0 := hkl.frozen 0
      have f1 := hkl.frozen 1
      simp only [List.getElem?_toArray, List.getElem?_cons_zero, List.getElem?_cons_succ] at k0 k1
      have hsz : w.heap.size + 1 < wr.heap.size := hkl.lt
      have hst := thr_take l k hlt
      have HS := Lib.hid hst
      have HO := Lib.hid hown
      have HRes := Lib.hid hres
      have HKl := Lib.hid hkl
      clear hst hown hres hkl
      by_cases h7 : (l[k].kind == 7) = true
      · go_wp2
        generalize hW1 : wr.alloc _ = W1
        have e0 : W1.cell? ⟨wr.heap.size, 0, none⟩ = some (.int .i64 l[k].frame) := by rw [← hW1]; simp [go_sem]
        have hs1 : W1.heap.size = wr.heap.size + 1 := by rw [← hW1]; simp
        have HO1 : Hid (OwnL W1 w.heap.size 68 4 (.slice A' (thr (l.take k)).out.length cp) Rnd.cells (thr (l.take k)).out) := by rw [← hW1]; exact HO.out.alloc _
        have HR1 : Hid (Blk W1 w.heap.size 66 #[.int .i64 0, .int .i64 0]) := by rw [← hW1]; exact HRes.out.alloc _
        have HK1 : Hid (Blk W1 (w.heap.size + 1) 66 #[.int .i64 (thr (l.take k)).a, .int .i64 (thr (l.take k)).b]) := by rw [← hW1]; exact HKl.out.alloc _
        have hb1 : Below w.heap.size w W1 := by rw [← hW1]; exact bAlloc hb _
        have q0 := HK1.out.cell 0
        have q1 := HK1.out.cell 1
        simp only [List.getElem?_toArray, List.getElem?_cons_zero, List.getElem?_cons_succ] at q0 q1
        have HS1 := Lib.hid hs1
        have hs2 : wr.heap.size < W1.heap.size := by omega
        have hs3 : w.heap.size + 1 < W1.heap.size := by omega
        have hab1 : (Value.slice A' (thr (l.take k)).out.length cp).ownBlock ≠ some (w.heap.size + 1) := HK1.out.apart HO1.out (by decide)
        have hab2 : (Value.slice A' (thr (l.take k)).out.length cp).ownBlock ≠ some wr.heap.size := fun e => by have := HO.out.block_lt _ e; omega
        clear hs1 hW1 k0 k1 f0 f1 h0 h1 h2 h3 h4 h5 h6 h8
        have HOr : Hid (W1.ownsRow w.heap.size 68 4 (.slice A' (thr (l.take k)).out.length cp) (thr (l.take k)).out.length ((thr (l.take k)).out.flatMap Rnd.cells)) := HO1.out
        generalize hta : (thr (l.take k)).a = ta at *
        generalize htb : (thr (l.take k)).b = tb at *
        generalize hto : (thr (l.take k)).out = to at *
        have HTA := Lib.hid hta
        have HTB := Lib.hid htb
        have HTO := Lib.hid hto
        clear hta htb hto
        go_region_held3 (fun w' => w'.cell? ⟨wr.heap.size, 0, none⟩ = some (.int .i64 l[k].frame) ∧ w'.cell? ⟨w.heap.size + 1, 0, none⟩ = some (.int .i64 ta) ∧ w'.cell? ⟨w.heap.size + 1, 1, none⟩ = some (.int .i64 tb))
          (first
            | go_keep
            | (go_split_ands
               refine ⟨?_, ?_, ?_⟩
               · (rw [hgrow.cell_far _ (by simp; omega) (Ne.symm hab2)]; assumption)
               · (rw [hgrow.cell_far _ (by simp; omega) (Ne.symm hab1)]; assumption)
               · (rw [hgrow.cell_far _ (by simp; omega) (Ne.symm hab1)]; assumption)))
          (first
            | (go_at_call 106; refine (winner_any _ _ _).mono ?_; rintro e w4 ⟨rfl, rfl⟩)
            | (refine step_append_lies _ (by rfl) _ _ _ (by rfl) w.heap.size 68 i0 _ 4 32 Try.underlying63 hi0 hz0 hz1 hz2 rfl (by omega) (.slice A' to.length cp) to.length (to.flatMap Rnd.cells) (by rfl) (((HOr.out.alloc _).alloc _).drew)
                ⟨W1.heap.size + 1, 0, none⟩ 1 1 [.int .i64 l[k].frame, .int .i64 ta, .int .i64 tb, .int .i64 (winOf ta tb)] (by rfl) (by rfl) (World.news_of_block (cs := #[.int .i64 l[k].frame, .int .i64 ta, .int .i64 tb, .int .i64 (winOf ta tb)]) (t := 68) (fr := (0, 0)) (heap_new_at (W1.alloc (.cells #[.int .i64 ta, .int .i64 tb] 66)) _ _ (by simp))) (by simp [Value.oneCell'])
                (by omega) (by simp [maxLen]; omega) (by omega) (by simp; omega) (W1.heap.size + 2) (by simp) ?_; intro gg cap w1 hown1 hgrow hat hlt1))
        have hkb : Hid (Blk w1 (w.heap.size + 1) 66 #[.int .i64 ta, .int .i64 tb]) := ((HK1.out.alloc _).alloc _).drew.grown hgrow hab1
        have hrb : Hid (Blk w1 w.heap.size 66 #[.int .i64 0, .int .i64 0]) := ((HR1.out.alloc _).alloc _).drew.grown hgrow (HR1.out.apart HO1.out (by decide))
        have hb2 : Below w.heap.size w w1 := Below.grown ((hb1.alloc hb1.size _).alloc (by simp; have := hb1.size; omega) _).drew hgrow (by simp; have := hb1.size; omega) HO1.out.base_le
        have p0 := hkb.out.cell 0
        have p1 := hkb.out.cell 1
        have z0 := hkb.out.frozen 0
        have z1 := hkb.out.frozen 1
        simp only [List.getElem?_toArray, List.getElem?_cons_zero, List.getElem?_cons_succ] at p0 p1
        have HOW := Lib.hid hown1
        clear hown1 hgrow hat
        go_wp2
        go_roundw
        case rel =>
          have hst : thr (l.take (k + 1)) = ⟨to ++ [⟨l[k].frame, ta, tb, winOf ta tb⟩], 0, 0⟩ := by
            rw [HS.out, stepT, if_pos (by simpa using h7), HTA.out, HTB.out, HTO.out]
          have hne : gg ≠ w.heap.size + 1 := by
            have h := hkb.out.apart (α := Rnd) (base := w.heap.size) (E' := 68) (m := 4) (v := .slice (some ⟨gg, 0, none⟩) (to.length + 1) cap) (f := Rnd.cells) (l := to ++ [⟨l[k].frame, ta, tb, winOf ta tb⟩]) (by unfold OwnL; simpa [Rnd.cells] using HOW.out) (by decide)
            simpa [Value.ownBlock] using h
          refine ⟨k + 1, by omega, by go_num, some ⟨gg, 0, none⟩, cap, by rw [hst]; simp, ?_, ?_, ?_, ?_⟩
          · rw [hst]
            have h : OwnL w1 w.heap.size 68 4 (.slice (some ⟨gg, 0, none⟩) (to.length + 1) cap) Rnd.cells (to ++ [⟨l[k].frame, ta, tb, winOf ta tb⟩]) := by unfold OwnL; simpa [Rnd.cells] using HOW.out
            have h2 := (h.farG (g := w.heap.size + 1) (by simpa [Value.ownBlock] using hne) 0 (.int .i64 0)).farG (g := w.heap.size + 1) (by simpa [Value.ownBlock] using hne) 1 (.int .i64 0)
            simpa using h2
          · exact (hrb.out.farG (by omega) _ _).farG (by omega) _ _
          · rw [hst]; exact (hkb.out.set 0 _).set 1 _
          · exact bSetG (bSetG hb2 (by omega) _ _) (by omega) _ _
        case measure => simp [intOf]; omega
      · have h7' : (l[k].kind == 7) = false := by simpa using h7
        have hs7 : thr (l.take (k + 1)) = ⟨(thr (l.take k)).out, (thr (l.take k)).a + (if hit l[k] 0 then 1 else 0), (thr (l.take k)).b + (if hit l[k] 1 then 1 else 0)⟩ := by
          rw [HS.out, stepT, if_neg (by simpa using h7)]
        have HS7 := Lib.hid hs7
        clear h7 hs7
        obtain ⟨em, hem⟩ : ∃ em, em = l[k].emitter := ⟨_, rfl⟩
        rw [← hem] at h1
        have HEM := Lib.hid hem
        have hrl := HRes.out.lt
        have hcases : (l[k].kind == 5) = false ∨ (l[k].kind == 5) = true ∧ (em = 1 ∨ em = 2 ∨ ((em == 1) = false ∧ (em == 2) = false)) := by
          cases (l[k].kind == 5)
          · exact .inl rfl
          · right
            refine ⟨rfl, ?_⟩
            by_cases e1 : em = 1
            · exact .inl e1
            · by_cases e2 : em = 2
              · exact .inr (.inl e2)
              · exact .inr (.inr ⟨by simpa using e1, by simpa using e2⟩)
        clear hem
        rcases hcases with k5 | ⟨k5, rfl | rfl | ⟨m1, m2⟩⟩
        · have hh : hit l[k] 0 = false ∧ hit l[k] 1 = false := by simp [hit, k5]
          have HH := Lib.hid hh
          clear hh
          go_wp2
          go_roundw
          case rel =>
            have hst := HS7.out
            rw [HH.out.1, HH.out.2] at hst
            simp only [Bool.false_eq_true, if_false, Int.add_zero] at hst
            refine ⟨k + 1, by omega, by go_num, A', cp, by rw [hst], ?_, ?_, ?_, bAlloc hb _⟩
            · rw [hst]; exact HO.out.alloc _
            · exact HRes.out.alloc _
            · rw [hst]; exact HKl.out.alloc _
          case measure => simp [intOf]; omega
        · have hh : hit l[k] 0 = false ∧ hit l[k] 1 = true := by simp [hit, k5, ← HEM.out]
          have HH := Lib.hid hh
          clear hh
          go_wp2
          go_roundw
          case rel =>
            have hst := HS7.out
            rw [HH.out.1, HH.out.2] at hst
            simp only [Bool.false_eq_true, if_false, Int.add_zero, if_true] at hst
            refine ⟨k + 1, by omega, by go_num, A', cp, by rw [hst], ?_, ?_, ?_, ?_⟩
            · rw [hst]; exact (HO.out.farG (HKl.out.apart HO.out (by decide)) _ _).alloc _
            · exact (HRes.out.farG (by omega) _ _).alloc _
            · rw [hst]; exact (HKl.out.set 1 _).alloc _
            · exact bAlloc (bSetG hb (by omega) _ _) _
          case measure => simp [intOf]; omega
        · have hh : hit l[k] 0 = true ∧ hit l[k] 1 = false := by simp [hit, k5, ← HEM.out]
          have HH := Lib.hid hh
          clear hh
          go_wp2
          go_roundw
          case rel =>
            have hst := HS7.out
            rw [HH.out.1, HH.out.2] at hst
            simp only [Bool.false_eq_true, if_false, Int.add_zero, if_true] at hst
            refine ⟨k + 1, by omega, by go_num, A', cp, by rw [hst], ?_, ?_, ?_, ?_⟩
            · rw [hst]; exact (HO.out.farG (HKl.out.apart HO.out (by decide)) _ _).alloc _
            · exact (HRes.out.farG (by omega) _ _).alloc _
            · rw [hst]; exact (HKl.out.set 0 _).alloc _
            · exact bAlloc (bSetG hb (by omega) _ _) _
          case measure => simp [intOf]; omega
        · have hh : hit l[k] 0 = false ∧ hit l[k] 1 = false := by
            simp only [beq_eq_false_iff_ne, ne_eq] at m1 m2
            simp [hit, k5, ← HEM.out, m1, m2]
          have HH := Lib.hid hh
          clear hh
          go_wp2
          go_roundw
          case rel =>
            have hst := HS7.out
            rw [HH.out.1, HH.out.2] at hst
            simp only [Bool.false_eq_true, if_false, Int.add_zero] at hst
            refine ⟨k + 1, by omega, by go_num, A', cp, by rw [hst], ?_, ?_, ?_, bAlloc hb _⟩
            · rw [hst]; exact HO.out.alloc _
            · exact HRes.out.alloc _
            · rw [hst]; exact HKl.out.alloc _
          case measure => simp [intOf]; omega
    · have hkl2 : l.take k = l := List.take_of_length_le (by omega)
      rw [hkl2] at hown hkl
      rw [hkl2]
      have r0 := hres.cell 0
      have r1 := hres.cell 1
      have f0 := hres.frozen 0
      have f1 := hres.frozen 1
      have k0 := hkl.cell 0
      have k1 := hkl.cell 1
      simp only [List.getElem?_toArray, List.getElem?_cons_zero, List.getElem?_cons_succ] at k0 k1 r0 r1
      have HO := Lib.hid hown
      have HR2 := Lib.hid hres
      clear hown hkl2 hres hkl t1 t2 t3 t4 t5
      go_wp2
      go_region
      go_wp2
      have hfin : Blk ((wr.setCell ⟨w.heap.size, 0, none⟩ (.int .i64 (thr l).a)).setCell ⟨w.heap.size, 1, none⟩ (.int .i64 (thr l).b)).drew w.heap.size 66 #[.int .i64 (thr l).a, .int .i64 (thr l).b] := ((HR2.out.set 0 _).set 1 _).drew
      have g0 := hfin.cell 0
      have g1 := hfin.cell 1
      simp only [List.getElem?_toArray, List.getElem?_cons_zero, List.getElem?_cons_succ] at g0 g1
      refine bodyPost_ret (v := .tuple #[.slice A' (thr l).out.length cp, .agg #[.int .i64 (thr l).a, .int .i64 (thr l).b]]) ?_ rfl ⟨A', cp, rfl, ?_, ?_⟩
      · simp [results, Try.results66, go_sem, g0, g1]
      · exact ((HO.out.farG (HR2.out.apart HO.out (by decide)) _ _).farG (HR2.out.apart HO.out (by decide)) _ _).drew
      · exact (bSetG (bSetG hb (Nat.le_refl _) _ _) (Nat.le_refl _) _ _).drew

set_option maxHeartbeats 400000 in
theorem rounds_any (A : Option Addr) (c : Nat) (l : List Ev) (w : World) (hn : l.length ≤ 1000000) (hr : Rd w w.heap.size A (l.flatMap Ev.cells)) (hok : rightEv 0 l = true) :
    Calls Try.prog 24 #[.slice A l.length c] w fun e w' => ∃ A' cp, e = .returned (.tuple #[.slice A' (thr l).out.length cp, .int .i64 0]) ∧
      OwnL w' w.heap.size 68 4 (.slice A' (thr l).out.length cp) Rnd.cells (thr l).out ∧ Below w.heap.size w w' := by
  have HR := Lib.hid hr
  have HK := Lib.hid hok
  clear hr hok
  go_enter Try.func24, Try.ntmps24
  go_wp2_with fail
  refine (right_any _ _ l _ hn HR.out).mono ?_
  rintro e w1 ⟨rfl, hb1⟩
  rw [HK.out]
  go_wp2_with fail
  refine (through_any _ _ l _ hn ((HR.out.below hb1 (Nat.le_refl _)).more hb1.size)).mono ?_
  rintro e w2 ⟨A', cp, rfl, hown, hb2⟩
  have HO := Lib.hid hown
  clear hown
  go_wp2
  go_ret2
  exact ⟨A', cp, rfl, (HO.out.more hb1.size).alloc _, bAlloc (bTrans hb1 hb2) _⟩

set_option maxHeartbeats 400000 in
theorem rounds_no (A : Option Addr) (c : Nat) (l : List Ev) (w : World) (hn : l.length ≤ 1000000) (hr : Rd w w.heap.size A (l.flatMap Ev.cells)) (hok : rightEv 0 l = false) :
    Calls Try.prog 24 #[.slice A l.length c] w fun e w' => e = .returned (.tuple #[.slice none 0 0, .int .i64 1]) ∧ Below w.heap.size w w' := by
  have HR := Lib.hid hr
  have HK := Lib.hid hok
  clear hr hok
  go_enter Try.func24, Try.ntmps24
  go_wp2_with fail
  refine (right_any _ _ l _ hn HR.out).mono ?_
  rintro e w1 ⟨rfl, hb1⟩
  rw [HK.out]
  go_wp2
  go_ret2
  exact ⟨rfl, hb1⟩



def evD : Ev := ⟨0, 2, 5, 0, 0, 0, 0, 0, 0⟩
def evR : Ev := ⟨0, 0, 7, 0, 0, 0, 0, 0, 0⟩
set_option maxRecDepth 100000 in
set_option maxHeartbeats 1000000 in
theorem awake_any (w : World) : Calls Try.prog 22 #[] w fun e w' => e = .returned (.bool true) ∧ Below w.heap.size w w' := by
  go_enter Try.func22, Try.ntmps22
  go_wp2_with fail
  refine (rounds_any _ _ [evD, evD, evD, evR] _ (by simp) ?_ rfl).mono ?_
  · have := (OwnL.lit (w := w.alloc (.cells #[.int .i64 0, .int .i64 2, .int .i64 5, .int .i64 0, .int .i64 0, .int .i64 0, .int .i64 0, .int .i64 0, .int .i64 0] 45)) (base := 0) (E := 45) (m := 9) (f := Ev.cells) [evD, evD, evD, evR] ([evD, evD, evD, evR].flatMap Ev.cells).toArray (Nat.zero_le _) (by simp [maxLen]) Ev.cells_length rfl (n := 4) (c := 4) rfl rfl).rd
    simpa [evD, evR, Ev.cells] using this
  have hv : (thr [evD, evD, evD, evR]).out = [⟨0, 3, 0, 0⟩] := rfl
  rw [hv]
  rintro e w1 ⟨A', cp, rfl, hown, hb⟩
  obtain ⟨g, rfl, -, -, -⟩ := hown.formA (by simp)
  have c0 := hown.cell Rnd.cells_length (k := 0) (j := 1) (u := .int .i64 3) (by simp) rfl
  have c1 := hown.cell Rnd.cells_length (k := 0) (j := 3) (u := .int .i64 0) (by simp) rfl
  simp only [Nat.zero_mul, Nat.zero_add, List.length_cons, List.length_nil] at c0 c1 ⊢
  clear hv hown
  go_wp2
  go_ret
  exact ⟨rfl, (by repeat (first | exact Below.refl _ _ | (with_reducible assumption) | apply bAlloc | apply below_drewN | apply Below.drew | (refine bTrans ?_ (by with_reducible assumption))))⟩
end Go.Proofs.Ytnaclkaapicelaa.Ser

namespace Go.Proofs.Ytnaclkaapicelaa.Ser
open Go.RowKit
set_option maxRecDepth 100000
def placeZ (n : Int) : Int := if n = 0 ∨ n = 1 then n else 2
theorem place_any (n : Int) (w : World) : Calls Try.prog 67 #[.int .i64 n] w fun e w' => e = .returned (.int .i64 (placeZ n)) ∧ w = w' := by
  by_cases h0 : n = 0
  · subst h0
    go_enter Try.func67, Try.ntmps67
    go_wp2
    go_ret
    exact ⟨rfl, rfl⟩
  · by_cases h1 : n = 1
    · subst h1
      go_enter Try.func67, Try.ntmps67
      go_wp2
      go_ret
      exact ⟨rfl, rfl⟩
    · have HZ := Lib.hid (show placeZ n = 2 by unfold placeZ; rw [if_neg (by omega)])
      have k0 : (n == 0) = false := by simpa using h0
      have k1 : (n == 1) = false := by simpa using h1
      clear h0 h1
      go_enter Try.func67, Try.ntmps67
      go_wp2
      go_ret
      exact ⟨ret_int HZ.out.symm, rfl⟩
/-- The first round that somebody won. -/
def firstW : List Rnd → Option Nat
  | [] => none
  | r :: l => if 0 ≤ r.win then some 0 else (firstW l).map (· + 1)
theorem firstW_none : ∀ {l : List Rnd}, firstW l = none → ∀ r ∈ l, r.win < 0
  | [], _, _, h => by simp at h
  | r :: l, h, x, hx => by
    unfold firstW at h
    split at h
    · cases h
    · rcases List.mem_cons.1 hx with rfl | hx
      · omega
      · exact firstW_none (by simpa using h) x hx
theorem firstW_some : ∀ {l : List Rnd} {i : Nat}, firstW l = some i → ∃ h : i < l.length, 0 ≤ (l[i]).win ∧ ∀ j (hj : j < l.length), j < i → (l[j]).win < 0
  | [], _, h => by simp [firstW] at h
  | r :: l, i, h => by
    unfold firstW at h
    split at h
    · cases h
      exact ⟨by simp, by simpa, fun j _ hj => absurd hj (by omega)⟩
    · rename_i hn
      obtain ⟨k, hk, rfl⟩ := Option.map_eq_some_iff.1 h
      obtain ⟨h1, h2, h3⟩ := firstW_some hk
      refine ⟨by simpa using h1, by simpa using h2, fun j hj hji => ?_⟩
      cases j with
      | zero => simpa using hn
      | succ j => simpa using h3 j (by simpa using hj) (by omega)
theorem firstW_snoc : ∀ (l : List Rnd) (x : Rnd), firstW (l ++ [x]) = (firstW l).or (if 0 ≤ x.win then some l.length else none)
  | [], x => by
    show (if 0 ≤ x.win then some 0 else (firstW []).map (· + 1)) = _
    unfold firstW
    simp
  | r :: l, x => by
    rw [List.cons_append, firstW, firstW, firstW_snoc l x]
    split
    · rfl
    · cases h : firstW l with
      | some k => simp
      | none => by_cases hx : 0 ≤ x.win <;> simp [hx]
theorem firstW_take (l : List Rnd) (k : Nat) (h : k < l.length) : firstW (l.take (k + 1)) = (firstW (l.take k)).or (if 0 ≤ (l[k]).win then some k else none) := by
  rw [List.take_succ_eq_append_getElem h, firstW_snoc, List.length_take, Nat.min_eq_left (by omega)]
theorem firstW_append_some : ∀ {l m : List Rnd} {k : Nat}, firstW l = some k → firstW (l ++ m) = some k
  | [], _, _, h => by simp [firstW] at h
  | r :: l, m, k, h => by
    rw [List.cons_append]
    unfold firstW at h ⊢
    split
    · rename_i h0; rwa [if_pos h0] at h
    · rename_i h0
      rw [if_neg h0] at h
      obtain ⟨j, hj, rfl⟩ := Option.map_eq_some_iff.1 h
      rw [firstW_append_some hj]; rfl
def RndAt (w : World) (b o : Nat) (r : Rnd) : Prop := w.cell? ⟨b, o, none⟩ = some (.int .i64 r.frame) ∧ w.cell? ⟨b, o + 1, none⟩ = some (.int .i64 r.a) ∧ w.cell? ⟨b, o + 2, none⟩ = some (.int .i64 r.b) ∧ w.cell? ⟨b, o + 3, none⟩ = some (.int .i64 r.win)
theorem Rd.rnd {w : World} {B : Nat} {A : Option Addr} {l : List Rnd} (h : Rd w B A (l.flatMap Rnd.cells)) {k : Nat} (hk : k < l.length) :
    ∃ b off, A = some ⟨b, off, none⟩ ∧ b < B ∧ RndAt w b (off + k * 4) l[k] := by
  obtain ⟨b, off, hA, hb, hat⟩ := h.at_ Rnd.cells_length (by omega) hk
  exact ⟨b, off, hA, hb, hat 0 _ rfl, hat 1 _ rfl, hat 2 _ rfl, hat 3 _ rfl⟩
/-- What Decided answers at a series of one. -/
def decV (l : List Rnd) : Int × Int × Int := match firstW l with
  | none => (0, 0, 6)
  | some k => ((l.getD k ⟨0, 0, 0, 0⟩).win, (k : Int), 0)
set_option maxHeartbeats 1000000 in
theorem decided_any (A : Option Addr) (c : Nat) (l : List Rnd) (w : World) (hn : l.length ≤ 1000000) (hw : ∀ r ∈ l, r.win = -1 ∨ r.win = 0 ∨ r.win = 1) (hr : Rd w w.heap.size A (l.flatMap Rnd.cells)) :
    Calls Try.prog 25 #[.slice A l.length c, .int .i64 1] w fun e w' => e = .returned (.tuple #[.int .i64 (decV l).1, .int .i64 (decV l).2.1, .int .i64 (decV l).2.2]) ∧ Below w.heap.size w w' := by
  have HR := Lib.hid hr
  have HW := Lib.hid hw
  have HP := Lib.hid (fun n V => place_any n V)
  clear hr hw
  go_enter Try.func25, Try.ntmps25
  go_wp2
  go_loopw [24] (fun i wr => ∃ k : Nat, k ≤ l.length ∧ i = .int .i64 k ∧ Hid (firstW (l.take k) = none) ∧ Hid (Blk wr w.heap.size 120 #[.int .i64 0, .int .i64 0, .int .i64 k]) ∧ Below w.heap.size w wr) (fun i _ => l.length - (intOf i).toNat)
  case atStart => exact ⟨0, Nat.zero_le _, rfl, rfl, Blk.new _ _ _, (by repeat (first | exact Below.refl _ _ | (with_reducible assumption) | apply bAlloc | apply below_drewN | apply Below.drew))⟩
  case round =>
    obtain ⟨k, hk, rfl, HF, HB, hb⟩ := hrel
    by_cases hlt : k < l.length
    · obtain ⟨b, off, rfl, hB, h0, h1, h2, h3⟩ := Rd.rnd (HR.out.below hb (Nat.le_refl _)) hlt
      have hbk := block_lt_of_cell h0
      have hs0 := hb.size
      simp only at hbk
      have hwin := HW.out l[k] (List.getElem_mem hlt)
      have hft := firstW_take l k hlt
      rw [HF.out] at hft
      have HFT := Lib.hid hft
      have HDV : ∀ _ : 0 ≤ (l[k]).win, Hid (decV l = ((l[k]).win, (k : Int), 0)) := fun h => Lib.hid (by
        have e1 : firstW l = some k := by
          have e2 : firstW (l.take (k + 1) ++ l.drop (k + 1)) = some k := firstW_append_some (by rw [hft, if_pos h]; rfl)
          rwa [List.take_append_drop] at e2
        unfold decV
        rw [e1]
        simp only [List.getD_eq_getElem?_getD, List.getElem?_eq_getElem hlt, Option.getD_some])
      clear hft
      have c0 := HB.out.cell 0
      have c1 := HB.out.cell 1
      have c2 := HB.out.cell 2
      have f0 := HB.out.frozen 0
      have f1 := HB.out.frozen 1
      have f2 := HB.out.frozen 2
      simp only [List.getElem?_toArray, List.getElem?_cons_zero, List.getElem?_cons_succ] at c0 c1 c2
      have hl := HB.out.lt
      obtain ⟨x, hx⟩ : ∃ x, x = (l[k]).win := ⟨_, rfl⟩
      rw [← hx] at h3 hwin HDV
      have HX := Lib.hid hx
      clear hx
      rcases hwin with rfl | rfl | rfl
      · go_wp2_with (first | (go_at_call 67; refine (HP.out (-1) _).mono ?_; rintro e w4 ⟨rfl, rfl⟩; rw [show placeZ (-1) = 2 from rfl]))
        go_roundw
        case rel => exact ⟨k + 1, by omega, by go_num, (show _ = _ by rw [HFT.out, ← HX.out]; rfl), (show Blk _ _ _ _ from by have := (HB.out.set 2 (.int .i64 ((k : Int) + 1))).alloc (.cells #[.int .i64 (l[k]).frame, .int .i64 (l[k]).a, .int .i64 (l[k]).b, .int .i64 (-1)] 68); simpa using this), bAlloc (bSetG hb (Nat.le_refl _) _ _) _⟩
        case measure => simp [intOf]; omega
      · have HD := HDV (by decide)
        go_wp2_with (first | (go_at_call 67; refine (HP.out 0 _).mono ?_; rintro e w4 ⟨rfl, rfl⟩; rw [show placeZ 0 = 0 from rfl]))
        refine bodyPost_ret (v := .tuple #[.int .i64 0, .int .i64 k, .int .i64 0]) (by simp [results, Try.results25, go_sem]) rfl ⟨by rw [HD.out], ?_⟩
        exact bAlloc (bSetG hb (Nat.le_refl _) _ _) _
      · have HD := HDV (by decide)
        go_wp2_with (first | (go_at_call 67; refine (HP.out 1 _).mono ?_; rintro e w4 ⟨rfl, rfl⟩; rw [show placeZ 1 = 1 from rfl]))
        refine bodyPost_ret (v := .tuple #[.int .i64 1, .int .i64 k, .int .i64 0]) (by simp [results, Try.results25, go_sem]) rfl ⟨by rw [HD.out], ?_⟩
        exact bAlloc (bSetG hb (Nat.le_refl _) _ _) _
    · have e0 : decV l = (0, 0, 6) := by
        have := HF.out
        rw [List.take_of_length_le (by omega)] at this
        unfold decV
        rw [this]
      have E0 := Lib.hid e0
      clear e0
      go_wp2
      exact bodyPost_ret (v := .tuple #[.int .i64 0, .int .i64 0, .int .i64 6]) (by simp [results, Try.results25, go_sem]) rfl ⟨by rw [E0.out], hb⟩
end Go.Proofs.Ytnaclkaapicelaa.Ser
