/-
  A text cut in lines: the program's.
-/
import Derived.Test.YtlonefjbcooaaaaDoorScL
import Derived.Test.YtlonefjbcooaaaaDoorGoL
namespace Go.Proofs.YtlonefjbcooaaaaDoor
open Go.RowKit
set_option maxRecDepth 100000
set_option linter.unusedSimpArgs false
/-- A row of words, in a row of rows. -/
def vF (e : Nat × List (List UInt8)) : List Value := [.slice (some ⟨e.1, 0, none⟩) e.2.length e.2.length]
theorem vF_length (e : Nat × List (List UInt8)) : (vF e).length = 1 := rfl
theorem infoSS : ∃ i z, Tryd.prog.info? 43 = some i ∧ i.zero = some z ∧ i.size = 1 ∧ i.bytes ≤ 140 ∧ z.cells.size = 1 ∧ 0 < 1 := by
  obtain ⟨i, h1, h2⟩ := Option.map_eq_some_iff.1 (show (Tryd.prog.info? 43).map (fun i => (i.zero, i.size, i.bytes)) = some (some (.slice none 0 0), 1, 24) by kernel_rfl)
  simp only [Prod.mk.injEq] at h2
  exact ⟨i, _, h1, h2.1, h2.2.1, by omega, rfl, by decide⟩
theorem appSS : AppT 48 43 1 vF := ⟨Tryd.underlying48, infoSS, vF_length, fun a u hu => by simp only [vF, List.mem_singleton] at hu; subst hu; rfl⟩
/-- The lines that were cut so far, in memory. -/
structure CutW (W : World) (B k : Nat) (G : List (Nat × List (List UInt8))) (N : List Nat) (l at_ : Value) (o a : Nat) : Prop where
  blk : Blk W k 51 #[l, at_, .int .i64 o, .int .i64 a]
  low : B < k
  kx : Blk W B 51 #[.slice none 0 0, .slice none 0 0, .int .i64 0, .int .i64 0]
  gl : OwnL W B 43 1 l vF G
  ga : OwnL W B 3 1 at_ iF N
  rows : ∀ e ∈ G, OwnL W B 9 1 (.slice (some ⟨e.1, 0, none⟩) e.2.length e.2.length) sF e.2
section
variable {W W1 : World} {B k : Nat} {G : List (Nat × List (List UInt8))} {N : List Nat} {l at_ l' : Value} {o a : Nat}
theorem CutW.below (h : CutW W B k G N l at_ o a) (hb : Below W.heap.size W W1) : CutW W1 B k G N l at_ o a :=
  ⟨h.blk.on hb, h.low, h.kx.on hb, h.gl.below hb, h.ga.below hb, fun e he => (h.rows e he).below hb⟩
theorem CutW.setO (h : CutW W B k G N l at_ o a) (o' : Nat) (v : Int) (hv : v = (o' : Int)) : CutW (W.setCell ⟨k, 2, none⟩ (.int .i64 v)) B k G N l at_ o' a :=
  hv ▸ ⟨h.blk.set 2 _, h.low, h.kx.farG (Nat.ne_of_lt h.low) _ _, h.gl.farG (h.blk.apart h.gl (by decide)) _ _, h.ga.farG (h.blk.apart h.ga (by decide)) _ _, fun e he => (h.rows e he).farG (h.blk.apart (h.rows e he) (by decide)) _ _⟩
theorem CutW.setA (h : CutW W B k G N l at_ o a) (a' : Nat) (v : Int) (hv : v = (a' : Int)) : CutW (W.setCell ⟨k, 3, none⟩ (.int .i64 v)) B k G N l at_ o a' :=
  hv ▸ ⟨h.blk.set 3 _, h.low, h.kx.farG (Nat.ne_of_lt h.low) _ _, h.gl.farG (h.blk.apart h.gl (by decide)) _ _, h.ga.farG (h.blk.apart h.ga (by decide)) _ _, fun e he => (h.rows e he).farG (h.blk.apart (h.rows e he) (by decide)) _ _⟩
theorem CutW.appL (h : CutW W B k G N l at_ o a) {x : Nat × List (List UInt8)} (hg : W.grownBy W1 l.ownBlock) (hl : OwnL W1 B 43 1 l' vF (G ++ [x])) (hx : OwnL W B 9 1 (.slice (some ⟨x.1, 0, none⟩) x.2.length x.2.length) sF x.2) :
    CutW (W1.setCell ⟨k, 0, none⟩ l') B k (G ++ [x]) N l' at_ o a := by
  have hb : Blk W1 k 51 #[l, at_, .int .i64 o, .int .i64 a] := h.blk.keptApart h.gl (by decide) hg
  have ha : OwnL W1 B 3 1 at_ iF N := h.ga.keptApart h.gl (by decide) hg
  refine ⟨hb.set 0 _, h.low, (h.kx.keptApart h.gl (by decide) hg).farG (Nat.ne_of_lt h.low) _ _, hl.farG (hb.apart hl (by decide)) _ _, ha.farG (hb.apart ha (by decide)) _ _, fun e he => ?_⟩
  have hr : OwnL W1 B 9 1 (.slice (some ⟨e.1, 0, none⟩) e.2.length e.2.length) sF e.2 := by
    rcases List.mem_append.1 he with he | he
    · exact (h.rows e he).keptApart h.gl (by decide) hg
    · rw [List.mem_singleton.1 he]; exact hx.keptApart h.gl (by decide) hg
  exact hr.farG (hb.apart hr (by decide)) _ _
theorem CutW.appA (h : CutW W B k G N l at_ o a) {n : Nat} (hg : W.grownBy W1 at_.ownBlock) (hl : OwnL W1 B 3 1 l' iF (N ++ [n])) : CutW (W1.setCell ⟨k, 1, none⟩ l') B k G (N ++ [n]) l l' o a := by
  have hb : Blk W1 k 51 #[l, at_, .int .i64 o, .int .i64 a] := h.blk.keptApart h.ga (by decide) hg
  have ha : OwnL W1 B 43 1 l vF G := h.gl.keptApart h.ga (by decide) hg
  refine ⟨hb.set 1 _, h.low, (h.kx.keptApart h.ga (by decide) hg).farG (Nat.ne_of_lt h.low) _ _, ha.farG (hb.apart ha (by decide)) _ _, hl.farG (hb.apart hl (by decide)) _ _, fun e he => ?_⟩
  have hr : OwnL W1 B 9 1 (.slice (some ⟨e.1, 0, none⟩) e.2.length e.2.length) sF e.2 := (h.rows e he).keptApart h.ga (by decide) hg
  exact hr.farG (hb.apart hr (by decide)) _ _
theorem CutW.cells (h : CutW W B k G N l at_ o a) : W.cell? ⟨k, 0, none⟩ = some l ∧ W.cell? ⟨k, 1, none⟩ = some at_ ∧ W.cell? ⟨k, 2, none⟩ = some (.int .i64 o) ∧ W.cell? ⟨k, 3, none⟩ = some (.int .i64 a) ∧ k < W.heap.size ∧ (∀ j, W.frozen? ⟨k, j, none⟩ = false) :=
  ⟨h.blk.cell 0, h.blk.cell 1, h.blk.cell 2, h.blk.cell 3, h.blk.lt, fun j => h.blk.frozen j⟩
end
theorem split_any (p : List UInt8) (w : World) (hp : p.length ≤ 1000000) (h : ScW w w.heap.size) :
    Calls Tryd.prog 22 #[.string ⟨p.toArray⟩, .string ⟨#[32]⟩] w fun e w' => ∃ g, e = .returned (.slice (some ⟨g, 0, none⟩) (cutL 32 p).length (cutL 32 p).length) ∧ OwnL w' w.heap.size 9 1 (.slice (some ⟨g, 0, none⟩) (cutL 32 p).length (cutL 32 p).length) sF (cutL 32 p) ∧ Below w.heap.size w w' := by
  obtain ⟨m, hm⟩ := h.mx
  have h1 := splitB_cutL 32 ⟨p.toArray⟩
  have h2 := countB_cutL 32 ⟨p.toArray⟩
  simp only [List.toList_toArray] at h1 h2
  refine (Tryd.strings_Split ⟨p.toArray⟩ ⟨#[32]⟩ m w (by simp [ByteArray.size]; omega) hm (by decide)).mono ?_
  rintro e w' ⟨rfl, rfl⟩
  rw [h2]
  refine ⟨_, rfl, ?_, bAlloc (Below.refl _ _) _⟩
  refine OwnL.lit (cutL 32 p) _ (Nat.le_refl _) ?_ sF_length ?_ rfl rfl
  · have := cutL_length_le 32 p; unfold maxLen; omega
  · rw [← h1]
    simp only [List.toList_toArray]
    generalize Lib.splitB ⟨#[32]⟩ 0 _ ⟨p.toArray⟩ = L
    induction L with
    | nil => rfl
    | cons x r ih =>
      rw [List.map_cons, List.map_cons, List.flatMap_cons, ih]
      rfl
theorem cutS_any (T : List UInt8) (w : World) (hp : T.length ≤ 1000000) (h : ScW w w.heap.size) :
    Calls Tryd.prog 35 #[.string ⟨T.toArray⟩, .string ⟨#[10]⟩] w fun e w' => ∃ x r b, e = .returned (.tuple #[.string ⟨x.toArray⟩, .string ⟨r.toArray⟩, .bool b]) ∧ ((b = false ∧ x = T ∧ r = [] ∧ 10 ∉ T) ∨ (b = true ∧ T = x ++ 10 :: r ∧ 10 ∉ x)) ∧ Below w.heap.size w w' := by
  obtain ⟨m, hm⟩ := h.mx
  refine (Tryd.strings_Cut ⟨T.toArray⟩ ⟨#[10]⟩ m w (by simp [ByteArray.size]; omega) hm).mono ?_
  rintro e w' ⟨rfl, n, rfl⟩
  refine ⟨_, _, _, rfl, ?_, below_drewN (Below.refl _ _) n⟩
  simp only [List.toList_toArray]
  rcases cut_cutL 10 T with ⟨h1, h2⟩ | ⟨a, r, h1, h2, h3⟩
  · rw [h2]; exact .inl ⟨rfl, rfl, rfl, h1⟩
  · rw [h3]; exact .inr ⟨rfl, h1, h2⟩
end Go.Proofs.YtlonefjbcooaaaaDoor
