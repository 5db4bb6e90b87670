/-
  THE PLAIN LAW of what the cuts keep: their weights are those of all events, their length is within the frames, each event with a weight is inside one.
-/
import Derived.Test.YtillajaghkefbaaDoorReelSame
import Derived.Test.YtillajaghkefbaaDoorReelInside
namespace Go.Proofs.YtillajaghkefbaaDoor

def sumW (L : List Cut) : Int := (L.map Cut.weight).sum
def sumE (l : List Ev) : Int := (l.map fun e => weightOf e.kind).sum
theorem sumW_snoc (L : List Cut) (c : Cut) : sumW (L ++ [c]) = sumW L + c.weight := by simp [sumW, List.sum_append]
theorem sumE_snoc (l : List Ev) (e : Ev) : sumE (l ++ [e]) = sumE l + weightOf e.kind := by simp [sumE, List.sum_append]
theorem sumW_take (L : List Cut) (k : Nat) (h : k < L.length) : sumW (L.take (k + 1)) = sumW (L.take k) + L[k].weight := by
  rw [List.take_succ_eq_append_getElem h, sumW_snoc]
theorem sumE_take (l : List Ev) (k : Nat) (h : k < l.length) : sumE (l.take (k + 1)) = sumE (l.take k) + weightOf l[k].kind := by
  rw [List.take_succ_eq_append_getElem h, sumE_snoc]
theorem sumW_join (L : List Cut) (c : Cut) : sumW (joinC L c) = sumW L + c.weight := by
  rcases List.eq_nil_or_concat L with rfl | ⟨L', d, rfl⟩
  · simp [joinC, sumW]
  · rw [List.concat_eq_append, joinC_snoc]
    split
    · rw [sumW_snoc, sumW_snoc]; simp only; omega
    · rw [sumW_snoc]
theorem sum_same (fr ld tr : Int) (l : List Ev) : ∀ k, k ≤ l.length → sumW (cutsOf (l.take k) fr ld tr) = sumE (l.take k)
  | 0, _ => by simp [cutsOf, sumW, sumE]
  | k + 1, h => by
    have ih := sum_same fr ld tr l k (by omega)
    rw [cutsOf_take l fr ld tr k (by omega), sumE_take l k (by omega), stepC]
    have hw := weightOf_bd l[k].kind
    split
    · rw [sumW_join, ih]; rfl
    · rw [ih]; omega
theorem length_le (N : Int) : ∀ (L : List Cut) (z : Int), RightL z L → (∀ c ∈ L, c.to_ ≤ N) → lengthOf L ≤ max 0 (N - z - 1)
  | [], z, _, _ => by simp [lengthOf]; omega
  | c :: L, z, h, hN => by
    obtain ⟨h1, h2, h3, h4, h5, h6⟩ := h
    have ih := length_le N L c.to_ h6 fun x hx => hN x (by simp [hx])
    have h7 := hN c (by simp)
    have : lengthOf (c :: L) = c.to_ - c.frm + lengthOf L := by simp [lengthOf]
    rw [this]
    omega
theorem right_of (N : Int) (hN : N ≤ 1073741824) : ∀ (L : List Cut) (z : Int), (∀ c ∈ L, z < c.frm) → L.Pairwise (fun c d => c.to_ < d.frm) → (∀ c ∈ L, c.frm < c.to_ ∧ c.to_ ≤ N) → (∀ c ∈ L, 0 ≤ c.weight ∧ c.weight ≤ 1073741824) → RightL z L
  | [], _, _, _, _, _ => trivial
  | c :: L, z, hz, hp, he, hw => by
    rw [List.pairwise_cons] at hp
    have h1 := hz c (by simp)
    have h2 := he c (by simp)
    have h3 := hw c (by simp)
    exact ⟨h1, h2.1, by omega, h3.1, h3.2, right_of N hN L c.to_ hp.1 hp.2 (fun x hx => he x (by simp [hx])) (fun x hx => hw x (by simp [hx]))⟩
structure Kept (l : List Ev) (fr : Int) (L : List Cut) : Prop where
  short : L.length ≤ l.length
  right : RightL (-1) L
  ends : ∀ c ∈ L, 0 ≤ c.frm ∧ c.frm ≤ c.to_ ∧ c.to_ ≤ 1073741824
  weights : ∀ c ∈ L, 0 ≤ c.weight ∧ c.weight ≤ 10 * l.length
  sum : sumE l = sumW L
  len : lengthOf L ≤ fr
  inside : ∀ e ∈ l, 0 < weightOf e.kind → ∃ j : Nat, ∃ h : j < L.length, insK e.frame L = (j : Int) ∧ insB e.frame L = true ∧ L[j].frm ≤ e.frame ∧ e.frame < L[j].to_
theorem kept (l : List Ev) (fr ld tr : Int) (h0 : 0 ≤ fr) (h1 : fr ≤ 1073741824) (hl : 0 ≤ ld) (ht : 0 ≤ tr) (hlen : l.length ≤ 1000) (h : evsOk fr 0 l = true) : Kept l fr (cutsOf l fr ld tr) := by
  obtain ⟨F, hi⟩ := inv_all (N := fr) hl ht l [] 0 [] ⟨by simp, by simp, by simp, by simp, by simp⟩ (by omega) h (by simp)
  rw [List.nil_append] at hi
  change CutsInv fr ld tr l F (cutsOf l fr ld tr) at hi
  have hsum := sum_same fr ld tr l l.length (Nat.le_refl _)
  have hbd := cutsOf_bd fr ld tr l l.length (Nat.le_refl _)
  rw [List.take_length] at hsum hbd
  have hev := evsOk_mem fr l 0 h
  generalize cutsOf l fr ld tr = L at *
  have hright : RightL (-1) L := right_of fr h1 L (-1) (fun c hc => by have := hi.ends c hc; omega) hi.gaps (fun c hc => ⟨(hi.ends c hc).2.1, (hi.ends c hc).2.2⟩) (fun c hc => by have := hbd.1 c hc; omega)
  refine ⟨hbd.2, hright, fun c hc => by have := hi.ends c hc; omega, hbd.1, hsum.symm, ?_, fun e he hw => ?_⟩
  · have := length_le fr L (-1) hright fun c hc => (hi.ends c hc).2.2
    omega
  · have hfe := hev e he
    obtain ⟨c, hc, c1, c2⟩ := (hi.marked e.frame (by omega) (by omega)).1 ⟨e, he, by omega, by omega, by omega⟩
    have hne := idxFrom_some e.frame L 0 ⟨c, hc, by simp [inOne, c1, c2]⟩
    rcases idxFrom_bd e.frame L 0 with hb | ⟨j, hj, hjl, hin⟩
    · exact absurd hb hne
    · rw [Nat.zero_add] at hj
      simp only [inOne, Bool.and_eq_true, decide_eq_true_eq] at hin
      refine ⟨j, hjl, ?_, ?_, hin.1, hin.2⟩
      · unfold insK; rw [hj, if_neg (by omega)]
      · unfold insB; rw [hj]; simp
end Go.Proofs.YtillajaghkefbaaDoor
