/-
  What the program's own tables hold when a law begins, for the script.
-/
import Derived.Test.YtlonefjbcooaaaaDoorScN
import Derived.Test.YtlonefjbcooaaaaDoorCards
import Derived.Lib.LaidTab
import Derived.Stop.LaidErr
namespace Go.Proofs.YtlonefjbcooaaaaDoor
open Go.RowKit Go.WideShapes Go.ChangeShapes Go.ChangeAt
set_option maxRecDepth 100000
def strTab {H : Type} (zs : List (List UInt8)) : DataW H := .agg (zs.map fun z => .lit (.string z))
theorem cells_of_strs {H : Type} {enc : TypeId × Value → H} {P : Program} {w : World} {base : Nat} {sp : Nat → Bool} {held : Bool} {fuel : Nat} {t e : TypeId} {n : Nat} {cs : List Value} {zs : List (List UInt8)} {p : List MemPlace}
    (ht : P.underlying t = some (.array n e)) (he : P.underlying e = some .string) (hce : P.cellsOf e = 1) (hct : P.cellsOf t = n)
    (h : DataW.trod enc P w base sp held fuel t cs = some (strTab zs, p)) : cs = zs.map fun z => Value.string ⟨z.toArray⟩ := by
  cases fuel with
  | zero => simp [DataW.trod] at h
  | succ fuel =>
    simp only [DataW.trod, ht, hce, hct, Nat.mul_one] at h
    split at h
    · rename_i hl
      obtain ⟨xs, hm, hx⟩ := Option.map_eq_some_iff.1 h
      have hxs : xs.map (·.1) = zs.map fun z => (DataW.lit (.string z) : DataW H) := by
        have := congrArg Prod.fst hx
        simpa [strTab] using this
      have hxl : xs.length = n := by simpa using Lib.mapM_length hm
      have hzl : zs.length = n := by
        have := congrArg List.length hxs
        simp at this
        omega
      apply List.ext_getElem?
      intro i
      by_cases hi : i < n
      · obtain ⟨b, hb, hf⟩ := Lib.mapM_at hm i i (by simp [hi])
        obtain ⟨s, hc, rfl, _⟩ := DataW.trod_string he hf
        have h1 : cs[i]? = some (.string s) := by
          have := congrArg (·[0]?) hc
          simpa [List.getElem?_take, List.getElem?_drop] using this
        have h2 : (xs.map (·.1))[i]? = some (DataW.lit (.string s.data.toList) : DataW H) := by simp [hb]
        rw [hxs] at h2
        simp only [List.getElem?_map, Option.map_eq_some_iff, DataW.lit.injEq, Lit.string.injEq] at h2
        obtain ⟨z', hz', rfl⟩ := h2
        simp [h1, hz']
      · rw [List.getElem?_eq_none (by omega), List.getElem?_eq_none (by simp; omega)]
    · cases h
theorem strs_of_head {P : Program} {W : World} {name : String} {zs : List (List UInt8)} {rest : List (String × DataW Unit)} {g : Nat} {t e : TypeId} {n : Nat}
    (hg : P.globalNamed name = some g) (hty : (P.globals[g]?).map (·.type) = some t) (ht : P.underlying t = some (.array n e)) (he : P.underlying e = some .string) (hce : P.cellsOf e = 1) (hct : P.cellsOf t = n)
    (h : laidMet P ((name, strTab zs) :: rest) W) : ∀ i, i < zs.length → W.cell? ⟨g, i, none⟩ = some (.string ⟨(zs.getD i []).toArray⟩) := by
  obtain ⟨ps, ⟨g', t', cs, fuel, p, q, hg', ht', hvar, hd, _, _⟩, _⟩ := h
  obtain rfl := Option.some.inj (hg.symm.trans hg')
  obtain rfl := Option.some.inj (hty.symm.trans ht')
  rw [show cs = (zs.map fun z => Value.string ⟨z.toArray⟩).toArray from by rw [← cells_of_strs ht he hce hct hd]] at hvar
  intro i hi
  have := World.var?_cell hg hvar i
  simpa [List.getD, hi] using this
theorem gPowT : (Tryd.prog.globals[3]?).map (·.type) = some 142 := by kernel_rfl
theorem cells20 : Tryd.prog.cellsOf 142 = 20 := by kernel_rfl
theorem cellsU64 : Tryd.prog.cellsOf 87 = 1 := by kernel_rfl
theorem powData : (Rows.laid_internal_strconv_uint64pow10 : DataW Unit) = Lib.tabData .u64 Lib.pow10Tab := by kernel_rfl
theorem cells7i : Tryd.prog.cellsOf 94 = 7 := by kernel_rfl
theorem cells7s : Tryd.prog.cellsOf 93 = 7 := by kernel_rfl
theorem cellsStr1 : Tryd.prog.cellsOf 9 = 1 := by kernel_rfl
theorem cellsInt1 : Tryd.prog.cellsOf 3 = 1 := by kernel_rfl
theorem cellsErrS : Tryd.prog.cellsOf 162 = 1 := by kernel_rfl
theorem gNm : Tryd.prog.globalNamed "promptbook/script.names" = some 0 := by kernel_rfl
theorem gNmT : (Tryd.prog.globals[0]?).map (·.type) = some 93 := by kernel_rfl
theorem gCt : Tryd.prog.globalNamed "promptbook/script.counts" = some 1 := by kernel_rfl
theorem gCtT : (Tryd.prog.globals[1]?).map (·.type) = some 94 := by kernel_rfl
theorem gSy : Tryd.prog.globalNamed "strconv.ErrSyntax" = some 6 := by kernel_rfl
theorem gSyT : (Tryd.prog.globals[6]?).map (·.type) = some 67 := by kernel_rfl
theorem gRg : Tryd.prog.globalNamed "strconv.ErrRange" = some 7 := by kernel_rfl
theorem gRgT : (Tryd.prog.globals[7]?).map (·.type) = some 67 := by kernel_rfl
theorem nmData : (Rows.laid_promptbook_script_names : DataW Unit) = strTab nmR := by kernel_rfl
theorem ctData : (Rows.laid_promptbook_script_counts : DataW Unit) = Lib.tabData .i64 (ctR.map fun n : Nat => (n : Int)) := by kernel_rfl
theorem errStar : "*" ++ "errors.errorString" = "*errors.errorString" := by decide
theorem errRow (u : TypeId) (h : Tryd.prog.typeName? 3 u = some "*errors.errorString") : u = 160 :=
  typeName_ptr_named (nm := "errors.errorString") (by rw [errStar]; kernel_rfl) (by kernel_rfl) (by decide) u (by rw [errStar]; exact h)
theorem tables {W : World} (h : laidMet Tryd.prog [("math/bits.deBruijn32tab", Rows.laid_math_bits_deBruijn32tab), ("math/bits.deBruijn64tab", Rows.laid_math_bits_deBruijn64tab), ("internal/strconv.uint64pow10", Rows.laid_internal_strconv_uint64pow10), ("unicode/utf8.acceptRanges", Rows.laid_unicode_utf8_acceptRanges), ("strconv.ErrRange", Rows.laid_strconv_ErrRange), ("strconv.ErrSyntax", Rows.laid_strconv_ErrSyntax), ("promptbook/script.names", Rows.laid_promptbook_script_names), ("promptbook/script.counts", Rows.laid_promptbook_script_counts), ("unicode/utf8.first", Rows.laid_unicode_utf8_first)] W) (hSh : W.ShapedOpen Tryd.prog) : ScW W W.heap.size := by
  have h3 := h.tail.tail
  have h5 := h3.tail.tail
  have h6 := h5.tail
  have h7 := h6.tail
  have h8 := h7.tail
  rw [powData] at h3
  rw [nmData] at h7
  rw [ctData] at h8
  have ht : Lib.TabIs Tryd.prog W "internal/strconv.uint64pow10" .u64 Lib.pow10Tab :=
    Lib.tabIs_of_head gPow gPowT Tryd.underlying142 Tryd.underlying87 cellsU64 cells20 h3
  obtain ⟨aR, sR, hvR, -⟩ := laid_sentinel h5 gRg gRgT Tryd.underlying67 errRow Tryd.underlying160 Tryd.underlying162 rfl rfl Tryd.underlying9 cellsErrS cellsStr1
  obtain ⟨aS, sS, hvS, -⟩ := laid_sentinel h6 gSy gSyT Tryd.underlying67 errRow Tryd.underlying160 Tryd.underlying162 rfl rfl Tryd.underlying9 cellsErrS cellsStr1
  have hn := strs_of_head gNm gNmT Tryd.underlying93 Tryd.underlying9 cellsStr1 cells7s h7
  have hc := (Lib.tabIs_of_head gCt gCtT Tryd.underlying94 Tryd.underlying3 cellsInt1 cells7i h8)
  have hpc := ht.cell gPow 0 (by rw [Lib.pow10Tab_length]; decide)
  have hrc := World.var?_cell gRg hvR 0
  have hsc := World.var?_cell gSy hvS 0
  refine ⟨ht, block_lt_of_cell hpc, block_lt_of_cell (w := W) (a := ⟨7, 0, none⟩) hrc, Tryd.laysM145.s1_3 W hSh, ⟨_, _, hsc⟩, ⟨_, _, hrc⟩, fun j hj => hn j hj, fun j hj => ?_⟩
  have := hc.cell gCt j (by show j < 7; exact hj)
  rw [this]
  rcases j with _ | _ | _ | _ | _ | _ | _ | j <;> first | rfl | omega
end Go.Proofs.YtlonefjbcooaaaaDoor
