/-
  Which cut comes first: by weight, by its beginning; cuts sorted by each.
-/
import Derived.Test.YtaegekfdbhmcaaaDoorRbC
import Derived.Test.YtaegekfdbhmcaaaDoorCmp
namespace Go.Proofs.YtaegekfdbhmcaaaDoor
open Go.RowKit Go.Sort
set_option maxRecDepth 100000
set_option linter.unusedSimpArgs false
def frmC (a b : Cut) : Int := cmpI a.frm b.frm
theorem cmpI_lt (a b : Int) : cmpI a b < 0 ↔ a < b := by
  unfold cmpI
  repeat' split
  all_goals omega
theorem frmC_le (a b : Cut) : frmC a b ≤ 0 ↔ a.frm ≤ b.frm := by
  unfold frmC cmpI
  repeat' split
  all_goals omega
theorem frmC_swap (a b : Cut) : frmC b a = -frmC a b := by
  unfold frmC cmpI
  repeat' split
  all_goals omega
theorem heav_or (a b : Cut) : orI [cmpI b.weight a.weight, cmpI a.frm b.frm] = heav a b := by
  unfold heav orI orI orI
  repeat' split
  all_goals omega
theorem swoH : SWO (ltOf heav) where
  irrefl x := by unfold ltOf; rw [decide_eq_false_iff_not, heav_lt]; omega
  trans x y z h1 h2 := by unfold ltOf at *; rw [decide_eq_true_eq, heav_lt] at *; omega
  ntrans x y z h1 h2 := by unfold ltOf at *; rw [decide_eq_false_iff_not, heav_lt] at *; omega
theorem swoF : SWO (ltOf frmC) where
  irrefl x := by unfold ltOf frmC; rw [decide_eq_false_iff_not, cmpI_lt]; omega
  trans x y z h1 h2 := by unfold ltOf frmC at *; rw [decide_eq_true_eq, cmpI_lt] at *; omega
  ntrans x y z h1 h2 := by unfold ltOf frmC at *; rw [decide_eq_false_iff_not, cmpI_lt] at *; omega
set_option maxHeartbeats 1000000 in
theorem begins_any (x y : Cut) (w : World) : Calls Tryd.prog 21 #[x.val, y.val] w fun e w' => e = .returned (.int .i64 (frmC x y)) ∧ ∃ q os', w' = grow (w.drewN q) os' := by
  unfold Cut.val
  have HG : Hid (∀ o1 o2 : Obj, ∃ q os', (w.alloc o1).alloc o2 = grow (w.drewN q) os') := Lib.hid (fun o1 o2 => ⟨0, #[o1] ++ #[o2], by rw [alloc_eq_grow, alloc_eq_grow, grow_grow]; rfl⟩)
  go_enter Tryd.func21, Tryd.ntmps21
  go_wp2_with (first | (go_at_call 35; refine (cmp_any _ _ _).mono ?_; rintro e w4 ⟨rfl, rfl⟩))
  go_ret
  exact ⟨rfl, HG.out _ _⟩
set_option maxHeartbeats 1000000 in
theorem heavier_any (x y : Cut) (w : World) : Calls Tryd.prog 18 #[x.val, y.val] w fun e w' => e = .returned (.int .i64 (heav x y)) ∧ ∃ q os', w' = grow (w.drewN q) os' := by
  unfold Cut.val
  have HO := Lib.hid (heav_or x y)
  go_enter Tryd.func18, Tryd.ntmps18
  go_wp2_with fail
  obtain ⟨W1, hW1⟩ : ∃ W1, W1 = (w.alloc (.cells #[.int .i64 x.frm, .int .i64 x.to_, .int .i64 x.weight] 48)).alloc (.cells #[.int .i64 y.frm, .int .i64 y.to_, .int .i64 y.weight] 48) := ⟨_, rfl⟩
  have hba : Blk W1 w.heap.size 48 #[.int .i64 x.frm, .int .i64 x.to_, .int .i64 x.weight] := by rw [hW1]; exact (Blk.new _ _ _).alloc _
  have hbb : Blk W1 (w.heap.size + 1) 48 #[.int .i64 y.frm, .int .i64 y.to_, .int .i64 y.weight] := by
    rw [hW1]
    have := Blk.new (w.alloc (.cells #[.int .i64 x.frm, .int .i64 x.to_, .int .i64 x.weight] 48)) 48 #[.int .i64 y.frm, .int .i64 y.to_, .int .i64 y.weight]
    simpa using this
  have hsz : W1.heap.size = w.heap.size + 2 := by rw [hW1]; simp
  have HG : Hid (∀ o, ∃ q os', (W1.alloc o).drew = grow (w.drewN q) os') := Lib.hid (fun o => ⟨1, _, by rw [hW1, alloc_eq_grow, alloc_eq_grow, alloc_eq_grow, grow_grow, grow_grow]; rfl⟩)
  have a0 := hba.cell 0
  have a2 := hba.cell 2
  have b0 := hbb.cell 0
  have b2 := hbb.cell 2
  simp only [List.getElem?_toArray, List.getElem?_cons_zero, List.getElem?_cons_succ] at a0 a2 b0 b2
  rw [← hW1]
  have hs1 : w.heap.size < W1.heap.size := by omega
  have hs2 : w.heap.size + 1 < W1.heap.size := by omega
  clear hW1 hba hbb hsz
  go_region_held3 (fun w' => w'.cell? ⟨w.heap.size, 0, none⟩ = some (.int .i64 x.frm) ∧ w'.cell? ⟨w.heap.size, 2, none⟩ = some (.int .i64 x.weight) ∧
      w'.cell? ⟨w.heap.size + 1, 0, none⟩ = some (.int .i64 y.frm) ∧ w'.cell? ⟨w.heap.size + 1, 2, none⟩ = some (.int .i64 y.weight))
    (first | go_keep)
    (first
      | (go_at_call 35; refine (cmp_any _ _ _).mono ?_; rintro e w4 ⟨rfl, rfl⟩)
      | (go_at_call 34; refine (or_any _ _ [cmpI y.weight x.weight, cmpI x.frm y.frm] _ (by simp) (by exact rd_new W1 _ 3 _ rfl _ (by simp))).mono ?_; rintro e w4 ⟨rfl, rfl⟩))
  go_wp2
  go_ret
  exact ⟨ret_int HO.out, HG.out _⟩
set_option maxHeartbeats 1000000 in
/-- SortedFunc of Values of cuts. -/
theorem sortedC_any (cf : Cut → Cut → Int) (swo : SWO (ltOf cf)) (hsw : ∀ a b, cf b a = -cf a b) (fo : Nat) (eg : ∀ args w, (callFunc fo args).run Tryd.prog w = .ok (.enter fo args) w) (hc : ∀ (x y : Cut) (w : World), Calls Tryd.prog fo #[x.val, y.val] w fun e w' => e = .returned (.int .i64 (cf x y)) ∧ ∃ q os', w' = grow (w.drewN q) os') (Bs : Nat) (A : Option Addr) (c : Nat) (L : List Cut) (w : World) (hL : L.length ≤ 1000)
    (hm : w.cell? ⟨Bs, 0, none⟩ = some (.slice A L.length c)) (hr : Rd w w.heap.size A (L.flatMap Cut.cells)) :
    Calls Tryd.prog 16 #[.func (.func 33) #[] #[.pointer (some ⟨Bs, 0, none⟩)], .func (.func fo) #[] #[]] w fun e w' => ∃ (A' : Option Addr) (c' : Nat) (M : List Cut), e = .returned (.slice A' M.length c') ∧ M.Perm L ∧ M.Pairwise (fun a b => cf a b ≤ 0) ∧ OwnL w' w.heap.size 48 3 (.slice A' M.length c') Cut.cells M ∧ Below w.heap.size w w' := by
  have hBl := block_lt_of_cell hm
  have HC := Lib.hid (collectC_any 33 #[.pointer (some ⟨Bs, 0, none⟩)] (enters_of Tryd.func33 (by kernel_rfl) rfl) L (by omega) w (fun W hW => valsCut_stops 2 (by decide) Bs w.heap.size A c L (by omega) W ((hW.cell (p := ⟨Bs, 0, none⟩) hBl).trans hm) hBl hW.size (hr.below hW (Nat.le_refl _))))
  clear hm hr
  go_enter Tryd.func16, Tryd.ntmps16
  go_wp2_with (first
    | (go_at_call 32; refine (HC.out).mono ?_; rintro e w1 ⟨A1, c1, rfl, h2, h3⟩
       have HS := Lib.hid (sortC_gen cf swo hsw fo eg hc w.heap.size A1 L.length c1 L w1 hL h2)
       have H3 := Lib.hid h3; clear h2 h3)
    | (go_at_call 20; refine (HS.out).mono ?_; rintro e w2 ⟨rfl, M, p1, p2, p3, p4⟩
       have P1 := Lib.hid p1; have P2 := Lib.hid p2; have P3 := Lib.hid p3; have P4 := Lib.hid p4; clear p1 p2 p3 p4))
  go_ret
  have hl : L.length = M.length := P1.out.length_eq.symm
  have h3 := P3.out
  rw [hl] at h3 ⊢
  exact ⟨A1, c1, M, rfl, P1.out, P2.out, h3, H3.out.trans P4.out⟩
end Go.Proofs.YtaegekfdbhmcaaaDoor
