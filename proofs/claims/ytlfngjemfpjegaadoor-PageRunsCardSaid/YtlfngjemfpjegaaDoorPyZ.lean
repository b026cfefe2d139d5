/- porticolaw16.PageRuns holds: whatever the world, the law returns true. -/
import Derived.Test.YtlfngjemfpjegaaDoorPyX
import Derived.Test.YtlfngjemfpjegaaDoorPxW
import Derived.Test.YtlfngjemfpjegaaDoorCards
import Derived.Test.YtlfngjemfpjegaaDoorTie
import Derived.WalkKit
import Derived.ProofKit
import Derived.OpenShut
import Derived.Deep.DeepHandedRow
import Derived.Lib.LaidTab
import Derived.Stop.LaidErr
namespace Go.Proofs.YtlfngjemfpjegaaDoor.Px
open Go Go.ChangeShapes Go.WideShapes Go.ChangeAt Go.RowKit Go.Proofs
set_option linter.unusedVariables false
set_option linter.unnecessarySimpa false
set_option linter.unusedSimpArgs false

theorem own16 : ownKnob Tryd.prog.godebug = none := by kernel_rfl
theorem g0_name : Tryd.prog.globalNamed "internal/strconv.uint64pow10" = some 0 := by kernel_rfl
theorem g0_type : (Tryd.prog.globals[0]?).map (·.type) = some 142 := by kernel_rfl
theorem g0_und : Tryd.prog.underlying 142 = some (.array 20 114) := by kernel_rfl
/-- The table that Itoa reads, out of what the row lists. -/
theorem laid_of {W : World} (h : laidMetH Tryd.prog Rows.pageRunsRow.laid W) : Laid W := by
  have h1 : laidMet Tryd.prog Rows.pageRunsRow.laid W := h
  have h2 : laidMet Tryd.prog (("internal/strconv.uint64pow10", Lib.tabData .u64 Lib.pow10Tab) :: [("unicode/utf8.acceptRanges", Rows.laid_unicode_utf8_acceptRanges), ("unicode/utf8.first", Rows.laid_unicode_utf8_first)]) W := h1.tail.tail
  have h3 := Lib.tabIs_of_head g0_name g0_type g0_und (by kernel_rfl) (by kernel_rfl) (by kernel_rfl) h2
  intro x hx
  simp only [TAB, List.mem_singleton] at hx
  subst hx
  unfold Lib.TabIs World.var? at h3
  rw [g0_name] at h3
  simp only [Option.bind_some] at h3
  split at h3
  · rename_i cs ty fr hc
    injection h3 with h3
    subst h3
    exact ⟨ty, fr, hc⟩
  · cases h3

set_option maxRecDepth 100000 in
theorem contract (H : Type) (enc : TypeId × Value → H) (W : World) (base : Nat) (args : Array Value) (ds gs : List (DataW H)) (before : List MemPlace)
    (hval : ∀ (j : Nat) t v, Tryd.f3.params[j]? = some t → args[j]? = some v → Value.okWide Tryd.prog W .any base t v)
    (hW : DataW.Whole enc Tryd.prog Tryd.f3.params.toList Rows.pageRunsSpec.vars false W args.toList ds gs before) (hL : laidMetH Tryd.prog Rows.pageRunsRow.laid W) :
    Calls Tryd.prog 3 args W fun e W' => ∃ v, e = .returned v ∧ Rows.pageRunsSpec.post enc Tryd.prog Tryd.f3 false true false false W args v W' := by
  have hds : ds = [] := by
    obtain ⟨p, q, hA, hV, hb, hfz, hnd⟩ := hW
    have hA' : DataW.TrodAll enc Tryd.prog W 0 (fun _ => true) true [] args.toList ds p := hA
    exact (trodAll_nil hA').2.1
  subst hds
  exact law_contract (n := 40) (t0 := 4) rfl (by kernel_rfl) (by kernel_rfl) (by kernel_rfl) (by kernel_rfl) (by kernel_rfl) rfl Tryd.underlying4 hval hW rfl (laid_of hL) spec3

/-- What a datum's cells hold. -/
def flatD : DataW Unit → List Value
  | .lit (.int k n) => [.int k n]
  | .agg ds => flatDs ds
  | _ => []
where flatDs : List (DataW Unit) → List Value
  | [] => []
  | d :: r => flatD d ++ flatDs r
def layAt (g : Nat) (d : DataW Unit) (heap : Array Obj) : Array Obj := heap.modify g fun
  | .cells _ t frozen => .cells (flatD d).toArray t frozen
  | o => o
/-- A world for the witness: each listed variable's block holds what the row lists. -/
noncomputable def laidWorld (os : Os) : World :=
  { World.holding Tryd.prog os ⟨#[], #[], []⟩ with heap := layAt 0 Rows.laid_internal_strconv_uint64pow10 (layAt 1 Rows.laid_unicode_utf8_first (layAt 2 Rows.laid_unicode_utf8_acceptRanges (layAt 3 Rows.laid_math_bits_deBruijn32tab (layAt 4 Rows.laid_math_bits_deBruijn64tab (World.holding Tryd.prog os ⟨#[], #[], []⟩).heap)))) }
theorem laid_met (os : Os) : laidMet Tryd.prog Rows.pageRunsRow.laid ((laidWorld os).forCall (fun _ _ => 0) ⟨#[], #[], []⟩).memory :=
  laidMet_of_run' 8 (by kernel_rfl) (by kernel_rfl)
theorem reads (os : Os) {H : Type} (enc : TypeId × Value → H) : ∃ places, DataW.whole enc Tryd.prog ((laidWorld os).forCall (fun _ _ => 0) ⟨#[], #[], []⟩).memory Tryd.f3.params.toList Rows.pageRunsSpec.vars false (#[] : Array Value).toList 8 = some ([], [], places) :=
  ⟨[], by kernel_rfl⟩

set_option maxRecDepth 100000 in
theorem lifted (os : Os) (started : os.Started) (H : Type) (enc : TypeId × Value → H) (F : Stop.Interp) :
    ReturnsInHanded {} Tryd.checked os 3 .any ((OpenSpec.ofChange Rows.pageRunsSpec).preRow enc Tryd.prog Tryd.f3 Rows.pageRunsRow.domain false Rows.pageRunsRow.laid) (((OpenSpec.ofChange Rows.pageRunsSpec).at F).post enc Tryd.prog Tryd.f3 false true false false) := by
  obtain ⟨places, hx⟩ := reads os enc
  refine returnsInHanded_of_row (C := Tryd.checked) (s := OpenSpec.ofChange Rows.pageRunsSpec) own16 started (by kernel_rfl) Tryd.func3
    (witness_row_at (enc := enc) (C := Tryd.checked) false (laidWorld os) #[] rfl (by kernel_rfl) (by kernel_rfl) (by kernel_rfl)
      (OpenSpec.preRow_of_cond 8 hx (by kernel_rfl) (fun k hk => by cases hk) (by kernel_rfl) (laid_met os))) ?_
  intro W base args ds gs before hval hW _ _ _ hL _ _
  exact contract H enc W base args ds gs before hval hW hL

theorem said : Rows.PageRunsSaid :=
  OpenClaim.holds_of_cond 3 Tryd.f3 rfl rfl rfl rfl rfl rfl rfl ⟨rfl, rfl, rfl, rfl, rfl⟩ rfl rfl rfl rfl rfl (by kernel_rfl) Tryd.func3 (by kernel_rfl)
    (of_decide_eq_true (by kernel_rfl)) (by unfold Func.isWrapper; first | (rw [if_pos (by decide +kernel)]; kernel_rfl) | (rw [if_neg (by decide +kernel)]; exact ⟨rfl, rfl⟩))
    (fun os started H enc _ F => by rw [OpenClaim.pre_eq_preRow]; exact lifted os started H enc F)

theorem plain (f : FuncId) (fn : Func) (hf : Tryd.pinned.checked.prog.funcNamed "portico/porticolaw16.PageRuns" = some f) (hfn : Tryd.pinned.checked.prog.funcs[f]? = some fn) :
    true = Tryd.pinned.checked.prog.looks [] ∧ ∀ (j : Nat) t, fn.params[j]? = some t → Tryd.pinned.checked.prog.wantsStandIn t = false := by
  obtain rfl : f = 3 := Option.some.inj ((show Tryd.prog.funcNamed "portico/porticolaw16.PageRuns" = some 3 by kernel_rfl).symm.trans hf) |>.symm
  obtain rfl : fn = Tryd.f3 := (Option.some.inj (Tryd.func3.symm.trans hfn)).symm
  refine ⟨by kernel_rfl, fun j t ht => ?_⟩
  have hp : Tryd.f3.params = #[] := rfl
  rw [hp] at ht
  simp at ht

/-- THE CARD. -/
theorem pageRuns_card : Rows.PageRunsCardSaid :=
  Claim7.holds_tied_plain_at .later [] _ _ _ _ said (fun _ h => by cases h) (by kernel_rfl) (fun _ h => by cases h) pageRuns_row_tie rfl ⟨rfl, rfl⟩ (by kernel_rfl) rfl plain (by kernel_rfl)
#print axioms pageRuns_card
end Go.Proofs.YtlfngjemfpjegaaDoor.Px
