/- Itoa, by the shelf's contract; the renderer without open ends. -/
import Derived.Test.YtlfngjemfpjegaaDoorPyF
import Derived.Test.YtlfngjemfpjegaaDoorPyS
import Derived.WalkSmall
import Derived.Lib.ItoaLen
namespace Go.Proofs.YtlfngjemfpjegaaDoor.Px
open Go Go.RowKit Go.Proofs
set_option linter.unusedVariables false
set_option linter.unnecessarySimpa false
set_option linter.unusedSimpArgs false
set_option maxRecDepth 4000
/-- What the shelf says of a call that grows the world: its Px form. -/
theorem spec_grow {P : Program} {f : FuncId} {args : List PV} {out : PV} {u : Value} (hu : ∀ G w, V G w out u) (h : ∀ (G : Gh) (w : World) (cargs : Array Value), RH G [] w → VL G w args cargs.toList →
    Calls P f cargs w fun e w' => e = .returned u ∧ ∃ k os, w' = Go.Sort.grow (w.drewN k) os) : PSpec P f args (.ret out) := by
  intro G w cargs hR hv
  refine (h G w cargs hR hv).mono ?_
  rintro e w' ⟨rfl, k, os, rfl⟩
  have hb : Below w.heap.size w (Go.Sort.grow (w.drewN k) os) := by
    refine (below_drewN (Below.refl _ w) k).trans ⟨rfl, rfl, rfl, by simp [Go.Sort.grow], fun i hi => ?_⟩
    show (w.heap ++ os)[i]? = w.heap[i]?
    rw [Array.getElem?_append_left hi]
  obtain ⟨h1, h2⟩ := hR.extend hb G.S (fun _ _ h => h) (fun _ _ h => .inl h)
  exact ⟨_, hu _ _, h1, h2⟩
theorem laid_tab {G : Gh} {hp : List AObj} {w : World} (hR : RH G hp w) : Lib.TabIs Tryd.prog w "internal/strconv.uint64pow10" .u64 Lib.pow10Tab := by
  obtain ⟨h1, h2, ty, fr, h3⟩ := hR.tab (0, (Lib.pow10Tab.map (Value.int .u64)).toArray) (by simp [TAB])
  have hg : Tryd.prog.globalNamed "internal/strconv.uint64pow10" = some 0 := by kernel_rfl
  unfold Lib.TabIs World.var?
  rw [hg]
  simp only [Option.bind_some]
  simp only at h3
  rw [h3]
theorem spec55 (n : Int) (h0 : -9223372036854775808 ≤ n) (h1 : n ≤ 9223372036854775807) : PSpec Tryd.prog 55 [.int .i64 n] (.ret (.str (itoa n))) := by
  have hsz : (itoa n).size ≤ 9223372036854775807 := by
    have := Go.Lib.itoa_length_le n h0 h1
    show (Lib.itoa n).toArray.size ≤ _
    simp only [List.size_toArray]
    omega
  refine spec_grow (fun G w => .str _ hsz) fun G w cargs hR hv => ?_
  have hc : cargs = #[.int .i64 n] := by
    obtain ⟨l⟩ := cargs
    obtain ⟨h1, h2⟩ := hv
    match l, h1 with
    | [x], _ =>
      have h3 := h2 0 (by simp) (by simp)
      simp only [List.getElem_cons_zero] at h3
      cases h3
      rfl
  subst hc
  exact Tryd.strconv_Itoa n h0 h1 w (laid_tab hR)
end Go.Proofs.YtlfngjemfpjegaaDoor.Px
