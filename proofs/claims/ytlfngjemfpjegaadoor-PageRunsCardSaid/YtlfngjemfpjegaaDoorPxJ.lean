/- The abstract machine (Px): append. -/
import Derived.Test.YtlfngjemfpjegaaDoorPxI
namespace Go.Proofs.YtlfngjemfpjegaaDoor.Px
open Go Go.RowKit
set_option linter.unusedVariables false
set_option linter.unusedSimpArgs false

section
variable {P : Program} {hp : List AObj} {G : Gh} {w : World}

/-- What is appended. -/
def elemsOf : PV → Option (List PV)
  | .slice _ es => some es
  | .nil0 => some []
  | .str b => some (b.data.toList.map fun y => .int .u8 (y.toNat : Int))
  | _ => none

theorem elems_run {sz : Nat} {x : PV} {u : Value} {xs : List PV} (he : elemsOf x = some xs) (hx : V G w x u) (hs : SZ sz xs) (w' : World) (hw : ∀ B o, w'.cell? ⟨B, o, none⟩ = w.cell? ⟨B, o, none⟩) :
    (Builtin.lenOf u).run P w' = .ok xs.length w' ∧ ∃ us : Array Value, (Builtin.firstCells sz xs.length u).run P w' = .ok us w' ∧ VL G w (flat xs) us.toList ∧ O us.toList := by
  unfold elemsOf at he
  split at he
  · injection he with he
    subst he
    rename_i c es
    cases hx with
    | slice _ _ a B o s n cap us hn hle hm hsz ha hsc hv hex ht =>
    subst hn
    refine ⟨by simp [Builtin.lenOf], ?_⟩
    rcases Nat.eq_zero_or_pos es.length with h0 | h0
    · have : es = [] := List.eq_nil_of_length_eq_zero h0
      subst this
      refine ⟨#[], ?_, by simpa [flat] using VL.nil G w, by simpa using O.nil⟩
      cases a <;> simp [Builtin.firstCells, loadCells, loadCellsFrom]
    · have haa := ha h0
      subst haa
      have hss : s = sz := by
        have h1 := hsz 0 h0
        have h2 := hs es[0] (by simp)
        omega
      subst hss
      have hfl := flat_length hs
      refine ⟨((List.range (es.length * s)).map us).toArray, ?_, ⟨by simp [hfl], fun j hj hj' => ?_⟩, fun v hv' => ?_⟩
      · have := run_loadCells_list (P := P) w' ⟨B, o, none⟩ ((List.range (es.length * s)).map us) (fun j v hj => by
          obtain ⟨hj', rfl⟩ := List.getElem?_eq_some_iff.1 hj
          simp only [List.length_map, List.length_range] at hj'
          rw [addr_add, hw, (hsc j hj').2.1]
          simp)
        simp only [List.length_map, List.length_range] at this
        simp only [Builtin.firstCells]
        exact this
      · simp only [List.getElem_map, List.getElem_range, List.toList_toArray]
        have hs0 : 0 < s := by
          rcases Nat.eq_zero_or_pos s with h | h
          · rw [hfl, h] at hj; simp at hj
          · exact h
        have hi : j / s < es.length := by
          rw [hfl] at hj
          exact Nat.div_lt_of_lt_mul (by rw [Nat.mul_comm]; exact hj)
        have hj2 : j % s < es[j / s].cells.length := by rw [hsz _ hi]; exact Nat.mod_lt _ hs0
        have e : j / s * s + j % s = j := by rw [Nat.mul_comm]; exact Nat.div_add_mod j s
        have h1 := flat_get hs (j / s) (j % s) hi hj2 (by rw [e]; exact hj)
        have h2 := hv (j / s) (j % s) hi hj2
        simp only [e] at h1 h2
        rw [h1]
        exact h2
      · simp only [List.toList_toArray, List.mem_map, List.mem_range] at hv'
        obtain ⟨j, hj, rfl⟩ := hv'
        exact (hsc j hj).2.2
  · injection he with he
    subst he
    cases hx with
    | nil0 a =>
    refine ⟨by simp [Builtin.lenOf], #[], ?_, by simpa [flat] using VL.nil G w, by simpa using O.nil⟩
    cases a <;> simp [Builtin.firstCells, loadCells, loadCellsFrom]
  · injection he with he
    subst he
    rename_i b
    cases hx
    have hb : b.data.toList.length = b.size := by simp
    have hfl : flat (b.data.toList.map fun y => PV.int .u8 (y.toNat : Int)) = b.data.toList.map fun y => PV.int .u8 (y.toNat : Int) := by
      generalize b.data.toList = l
      induction l with
      | nil => rfl
      | cons x xs ih => simp only [List.map_cons, flat_cons, ih]; rfl
    refine ⟨by simp [Builtin.lenOf], b.data.map (fun y => Value.int .u8 y.toNat), ?_, ?_, ?_⟩
    · simp only [Builtin.firstCells, List.length_map]
      have e : (b.extract 0 b.data.toList.length).data = b.data := by
        have : b.extract 0 b.size = b := by simp
        rw [hb, this]
      rw [e]
      rfl
    · rw [hfl]
      refine ⟨by simp, fun i h1 h2 => ?_⟩
      simp only [List.getElem_map, Array.toList_map]
      exact .int _ _
    · intro v hv
      simp only [Array.toList_map, List.mem_map] at hv
      obtain ⟨y, _, rfl⟩ := hv
      rfl
  · cases he

theorem run_grow {t1 t2 ty e : TypeId} {i : TypeInfo} {z : Value} {d2 : TypeDesc} (ht : P.underlying t1 = some (.slice e)) (ht2 : P.underlying t2 = some d2) (hd2 : (∃ e2, d2 = .slice e2) ∨ d2 = .string) (hi : P.info? e = some i) (hz : i.zero = some z)
    {base : Option Addr} {sLen sCap n : Nat} {u : Value} {olds news : Array Value}
    (hlen : (Builtin.lenOf u).run P w = .ok n w) (hold : (Builtin.firstCells i.size sLen (.slice base sLen sCap)).run P w.drew = .ok olds w.drew) (hnew : (Builtin.firstCells i.size n u).run P w.drew = .ok news w.drew)
    (hg : sCap < sLen + n) (hb0 : 0 < i.bytes) (hfit : Builtin.nextslicecap (sLen + n) sCap * i.bytes ≤ 281474976710656) :
    (Builtin.append_ #[t1, t2] ty #[.slice base sLen sCap, u]).run P w =
      .ok (.slice (some ⟨w.heap.size, 0, none⟩) (sLen + n) (grownCap w (sLen + n) sCap e)) (w.drew.alloc (.cells (olds ++ news ++ Builtin.zeroCells z.cells (grownCap w (sLen + n) sCap e - (sLen + n))) e)) := by
  have hn : ¬ (sLen + n ≤ sCap) := by omega
  have hb1 : i.bytes ≠ 0 := by omega
  have h48' : ¬ (281474976710656 < Builtin.nextslicecap (sLen + n) sCap * i.bytes) := by omega
  rcases hd2 with ⟨e2, rfl⟩ | rfl
  · simp [Builtin.append_, run_underlying ht, run_underlying ht2, run_sizeOf hi, run_typeInfo hi, run_zeroValue hi hz, hlen, hn, hb1, h48', Question.forced, hold, hnew, newRow, grownCap]
  · simp [Builtin.append_, run_underlying ht, run_underlying ht2, run_sizeOf hi, run_typeInfo hi, run_zeroValue hi hz, hlen, hn, hb1, h48', Question.forced, hold, hnew, newRow, grownCap]

theorem runIn0 {t1 t2 ty e : TypeId} {i : TypeInfo} {d2 : TypeDesc} (ht : P.underlying t1 = some (.slice e)) (ht2 : P.underlying t2 = some d2) (hd2 : (∃ e2, d2 = .slice e2) ∨ d2 = .string) (hi : P.info? e = some i)
    {base : Option Addr} {sLen sCap n : Nat} {u : Value} {news : Array Value} {w' : World}
    (hlen : (Builtin.lenOf u).run P w = .ok n w) (hnew : (Builtin.firstCells i.size n u).run P w = .ok news w) (hg : sLen + n ≤ sCap)
    (hst : (match base with | some a => storeCells (a.add (sLen * i.size)) news.toList | none => pure ()).run P w = .ok () w') :
    (Builtin.append_ #[t1, t2] ty #[.slice base sLen sCap, u]).run P w = .ok (.slice base (sLen + n) sCap) w' := by
  rcases hd2 with ⟨e2, rfl⟩ | rfl <;> cases base with
    | none =>
      simp only [Sem.run_pure] at hst
      injection hst with _ hst
      subst hst
      simp [Builtin.append_, run_underlying ht, run_underlying ht2, run_sizeOf hi, hlen, hg, hnew]
    | some a => simp [Builtin.append_, run_underlying ht, run_underlying ht2, run_sizeOf hi, hlen, hg, hnew, hst]
end
end Go.Proofs.YtlfngjemfpjegaaDoor.Px
