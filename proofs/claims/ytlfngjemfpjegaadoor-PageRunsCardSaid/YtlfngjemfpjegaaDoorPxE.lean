/- The abstract machine (Px): operations that read, or make values: each is met by the model. -/
import Derived.Test.YtlfngjemfpjegaaDoorPxD
namespace Go.Proofs.YtlfngjemfpjegaaDoor.Px
open Go Go.RowKit
set_option linter.unusedVariables false
set_option linter.unusedSimpArgs false

/-- What an operation brings about: its value, the objects that it turns, those that it makes; which ones it has read. -/
structure Eff where
  v : PV
  set : List (Nat × AObj) := []
  new : List AObj := []
  rd : List Nat := []

def setAll (hp : List AObj) : List (Nat × AObj) → List AObj
  | [] => hp
  | (l, o) :: r => setAll (hp.set l o) r
def after (hp : List AObj) (e : Eff) : List AObj := setAll hp e.set ++ e.new

/-- The model's operation comes to one of the effects that K lets by. -/
def Ok (P : Program) (hp : List AObj) (G : Gh) (w : World) (K : Eff → Prop) (m : Sem Value) : Prop :=
  ∃ e v w' G', K e ∧ m.run P w = .ok v w' ∧ V G' w' e.v v ∧ RH G' (after hp e) w' ∧ Ev G w G' w'

section
variable {P : Program} {hp : List AObj} {G : Gh} {w : World}

theorem Ok.val {K : Eff → Prop} {m : Sem Value} {p : PV} {v : Value} (rd : List Nat) (hk : K { v := p, rd := rd }) (hr : m.run P w = .ok v w) (hv : V G w p v) (hR : RH G hp w) : Ok P hp G w K m :=
  ⟨_, v, w, G, hk, hr, hv, by simpa [after, setAll] using hR, .refl _ _⟩

/-! ### 1. Parts -/
def aField (P : Program) (t : TypeId) (i : Nat) (x : PV) (K : Eff → Prop) : Prop :=
  match tinf P t, x with
  | some ti, .agg cs => match ti.kd with
    | .struct fs => match fs[i]? with
      | some fi => fi.off + fi.sz ≤ cs.length ∧ K { v := partP cs fi.off fi.sz fi.agg }
      | none => False
    | _ => False
  | _, _ => False

theorem sound_field {K : Eff → Prop} {t : TypeId} {i : Nat} {x : PV} {u : Value} (h : aField P t i x K) (hx : V G w x u) (hR : RH G hp w) : Ok P hp G w K (Instr.field t u i) := by
  unfold aField at h
  split at h
  · rename_i ti cs hti
    split at h
    · rename_i fs hkd
      split at h
      · rename_i fi hfi
        obtain ⟨inf, d, z, hT⟩ := tinf_of hti
        obtain ⟨ffs, hd, hm⟩ := kd_struct (hkd ▸ hT.kd)
        obtain ⟨f, inf', d', hf, hi', hd', ho, hs, ha, h0⟩ := field_of hm hfi
        have hu := hT.und
        rw [hd] at hu
        have hc := (hx.cells rfl).1
        have hc1 := (hx.cells rfl).2
        cases hx with
        | agg _ us hl h1 hv =>
        simp only [PV.cells, Value.cells] at hc hc1
        obtain ⟨v, hr, hv'⟩ := run_part (P := P) hi' hd' hc hc1 (off := fi.off) (by rw [hs]; exact h.1) (by rw [hs]; exact h0)
        rw [hs, ha] at hv'
        refine .val [] h.2 ?_ hv' hR
        simp [Instr.field, run_underlying hu, hf, asAgg, ho, hr]
      · exact h.elim
    · exact h.elim
  · exact h.elim

/-! ### 2. Addresses -/
def aFieldAddr (P : Program) (t : TypeId) (i : Nat) (x : PV) (K : Eff → Prop) : Prop :=
  match tinf P t with
  | some ti => match ti.kd with
    | .struct fs => match fs[i]?, x with
      | some fi, .ptr l off => K { v := .ptr l (off + fi.off) }
      | some fi, .view v => (fi.off + fi.sz ≤ v.cells.length ∧ (partP v.cells fi.off fi.sz fi.agg).isAgg = fi.agg) ∧ K { v := .view (partP v.cells fi.off fi.sz fi.agg) }
      | _, _ => False
    | _ => False
  | none => False

theorem partP_cell {cs : List PV} {off sz : Nat} {agg : Bool} (h : (partP cs off sz agg).isAgg = agg) (hb : off + sz ≤ cs.length) (h0 : 0 < sz) :
    ∀ j (hj : j < (partP cs off sz agg).cells.length), ∃ h' : off + j < cs.length, (partP cs off sz agg).cells[j] = cs[off + j] := by
  cases agg with
  | true =>
    intro j hj
    simp only [partP, if_true, PV.cells, List.length_take, List.length_drop] at hj
    have h' : off + j < cs.length := by omega
    refine ⟨h', ?_⟩
    simp only [partP, if_true, PV.cells, List.getElem_take, List.getElem_drop]
  | false =>
    have h2 : off < cs.length := by omega
    have e : partP cs off sz false = cs[off] := by simp [partP, List.getD_eq_getElem?_getD, List.getElem?_eq_getElem h2]
    rw [e] at h ⊢
    have e2 : cs[off].cells = [cs[off]] := by
      generalize cs[off] = c at h
      cases c <;> first | rfl | cases h
    intro j hj
    simp only [e2, List.length_singleton] at hj
    obtain rfl : j = 0 := by omega
    exact ⟨h2, by simp [e2]⟩

theorem V.view_of {B o : Nat} {v : PV} (h : V G w (.view v) (.pointer (some ⟨B, o, none⟩))) {off sz : Nat} {agg : Bool} (hb : off + sz ≤ v.cells.length) (h0 : 0 < sz) (ha : (partP v.cells off sz agg).isAgg = agg) :
    V G w (.view (partP v.cells off sz agg)) (.pointer (some ⟨B, o + off, none⟩)) := by
  cases h with
  | view _ _ _ us hs hv =>
    refine .view _ B (o + off) (fun j => us (off + j)) (fun j hj => ?_) (fun j hj => ?_)
    · obtain ⟨h', _⟩ := partP_cell ha hb h0 j hj
      have := hs (off + j) h'
      rwa [← Nat.add_assoc] at this
    · obtain ⟨h', e⟩ := partP_cell ha hb h0 j hj
      rw [e]
      exact hv (off + j) h'

theorem addr_add (B o n : Nat) : (⟨B, o, none⟩ : Addr).add n = ⟨B, o + n, none⟩ := Addr.add_lit B o n

theorem sound_fieldAddr {K : Eff → Prop} {t : TypeId} {i : Nat} {x : PV} {u : Value} (h : aFieldAddr P t i x K) (hx : V G w x u) (hR : RH G hp w) : Ok P hp G w K (Instr.fieldAt t u i) := by
  unfold aFieldAddr at h
  split at h
  · rename_i ti hti
    split at h
    · rename_i fs hkd
      obtain ⟨inf, d, z, hT⟩ := tinf_of hti
      obtain ⟨ffs, hd, hm⟩ := kd_struct (hkd ▸ hT.kd)
      have hu := hT.und
      rw [hd] at hu
      split at h
      · rename_i fi l off hfi
        obtain ⟨f, inf', d', hf, hi', hd', ho, hs, ha, h0⟩ := field_of hm hfi
        cases hx with
        | ptr _ _ B hB =>
        refine .val [] h ?_ (.ptr l (off + fi.off) B hB) hR
        have : inf'.size ≠ 0 := by omega
        simp [Instr.fieldAt, run_underlying hu, hf, Instr.sureAddr, fieldPlace, run_sizeOf hi', this, ho, addr_add]
      · rename_i fi v hfi
        obtain ⟨f, inf', d', hf, hi', hd', ho, hs, ha, h0⟩ := field_of hm hfi
        obtain ⟨⟨h1, h2⟩, hk⟩ := h
        have hx' := hx
        cases hx with
        | view _ B o us hs' hv =>
        refine .val [] hk ?_ (V.view_of hx' h1 h0 h2) hR
        have : inf'.size ≠ 0 := by omega
        simp [Instr.fieldAt, run_underlying hu, hf, Instr.sureAddr, fieldPlace, run_sizeOf hi', this, ho, addr_add]
      · exact h.elim
    · exact h.elim
  · exact h.elim

def aIndexAddr (P : Program) (t : TypeId) (x i : PV) (K : Eff → Prop) : Prop :=
  match tinf P t with
  | some ti => match ti.kd with
    | .slice e => match tinf P e, x, i with
      | some te, .slice _ es, .int _ n => (0 ≤ n ∧ n < es.length) ∧ (es.getD n.toNat .bad).cells.length = te.sz ∧ K { v := .view (es.getD n.toNat .bad) }
      | some te, .mslice l off m s, .int _ n => (0 ≤ n ∧ n < m) ∧ te.sz = s ∧ K { v := .ptr l (off + n.toNat * s) }
      | _, _, _ => False
    | .array m e => match tinf P e, x, i with
      | some te, .ptr l off, .int _ n => (0 ≤ n ∧ n < m) ∧ K { v := .ptr l (off + n.toNat * te.sz) }
      | _, _, _ => False
    | _ => False
  | none => False

theorem sound_indexAddr {K : Eff → Prop} {t : TypeId} {x i : PV} {u v : Value} (h : aIndexAddr P t x i K) (hx : V G w x u) (hi : V G w i v) (hR : RH G hp w) : Ok P hp G w K (Instr.indexAt t u v) := by
  unfold aIndexAddr at h
  split at h
  · rename_i ti hti
    obtain ⟨inf, d, z, hT⟩ := tinf_of hti
    split at h
    · rename_i e hkd
      have hd := kd_slice (hkd ▸ hT.kd)
      have hu := hT.und
      rw [hd] at hu
      split at h
      · rename_i te c es k n hte
        obtain ⟨inf', d', z', hT'⟩ := tinf_of hte
        obtain ⟨⟨h0, h1⟩, h2, hk⟩ := h
        cases hi
        cases hx with
        | slice _ _ a B o s m cap us hn hle hm hsz ha hs hv he ht =>
        have hlt : n.toNat < es.length := by omega
        have hget : es.getD n.toNat .bad = es[n.toNat] := by simp [List.getD_eq_getElem?_getD, List.getElem?_eq_getElem hlt]
        rw [hget] at h2 hk
        have hse : s = te.sz := by rw [← hsz n.toNat hlt, h2]
        have haa := ha (by omega)
        subst haa
        refine .val [] hk (v := .pointer (some ⟨B, o + n.toNat * s, none⟩)) ?_ ?_ hR
        · have hn' : n < (m : Int) := by omega
          simp [Instr.indexAt, asIntOf, run_underlying hu, h0, hn', run_sizeOf hT'.info, addr_add, hse, hT'.sz]
        · refine .view _ B _ (fun j => us (n.toNat * s + j)) (fun j hj => ?_) (fun j hj => hv n.toNat j hlt hj)
          rw [hsz n.toNat hlt] at hj
          have hj' : n.toNat * s + j < m * s := by
            have : (n.toNat + 1) * s ≤ m * s := Nat.mul_le_mul_right _ (by omega)
            rw [Nat.add_mul] at this
            omega
          have := hs _ hj'
          rwa [← Nat.add_assoc] at this
      · rename_i te l off m s k n hte
        obtain ⟨inf', d', z', hT'⟩ := tinf_of hte
        obtain ⟨⟨h0, h1⟩, h2, hk⟩ := h
        cases hi
        cases hx with
        | mslice _ _ _ _ B cap a hB hle hm ha hN =>
        have haa := ha (by omega)
        subst haa
        refine .val [] hk ?_ (.ptr _ _ B hB) hR
        simp [Instr.indexAt, asIntOf, run_underlying hu, h0, h1, run_sizeOf hT'.info, addr_add, ← h2, hT'.sz]
      · exact h.elim
    · rename_i m e hkd
      have hd := kd_array (hkd ▸ hT.kd)
      have hu := hT.und
      rw [hd] at hu
      split at h
      · rename_i te l off k n hte
        obtain ⟨inf', d', z', hT'⟩ := tinf_of hte
        obtain ⟨⟨h0, h1⟩, hk⟩ := h
        cases hi
        cases hx with
        | ptr _ _ B hB =>
        refine .val [] hk ?_ (.ptr _ _ B hB) hR
        simp [Instr.indexAt, Instr.sureAddr, asIntOf, run_underlying hu, h0, h1, run_sizeOf hT'.info, addr_add, hT'.sz]
      · exact h.elim
    · exact h.elim
  · exact h.elim

/-! ### 3. Loads -/
theorem prefix_VL {cs : List PV} {arr : Array Value} (hl : cs.length ≤ arr.size) (hv : ∀ i (h : i < cs.length) (h' : i < arr.size), V G w cs[i] arr[i] ∧ arr[i].oneCell' = true) :
    VL G w cs (arr.toList.take cs.length) ∧ O (arr.toList.take cs.length) := by
  refine ⟨⟨by simp; omega, fun i h h' => ?_⟩, fun u hu => ?_⟩
  · have := (hv i h (by omega)).1
    simpa using this
  · obtain ⟨i, hi, rfl⟩ := List.getElem_of_mem hu
    have h1 : i < cs.length := by have := hi; simp at this; omega
    have := (hv i h1 (by omega)).2
    simpa using this

def aLoad (P : Program) (hp : List AObj) (t : TypeId) (x : PV) (K : Eff → Prop) : Prop :=
  match tinf P t with
  | some ti => match x with
    | .view v => (v.isAgg = ti.agg ∧ v.cells.length = ti.sz) ∧ K { v := v }
    | .ptr l off => match hp[l]? with
      | some (.cells cs) => (off + ti.sz ≤ cs.length ∧ 0 < ti.sz) ∧ K { v := partP cs off ti.sz ti.agg, rd := [l] }
      | _ => False
    | _ => False
  | none => False

theorem run_loadVar_agg {t : TypeId} {i : TypeInfo} {d : TypeDesc} (h : P.info? t = some i) (hd : P.underlying t = some d) (ha : aggDesc d = true) {B o : Nat} {us : List Value} (hl : us.length = i.size)
    (hc : ∀ j (hj : j < us.length), w.cell? ⟨B, o + j, none⟩ = some us[j]) : (loadVar t ⟨B, o, none⟩).run P w = .ok (.agg us.toArray) w := by
  have := run_loadCells_list (P := P) w ⟨B, o, none⟩ us (fun j v hj => by
    obtain ⟨hj', rfl⟩ := List.getElem?_eq_some_iff.1 hj
    rw [addr_add]; exact hc j hj')
  rw [hl] at this
  simp [loadVar, run_isAgg hd, ha, run_sizeOf h, this]
theorem run_loadVar_one {t : TypeId} {d : TypeDesc} (hd : P.underlying t = some d) (ha : aggDesc d = false) {B o : Nat} {u : Value} (hc : w.cell? ⟨B, o, none⟩ = some u) : (loadVar t ⟨B, o, none⟩).run P w = .ok u w := by
  simp [loadVar, run_isAgg hd, ha, hc]

theorem sound_load {K : Eff → Prop} {t : TypeId} {x : PV} {u : Value} (h : aLoad P hp t x K) (hx : V G w x u) (hR : RH G hp w) : Ok P hp G w K (Instr.loadAt t u) := by
  unfold aLoad at h
  split at h
  · rename_i ti hti
    obtain ⟨inf, d, z, hT⟩ := tinf_of hti
    split at h
    · rename_i v
      obtain ⟨⟨h1, h2⟩, hk⟩ := h
      cases hx with
      | view _ B o us hs hv =>
      rw [hT.agg] at h1
      cases ha : aggDesc d with
      | true =>
        rw [ha] at h1
        cases v with
        | agg cs =>
          simp only [PV.cells] at hs hv h2
          refine .val [] hk (v := .agg ((List.range cs.length).map us).toArray) ?_ ?_ hR
          · simp only [Instr.loadAt, Instr.sureAddr, Sem.run_bind, Sem.run_pure, Result.andThen_ok]
            refine run_loadVar_agg hT.info hT.und ha (by simp [h2, hT.sz]) fun j hj => ?_
            have := (hs j (by simpa using hj)).2.1
            simpa using this
          · refine V.of_agg ⟨by simp, fun i h h' => ?_⟩ (fun u hu => ?_)
            · simpa using hv i h
            · simp only [List.mem_map, List.mem_range] at hu
              obtain ⟨j, hj, rfl⟩ := hu
              exact (hs j hj).2.2
        | _ => cases h1
      | false =>
        rw [ha] at h1
        have hc : v.cells = [v] := by cases v <;> first | rfl | cases h1
        have h0 : 0 < v.cells.length := by rw [hc]; simp
        have hv0 := hv 0 h0
        simp only [hc, List.getElem_cons_zero] at hv0
        refine .val [] hk ?_ hv0 hR
        have := (hs 0 h0).2.1
        simp only [Instr.loadAt, Instr.sureAddr, Sem.run_bind, Sem.run_pure, Result.andThen_ok]
        exact run_loadVar_one hT.und ha (by simpa using this)
    · rename_i l off
      split at h
      · rename_i cs hcs
        obtain ⟨⟨h1, h0⟩, hk⟩ := h
        obtain ⟨hl, hle⟩ := List.getElem?_eq_some_iff.1 hcs
        have hO := hR.obj l hl
        rw [hle] at hO
        obtain ⟨B, arr, ty, fr, hB, hS, hw, hfr, hsz, hv⟩ := hO
        cases hx with
        | ptr _ _ B' hB' =>
        obtain rfl : B' = B := Option.some.inj (hB'.symm.trans hB)
        have hcell : ∀ j (hj : j < arr.size), w.cell? ⟨B', j, none⟩ = some arr[j] := fun j hj => by simp [World.cell?, hw, Array.getElem?_eq_getElem hj]
        rw [hT.sz, hT.agg] at hk
        rw [hT.sz] at h1 h0
        cases ha : aggDesc d with
        | true =>
          rw [ha] at hk
          obtain ⟨hp1, hp2⟩ := prefix_VL hsz.2 hv
          refine .val [l] hk (v := .agg (((arr.toList.take cs.length).drop off).take inf.size).toArray) ?_ ?_ hR
          · simp only [Instr.loadAt, Instr.sureAddr, Sem.run_bind, Sem.run_pure, Result.andThen_ok]
            refine run_loadVar_agg hT.info hT.und ha (by simp; omega) fun j hj => ?_
            simp at hj
            rw [hcell (off + j) (by omega)]
            simp
          · simp only [partP, if_true]
            exact V.of_agg ((hp1.drop off).take _) ((hp2.drop off).take _)
        | false =>
          rw [ha] at hk
          have hlt : off < arr.size := by omega
          refine .val [l] hk (v := arr[off]) ?_ ?_ hR
          · simp only [Instr.loadAt, Instr.sureAddr, Sem.run_bind, Sem.run_pure, Result.andThen_ok]
            exact run_loadVar_one hT.und ha (hcell off hlt)
          · simp only [partP, Bool.false_eq_true, if_false]
            rw [List.getD_eq_getElem?_getD, List.getElem?_eq_getElem (by omega)]
            exact (hv off (by omega) hlt).1
      · exact h.elim
    · exact h.elim
  · exact h.elim
end
end Go.Proofs.YtlfngjemfpjegaaDoor.Px
