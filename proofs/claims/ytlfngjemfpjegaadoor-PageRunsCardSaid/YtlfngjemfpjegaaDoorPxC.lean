/- The abstract machine (Px): the types' table, and what operations on values give: each is met by the model. -/
import Derived.Test.YtlfngjemfpjegaaDoorPxB
import Derived.Tactics
import Derived.Tactics2
import Derived.WalkKit
namespace Go.Proofs.YtlfngjemfpjegaaDoor.Px
open Go Go.RowKit
set_option linter.unusedVariables false
set_option linter.unusedSimpArgs false

/-! ### 1. Lists of values -/
def VL (G : Gh) (w : World) (ps : List PV) (us : List Value) : Prop :=
  us.length = ps.length ∧ ∀ i (h : i < ps.length) (h' : i < us.length), V G w ps[i] us[i]

theorem VL.nil (G : Gh) (w : World) : VL G w [] [] := ⟨rfl, fun i h => by simp at h⟩
theorem VL.mono {G G' : Gh} {w w' : World} (k : Keeps G w G' w') {ps : List PV} {us : List Value} (h : VL G w ps us) : VL G' w' ps us :=
  ⟨h.1, fun i h1 h2 => (h.2 i h1 h2).mono k⟩
theorem VL.cons {G : Gh} {w : World} {p : PV} {u : Value} {ps : List PV} {us : List Value} (h : V G w p u) (hs : VL G w ps us) : VL G w (p :: ps) (u :: us) :=
  ⟨by simp [hs.1], fun i h1 h2 => by
    cases i with
    | zero => exact h
    | succ i => exact hs.2 i (by simpa using h1) (by simpa using h2)⟩
theorem VL.head {G : Gh} {w : World} {p : PV} {u : Value} {ps : List PV} {us : List Value} (h : VL G w (p :: ps) (u :: us)) : V G w p u := h.2 0 (by simp) (by simp)
theorem VL.tail {G : Gh} {w : World} {p : PV} {u : Value} {ps : List PV} {us : List Value} (h : VL G w (p :: ps) (u :: us)) : VL G w ps us :=
  ⟨by have := h.1; simpa using this, fun i h1 h2 => h.2 (i + 1) (by simpa using h1) (by simpa using h2)⟩
theorem VL.append {G : Gh} {w : World} {ps qs : List PV} {us vs : List Value} (h : VL G w ps us) (k : VL G w qs vs) : VL G w (ps ++ qs) (us ++ vs) :=
  ⟨by simp [h.1, k.1], fun i h1 h2 => by
    by_cases hi : i < ps.length
    · rw [List.getElem_append_left hi, List.getElem_append_left (by rw [h.1]; exact hi)]
      exact h.2 i hi _
    · rw [List.getElem_append_right (by omega), List.getElem_append_right (by rw [h.1]; omega)]
      have e := h.1
      simp only [e]
      exact k.2 _ _ _⟩
theorem VL.take {G : Gh} {w : World} {ps : List PV} {us : List Value} (h : VL G w ps us) (n : Nat) : VL G w (ps.take n) (us.take n) :=
  ⟨by simp [h.1], fun i h1 h2 => by
    rw [List.getElem_take, List.getElem_take]
    exact h.2 i _ _⟩
theorem VL.drop {G : Gh} {w : World} {ps : List PV} {us : List Value} (h : VL G w ps us) (n : Nat) : VL G w (ps.drop n) (us.drop n) :=
  ⟨by simp [h.1], fun i h1 h2 => by
    rw [List.getElem_drop, List.getElem_drop]
    exact h.2 (n + i) _ _⟩
theorem VL.set {G : Gh} {w : World} {ps : List PV} {us : List Value} (h : VL G w ps us) (n : Nat) {p : PV} {u : Value} (hp : V G w p u) : VL G w (ps.set n p) (us.set n u) :=
  ⟨by simp [h.1], fun i h1 h2 => by
    rw [List.getElem_set, List.getElem_set]
    split
    · exact hp
    · exact h.2 i _ _⟩

def PV.ok : PV → Bool
  | .bad => false
  | .tuple _ => false
  | _ => true

def O (us : List Value) : Prop := ∀ u ∈ us, u.oneCell' = true
theorem O.nil : O [] := fun u h => by simp at h
theorem O.append {us vs : List Value} (h : O us) (k : O vs) : O (us ++ vs) := fun u hu => (List.mem_append.1 hu).elim (h u) (k u)
theorem O.take {us : List Value} (h : O us) (n : Nat) : O (us.take n) := fun u hu => h u (List.mem_of_mem_take hu)
theorem O.drop {us : List Value} (h : O us) (n : Nat) : O (us.drop n) := fun u hu => h u (List.mem_of_mem_drop hu)

theorem V.one {G : Gh} {w : World} {p : PV} {u : Value} (h : V G w p u) (hp : p.ok = true) (ha : p.isAgg = false) : u.oneCell' = true := by
  cases h <;> first | rfl | (cases hp; done) | (cases ha; done)

theorem V.cells {G : Gh} {w : World} {p : PV} {u : Value} (h : V G w p u) (hp : p.ok = true) : VL G w p.cells u.cells.toList ∧ O u.cells.toList := by
  have h0 := h
  cases h with
  | bad => cases hp
  | tuple => cases hp
  | agg cs vs hl h1 hv =>
    refine ⟨⟨by simpa [PV.cells, Value.cells] using hl, fun i h1 h2 => ?_⟩, fun u hu => ?_⟩
    · have h3 : i < vs.size := by simpa [Value.cells] using h2
      have e := hv i h1 h3
      rw [← Array.getElem_toList h3] at e
      exact e
    · obtain ⟨i, hi, rfl⟩ := List.getElem_of_mem hu
      have h3 : i < vs.size := by simpa [Value.cells] using hi
      have e := h1 i h3
      rw [← Array.getElem_toList h3] at e
      exact e
  | _ =>
    refine ⟨.cons h0 (.nil _ _), fun u hu => ?_⟩
    simp only [Value.cells, List.mem_singleton] at hu
    subst hu
    exact h0.one hp rfl

theorem V.of_agg {G : Gh} {w : World} {cs : List PV} {us : List Value} (h : VL G w cs us) (h1 : O us) : V G w (.agg cs) (.agg us.toArray) :=
  .agg cs _ (by simpa using h.1) (fun i hi => h1 _ (by simp)) fun i h1 h2 => by simpa using h.2 i h1 (by simpa using h2)

/-! ### 2. Types -/
structure FI where
  off : Nat
  sz : Nat
  agg : Bool
  deriving DecidableEq
inductive TK where
  | int (k : IntKind) | bool | str | slice (e : TypeId) | struct (fs : List FI) | array (n : Nat) (e : TypeId) | ptr (e : TypeId) | map (k e : TypeId) | iface | func | other
structure TI where
  sz : Nat
  agg : Bool
  bytes : Nat
  zero : PV
  kd : TK

def aggDesc : TypeDesc → Bool
  | .struct _ | .array _ _ => true
  | _ => false
def fiOf (P : Program) (f : Field) : Option FI :=
  match P.info? f.type, P.underlying f.type with
  | some i, some d => if i.size = 0 then none else some ⟨f.offset, i.size, aggDesc d⟩
  | _, _ => none
def kdOf (P : Program) : TypeDesc → TK
  | .int k => .int k
  | .bool => .bool
  | .string => .str
  | .slice e => .slice e
  | .array n e => .array n e
  | .pointer e => .ptr e
  | .map k e => .map k e
  | .interface _ => .iface
  | .func _ _ _ => .func
  | .struct fs => match fs.toList.mapM (fiOf P) with
    | some l => .struct l
    | none => .other
  | _ => .other
def tinf (P : Program) (t : TypeId) : Option TI :=
  match P.info? t, P.underlying t with
  | some i, some d => match i.zero with
    | some z => some { sz := i.size, agg := aggDesc d, bytes := i.bytes, zero := ofConst z, kd := kdOf P d }
    | none => none
  | _, _ => none

structure TIOf (P : Program) (t : TypeId) (ti : TI) (i : TypeInfo) (d : TypeDesc) (z : Value) : Prop where
  info : P.info? t = some i
  und : P.underlying t = some d
  zero : i.zero = some z
  sz : ti.sz = i.size
  agg : ti.agg = aggDesc d
  bytes : ti.bytes = i.bytes
  z : ti.zero = ofConst z
  kd : ti.kd = kdOf P d
theorem tinf_of {P : Program} {t : TypeId} {ti : TI} (h : tinf P t = some ti) : ∃ i d z, TIOf P t ti i d z := by
  unfold tinf at h
  split at h
  · rename_i i d hi hd
    split at h
    · rename_i z hz
      injection h with h
      subst h
      exact ⟨i, d, z, hi, hd, hz, rfl, rfl, rfl, rfl, rfl⟩
    · cases h
  · cases h
theorem kd_slice {P : Program} {d : TypeDesc} {e : TypeId} (h : TK.slice e = kdOf P d) : d = .slice e := by
  cases d <;> simp only [kdOf] at h <;> first | (injection h with h; rw [h]) | (exfalso; revert h; (try split) <;> intro h <;> cases h)
theorem kd_int {P : Program} {d : TypeDesc} {k : IntKind} (h : TK.int k = kdOf P d) : d = .int k := by
  cases d <;> simp only [kdOf] at h <;> first | (injection h with h; rw [h]) | (exfalso; revert h; (try split) <;> intro h <;> cases h)
theorem kd_bool {P : Program} {d : TypeDesc} (h : TK.bool = kdOf P d) : d = .bool := by
  cases d <;> simp only [kdOf] at h <;> first | rfl | (exfalso; revert h; (try split) <;> intro h <;> cases h)
theorem kd_str {P : Program} {d : TypeDesc} (h : TK.str = kdOf P d) : d = .string := by
  cases d <;> simp only [kdOf] at h <;> first | rfl | (exfalso; revert h; (try split) <;> intro h <;> cases h)
theorem kd_ptr {P : Program} {d : TypeDesc} {e : TypeId} (h : TK.ptr e = kdOf P d) : d = .pointer e := by
  cases d <;> simp only [kdOf] at h <;> first | (injection h with h; rw [h]) | (exfalso; revert h; (try split) <;> intro h <;> cases h)
theorem kd_array {P : Program} {d : TypeDesc} {n : Nat} {e : TypeId} (h : TK.array n e = kdOf P d) : d = .array n e := by
  cases d <;> simp only [kdOf] at h <;> first | (injection h with h1 h2; rw [h1, h2]) | (exfalso; revert h; (try split) <;> intro h <;> cases h)
theorem kd_map {P : Program} {d : TypeDesc} {k e : TypeId} (h : TK.map k e = kdOf P d) : d = .map k e := by
  cases d <;> simp only [kdOf] at h <;> first | (injection h with h1 h2; rw [h1, h2]) | (exfalso; revert h; (try split) <;> intro h <;> cases h)
theorem kd_struct {P : Program} {d : TypeDesc} {l : List FI} (h : TK.struct l = kdOf P d) : ∃ fs, d = .struct fs ∧ fs.toList.mapM (fiOf P) = some l := by
  cases d with
  | struct fs =>
    simp only [kdOf] at h
    split at h
    · rename_i l' hl
      injection h with h
      exact ⟨fs, rfl, h ▸ hl⟩
    · cases h
  | _ => simp only [kdOf] at h; cases h

theorem mapM_get {α β : Type} (f : α → Option β) : ∀ (l : List α) (r : List β), l.mapM f = some r → r.length = l.length ∧ ∀ (i : Nat) (b : β), r[i]? = some b → ∃ a, l[i]? = some a ∧ f a = some b := by
  intro l
  induction l with
  | nil => intro r h; simp at h; subst h; simp
  | cons x xs ih =>
    intro r h
    rw [List.mapM_cons] at h
    cases hx : f x with
    | none => rw [hx] at h; cases h
    | some y =>
      cases hxs : xs.mapM f with
      | none => rw [hx, hxs] at h; cases h
      | some ys =>
        rw [hx, hxs] at h
        simp at h
        subst h
        obtain ⟨h1, h2⟩ := ih ys hxs
        refine ⟨by simp [h1], fun i b hb => ?_⟩
        cases i with
        | zero => simp at hb; subst hb; exact ⟨x, rfl, hx⟩
        | succ i => simp at hb; simpa using h2 i b hb

/-- A field's row of the table, as the model has it. -/
theorem field_of {P : Program} {fs : Array Field} {l : List FI} (h : fs.toList.mapM (fiOf P) = some l) {i : Nat} {fi : FI} (hi : l[i]? = some fi) :
    ∃ f inf d, fs[i]? = some f ∧ P.info? f.type = some inf ∧ P.underlying f.type = some d ∧ f.offset = fi.off ∧ inf.size = fi.sz ∧ aggDesc d = fi.agg ∧ 0 < fi.sz := by
  obtain ⟨f, hf, hfi⟩ := (mapM_get _ _ _ h).2 i fi hi
  unfold fiOf at hfi
  split at hfi
  · rename_i inf d h1 h2
    split at hfi
    · cases hfi
    · rename_i hne
      injection hfi with hfi
      subst hfi
      exact ⟨f, inf, d, by simpa using hf, h1, h2, rfl, rfl, rfl, by show 0 < inf.size; omega⟩
  · cases hfi

section runs
variable {P : Program} {w : World}
theorem run_typeInfo {t : TypeId} {i : TypeInfo} (h : P.info? t = some i) : (typeInfo t).run P w = .ok i w := by simp [typeInfo, h]
theorem run_sizeOf {t : TypeId} {i : TypeInfo} (h : P.info? t = some i) : (sizeOf t).run P w = .ok i.size w := by simp [sizeOf, run_typeInfo h]
theorem run_zeroValue {t : TypeId} {i : TypeInfo} {z : Value} (h : P.info? t = some i) (hz : i.zero = some z) : (zeroValue t).run P w = .ok z w := by simp [zeroValue, run_typeInfo h, hz]
theorem run_isAgg {t : TypeId} {d : TypeDesc} (h : P.underlying t = some d) : (isAgg t).run P w = .ok (aggDesc d) w := by
  simp only [isAgg, Sem.run_bind, run_underlying h, Result.andThen_ok]
  cases d <;> rfl
/-- A part of a value's cells. -/
def partP (cs : List PV) (off sz : Nat) (agg : Bool) : PV := if agg then .agg ((cs.drop off).take sz) else cs.getD off .bad
theorem run_part {G : Gh} {t : TypeId} {i : TypeInfo} {d : TypeDesc} (h : P.info? t = some i) (hd : P.underlying t = some d) {cs : List PV} {us : Array Value} (hv : VL G w cs us.toList) (h1 : O us.toList) {off : Nat}
    (hb : off + i.size ≤ cs.length) (h0 : 0 < i.size) : ∃ v, (part t us off).run P w = .ok v w ∧ V G w (partP cs off i.size (aggDesc d)) v := by
  simp only [part, Sem.run_bind, run_isAgg hd, Result.andThen_ok]
  cases hagg : aggDesc d with
  | true =>
    refine ⟨.agg (us.extract off (off + i.size)), by simp [run_sizeOf h], ?_⟩
    have hx : us.extract off (off + i.size) = ((us.toList.drop off).take i.size).toArray := by
      apply Array.ext'
      simp [List.extract_eq_take_drop]
    rw [hx]
    simp only [partP, if_true]
    exact V.of_agg ((hv.drop off).take i.size) ((h1.drop off).take i.size)
  | false =>
    have hu : off < us.size := by have := hv.1; simp at this; omega
    refine ⟨us[off], by simp [Array.getElem?_eq_getElem hu], ?_⟩
    simp only [partP, Bool.false_eq_true, if_false]
    rw [List.getD_eq_getElem?_getD, List.getElem?_eq_getElem (by omega)]
    have e : us.toList[off]'(by simpa using hu) = us[off] := Array.getElem_toList hu
    rw [← e]
    exact hv.2 off (by omega) (by simpa using hu)
end runs
end Go.Proofs.YtlfngjemfpjegaaDoor.Px
