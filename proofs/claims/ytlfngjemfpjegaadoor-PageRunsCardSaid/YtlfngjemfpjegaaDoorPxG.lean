/- The abstract machine (Px): converting, lengths, least and greatest; structs, slices and objects that are made; stores. -/
import Derived.Test.YtlfngjemfpjegaaDoorPxF
namespace Go.Proofs.YtlfngjemfpjegaaDoor.Px
open Go Go.RowKit
set_option linter.unusedVariables false
set_option linter.unusedSimpArgs false

section
variable {P : Program} {hp : List AObj} {G : Gh} {w : World}

/-! ### 1. Converting -/
def bytesL : List PV → Option (List Int)
  | [] => some []
  | .int .u8 n :: r => (bytesL r).map (n :: ·)
  | _ => none
def strOf (l : List Int) : ByteArray := l.foldl (fun r n => r.push (UInt8.ofNat n.toNat)) ByteArray.empty

theorem strOf_go : ∀ (l : List Int) (r : ByteArray), (l.foldl (fun r n => r.push (UInt8.ofNat n.toNat)) r).size = r.size + l.length
  | [], r => rfl
  | n :: l, r => by rw [List.foldl_cons, strOf_go l, ByteArray.size_push, List.length_cons]; omega
theorem strOf_size (l : List Int) : (strOf l).size = l.length := by rw [strOf, strOf_go]; exact Nat.zero_add _

def aConv (P : Program) (src dst : TypeId) (x : PV) (K : Eff → Prop) : Prop :=
  match tinf P src, tinf P dst with
  | some si, some di => match di.kd, x with
    | .int k, .int _ n => K { v := .int k (k.wrap n) }
    | .str, .str s => (match si.kd with | .str => True | _ => False) ∧ K { v := .str s }
    | .str, .slice _ es => (∃ e ei, si.kd = .slice e ∧ tinf P e = some ei ∧ ei.kd = .int .u8) ∧ ∃ l, bytesL es = some l ∧ K { v := .str (strOf l) }
    | .str, .nil0 => (∃ e ei, si.kd = .slice e ∧ tinf P e = some ei ∧ ei.kd = .int .u8) ∧ K { v := .str ByteArray.empty }
    | _, _ => False
  | _, _ => False

theorem V.int_inv {k : IntKind} {n : Int} {u : Value} (h : V G w (.int k n) u) : u = .int k n := by cases h; rfl

theorem bytesL_get : ∀ (es : List PV) (l : List Int), bytesL es = some l → l.length = es.length ∧ ∀ i (h : i < es.length) (h' : i < l.length), es[i] = .int .u8 l[i] := by
  intro es
  induction es with
  | nil => intro l h; simp [bytesL] at h; subst h; simp
  | cons x xs ih =>
    intro l h
    cases x <;> try (simp [bytesL] at h; done)
    rename_i k n
    cases k <;> try (simp [bytesL] at h; done)
    simp only [bytesL, Option.map_eq_some_iff] at h
    obtain ⟨l', h1, rfl⟩ := h
    obtain ⟨h2, h3⟩ := ih l' h1
    refine ⟨by simp [h2], fun i hi hi' => ?_⟩
    cases i with
    | zero => rfl
    | succ i => simpa using h3 i (by simpa using hi) (by simpa using hi')

theorem sound_conv {K : Eff → Prop} {src dst : TypeId} {x : PV} {u : Value} (h : aConv P src dst x K) (hx : V G w x u) (hR : RH G hp w) : Ok P hp G w K (convert src dst u) := by
  unfold aConv at h
  split at h
  · rename_i si di hsi hdi
    obtain ⟨sin, sd, sz, hS⟩ := tinf_of hsi
    obtain ⟨din, dd, dz, hD⟩ := tinf_of hdi
    split at h
    · rename_i k k' n hkd
      have hu := hD.und
      have hd := kd_int (hkd ▸ hD.kd)
      rw [hd] at hu
      cases hx
      refine .val [] h (v := .int k (k.wrap n)) ?_ (.int _ _) hR
      simp [convert, run_underlying hS.und, run_underlying hu, Conv.intToInt]
    · rename_i s hkd
      have hu := hD.und
      have hd := kd_str (hkd ▸ hD.kd)
      rw [hd] at hu
      cases hx with | str _ hm =>
      obtain ⟨h1, h⟩ := h
      split at h1
      · rename_i hks
        have hus := hS.und
        have hd' := kd_str (hks ▸ hS.kd)
        rw [hd'] at hus
        refine .val [] h (v := .string s) ?_ (.str _ hm) hR
        simp [convert, run_underlying hus, run_underlying hu]
      · exact h1.elim
    · rename_i c es hkd
      have hu := hD.und
      have hd := kd_str (hkd ▸ hD.kd)
      rw [hd] at hu
      obtain ⟨⟨e, ei, hse, hei, hek⟩, l, hl, hk⟩ := h
      have hus := hS.und
      have hds := kd_slice (hse ▸ hS.kd)
      rw [hds] at hus
      obtain ⟨ein, ed, ez, hE⟩ := tinf_of hei
      have hue := hE.und
      have hde := kd_int (hek ▸ hE.kd)
      rw [hde] at hue
      obtain ⟨h1, h2⟩ := bytesL_get es l hl
      cases hx with
      | slice _ _ a B o s n cap us hn hle hm hsz ha hs hv he ht =>
      rcases Nat.eq_zero_or_pos n with h0 | h0
      · have : es = [] := by apply List.eq_nil_of_length_eq_zero; omega
        subst this
        simp [bytesL] at hl
        subst hl
        subst h0
        refine .val [] hk (v := .string ByteArray.empty) ?_ (.str _ (Nat.zero_le _)) hR
        cases a with
        | none => simp [convert, run_underlying hus, run_underlying hu, run_underlying hue, Conv.bytesToString]
        | some a =>
          have := run_bytesToString (P := P) w a 0 cap [] (by simp [loadCells, loadCellsFrom])
          simp [convert, run_underlying hus, run_underlying hu, run_underlying hue, this]
      · have haa := ha h0
        subst haa
        refine .val [] hk (v := .string (strOf l)) ?_ (.str _ (by rw [strOf_size]; omega)) hR
        have hs1 : s = 1 := by
          have := hsz 0 (by omega)
          rw [h2 0 (by omega) (by omega)] at this
          simpa [PV.cells] using this.symm
        have hload : (loadCells (⟨B, o, none⟩ : Addr) n).run P w = .ok (l.map (Value.int .u8)).toArray w := by
          have := run_loadCells_list (P := P) w ⟨B, o, none⟩ (l.map (Value.int .u8)) (fun j v hj => by
            rw [addr_add]
            obtain ⟨hj', rfl⟩ := List.getElem?_eq_some_iff.1 hj
            simp only [List.length_map] at hj'
            have hc := hs j (by rw [hs1]; omega)
            have hvj := hv j 0 (by omega) (by rw [h2 j (by omega) hj']; simp [PV.cells])
            rw [hs1] at hvj
            simp only [h2 j (by omega) hj', PV.cells, List.getElem_cons_zero, Nat.mul_one, Nat.add_zero] at hvj
            rw [hc.2.1, hvj.int_inv]
            simp)
          simp only [List.length_map] at this
          rw [← this]
          congr 2
          omega
        have := run_bytesToString (P := P) w ⟨B, o, none⟩ n cap l hload
        simp [convert, run_underlying hus, run_underlying hu, run_underlying hue, this]
        rfl
    · rename_i hkd
      have hu := hD.und
      have hd := kd_str (hkd ▸ hD.kd)
      rw [hd] at hu
      obtain ⟨⟨e, ei, hse, hei, hek⟩, hk⟩ := h
      have hus := hS.und
      have hds := kd_slice (hse ▸ hS.kd)
      rw [hds] at hus
      obtain ⟨ein, ed, ez, hE⟩ := tinf_of hei
      have hue := hE.und
      have hde := kd_int (hek ▸ hE.kd)
      rw [hde] at hue
      cases hx with
      | nil0 a =>
      refine .val [] hk (v := .string ByteArray.empty) ?_ (.str _ (Nat.zero_le _)) hR
      cases a with
      | none => simp [convert, run_underlying hus, run_underlying hu, run_underlying hue, Conv.bytesToString]
      | some a =>
        have := run_bytesToString (P := P) w a 0 0 [] (by simp [loadCells, loadCellsFrom])
        simp [convert, run_underlying hus, run_underlying hu, run_underlying hue, this]
    · exact h.elim
  · exact h.elim

/-! ### 2. Lengths; the least, the greatest -/
def aLen (P : Program) (t : TypeId) (x : PV) (K : Eff → Prop) : Prop :=
  match tinf P t with
  | some ti => match ti.kd, x with
    | .str, .str s => K { v := .int .i64 s.size }
    | .slice _, .slice _ es => K { v := .int .i64 es.length }
    | .slice _, .nil0 => K { v := .int .i64 0 }
    | .slice _, .mslice _ _ n _ => K { v := .int .i64 n }
    | .array n _, _ => K { v := .int .i64 n }
    | _, _ => False
  | none => False

theorem sound_len {K : Eff → Prop} {t ty : TypeId} {x : PV} {u : Value} (h : aLen P t x K) (hx : V G w x u) (hR : RH G hp w) : Ok P hp G w K (Builtin.len_ #[t] ty #[u]) := by
  unfold aLen at h
  split at h
  · rename_i ti hti
    obtain ⟨inf, d, z, hT⟩ := tinf_of hti
    have hu := hT.und
    split at h
    · rename_i s hkd
      have hd := kd_str (hkd ▸ hT.kd)
      rw [hd] at hu
      cases hx
      exact .val [] h (by simp [Builtin.len_, run_underlying hu, goInt]) (.int _ _) hR
    · rename_i e c es hkd
      have hd := kd_slice (hkd ▸ hT.kd)
      rw [hd] at hu
      cases hx with
      | slice _ _ a B o s n cap us hn hle hm hsz ha hs hv he ht =>
      subst hn
      exact .val [] h (by simp [Builtin.len_, run_underlying hu, goInt]) (.int _ _) hR
    · rename_i e hkd
      have hd := kd_slice (hkd ▸ hT.kd)
      rw [hd] at hu
      cases hx
      exact .val [] h (by simp [Builtin.len_, run_underlying hu, goInt]) (.int _ _) hR
    · rename_i e l off n s hkd
      have hd := kd_slice (hkd ▸ hT.kd)
      rw [hd] at hu
      cases hx
      exact .val [] h (by simp [Builtin.len_, run_underlying hu, goInt]) (.int _ _) hR
    · rename_i n e hkd
      have hd := kd_array (hkd ▸ hT.kd)
      rw [hd] at hu
      exact .val [] h (by simp [Builtin.len_, run_underlying hu, goInt]) (.int _ _) hR
    · exact h.elim
  · exact h.elim

def minI (a b : Int) : Int := if b < a then b else a
def maxI (a b : Int) : Int := if b > a then b else a
def aMin (x y : PV) (K : Eff → Prop) : Prop :=
  match x, y with
  | .int k a, .int k' b => K { v := .int k (minI a b) }
  | _, _ => False
def aMax (x y : PV) (K : Eff → Prop) : Prop :=
  match x, y with
  | .int k a, .int k' b => K { v := .int k (maxI a b) }
  | _, _ => False
theorem sound_min {K : Eff → Prop} {ts : Array TypeId} {ty : TypeId} {x y : PV} {u v : Value} (h : aMin x y K) (hx : V G w x u) (hy : V G w y v) (hR : RH G hp w) : Ok P hp G w K (Builtin.min_ ts ty #[u, v]) := by
  unfold aMin at h
  split at h
  · cases hx; cases hy
    exact .val [] h (by simp [Builtin.min_, Builtin.min2, minI]) (.int _ _) hR
  · exact h.elim
theorem sound_max {K : Eff → Prop} {ts : Array TypeId} {ty : TypeId} {x y : PV} {u v : Value} (h : aMax x y K) (hx : V G w x u) (hy : V G w y v) (hR : RH G hp w) : Ok P hp G w K (Builtin.max_ ts ty #[u, v]) := by
  unfold aMax at h
  split at h
  · cases hx; cases hy
    exact .val [] h (by simp [Builtin.max_, Builtin.max2, maxI]) (.int _ _) hR
  · exact h.elim

/-! ### 3. Tuples, structs, slices that are written out -/
def aExtract (x : PV) (i : Nat) (K : Eff → Prop) : Prop :=
  match x with
  | .tuple vs => match vs[i]? with
    | some v => K { v := v }
    | none => False
  | _ => False
theorem sound_extract {K : Eff → Prop} {x : PV} {u : Value} {i : Nat} (h : aExtract x i K) (hx : V G w x u) (hR : RH G hp w) : Ok P hp G w K (Instr.extract u i) := by
  unfold aExtract at h
  split at h
  · split at h
    · rename_i vs v hv
      obtain ⟨hi, rfl⟩ := List.getElem?_eq_some_iff.1 hv
      cases hx with
      | tuple _ us hl hvs =>
      have hi' : i < us.size := by omega
      exact .val [] h (by simp [Instr.extract, Array.getElem?_eq_getElem hi']) (hvs i hi hi') hR
    · exact h.elim
  · exact h.elim

/-- What a type assertion to a concrete type finds. -/
def aTA (P : Program) (to : TypeId) (ok : Bool) (x : PV) (K : Eff → Prop) : Prop :=
  match tinf P to with
  | some ti => match ti.kd with
    | .iface => False
    | _ => match x with
      | .iface t v => if t = to then (if ok then K { v := .tuple [v, .bool true] } else K { v := v }) else (if ok then K { v := .tuple [ti.zero, .bool false] } else False)
      | .niliface => if ok then K { v := .tuple [ti.zero, .bool false] } else False
      | _ => False
  | none => False
theorem tuple_two {x y : PV} {a b : Value} (h : V G w x a) (k : V G w y b) : V G w (.tuple [x, y]) (.tuple #[a, b]) := by
  refine .tuple _ _ rfl fun i h1 h2 => ?_
  match i, h1 with
  | 0, _ => exact h
  | 1, _ => exact k
theorem ta_ne {ti : TI} {inf : TypeInfo} {d : TypeDesc} {z : Value} {to : TypeId} (hT : TIOf P to ti inf d z) (hk : ti.kd ≠ .iface) : ∀ ms, d ≠ .interface ms := fun ms e => by
  have := hT.kd
  rw [e] at this
  exact hk (by simpa [kdOf] using this)
theorem run_ta_eq {ti : TI} {inf : TypeInfo} {d : TypeDesc} {z : Value} {to xT : TypeId} {ok : Bool} (hT : TIOf P to ti inf d z) (hk : ti.kd ≠ .iface) (v : Value) :
    (Instr.typeAssert (.iface to v) xT to ok).run P w = .ok (if ok then .tuple #[v, .bool true] else v) w := by
  have hne := ta_ne hT hk
  simp only [Instr.typeAssert, Sem.run_bind, run_underlying hT.und, Result.andThen_ok]
  cases d <;> first | exact absurd rfl (hne _) | simp
theorem run_ta_ne {ti : TI} {inf : TypeInfo} {d : TypeDesc} {z : Value} {to xT t : TypeId} (hT : TIOf P to ti inf d z) (hk : ti.kd ≠ .iface) (ht : ¬ t = to) (v : Value) :
    (Instr.typeAssert (.iface t v) xT to true).run P w = .ok (.tuple #[z, .bool false]) w := by
  have hne := ta_ne hT hk
  simp only [Instr.typeAssert, Sem.run_bind, run_underlying hT.und, Result.andThen_ok]
  cases d <;> first | exact absurd rfl (hne _) | simp [ht, run_zeroValue hT.info hT.zero]
theorem run_ta_nil {ti : TI} {inf : TypeInfo} {d : TypeDesc} {z : Value} {to xT : TypeId} (hT : TIOf P to ti inf d z) (hk : ti.kd ≠ .iface) :
    (Instr.typeAssert .nilIface xT to true).run P w = .ok (.tuple #[z, .bool false]) w := by
  have hne := ta_ne hT hk
  simp only [Instr.typeAssert, Sem.run_bind, run_underlying hT.und, Result.andThen_ok]
  cases d <;> first | exact absurd rfl (hne _) | simp [run_zeroValue hT.info hT.zero]
theorem sound_ta {K : Eff → Prop} {x : PV} {u : Value} {xT to : TypeId} {ok : Bool} (h : aTA P to ok x K) (hx : V G w x u) (hR : RH G hp w) : Ok P hp G w K (Instr.typeAssert u xT to ok) := by
  unfold aTA at h
  split at h
  · rename_i ti hti
    obtain ⟨inf, d, z, hT⟩ := tinf_of hti
    have hz : V G w ti.zero z := by rw [hT.z]; exact ofConst_V _ _ _
    have hkd : ti.kd ≠ .iface := fun e => by rw [e] at h; exact h
    split at h
    · exact h.elim
    split at h
    · rename_i t v
      cases hx with
      | iface _ _ uv hv =>
      split at h
      · rename_i ht
        subst ht
        have hr := run_ta_eq (w := w) (xT := xT) (ok := ok) hT hkd uv
        cases ok with
        | true => exact .val [] h hr (tuple_two hv (.bool true)) hR
        | false => exact .val [] h hr hv hR
      · rename_i ht
        have hr := run_ta_ne (w := w) (xT := xT) hT hkd ht uv
        cases ok with
        | true => exact .val [] h hr (tuple_two hz (.bool false)) hR
        | false => exact h.elim
    · cases hx
      have hr := run_ta_nil (w := w) (xT := xT) hT hkd
      cases ok with
      | true => exact .val [] h hr (tuple_two hz (.bool false)) hR
      | false => exact h.elim
    · exact h.elim
  · exact h.elim

def splice (cs : List PV) (off : Nat) (xs : List PV) : List PV := cs.take off ++ xs ++ cs.drop (off + xs.length)
def spliceV (cs : List Value) (off : Nat) (xs : List Value) : List Value := cs.take off ++ xs ++ cs.drop (off + xs.length)
theorem vl_splice {cs xs : List PV} {us vs : List Value} (h : VL G w cs us) (k : VL G w xs vs) (off : Nat) : VL G w (splice cs off xs) (spliceV us off vs) := by
  unfold splice spliceV
  rw [k.1]
  exact ((h.take off).append k).append (h.drop _)
theorem o_splice {us vs : List Value} (h : O us) (k : O vs) (off : Nat) : O (spliceV us off vs) := ((h.take off).append k).append (h.drop _)

theorem foldl_set (vs : List Value) : ∀ (k off : Nat) (cs : Array Value), off + k + vs.length ≤ cs.size →
    ((vs.zipIdx k).foldl (fun cs (c, j) => cs.setIfInBounds (off + j) c) cs).toList = spliceV cs.toList (off + k) vs := by
  induction vs with
  | nil => intro k off cs h; simp [spliceV]
  | cons v vs ih =>
    intro k off cs h
    simp only [List.length_cons] at h
    rw [List.zipIdx_cons, List.foldl_cons, ih (k + 1) off _ (by simp; omega)]
    simp only [Array.toList_setIfInBounds, spliceV]
    have hlt : off + k < cs.toList.length := by simp; omega
    rw [show off + (k + 1) = off + k + 1 by omega, List.take_set, List.drop_set]
    rw [List.take_succ_eq_append_getElem hlt]
    have e1 : ((List.take (off + k) cs.toList) ++ [cs.toList[off + k]]).set (off + k) v = List.take (off + k) cs.toList ++ [v] := by
      rw [List.set_append]
      have : (List.take (off + k) cs.toList).length = off + k := by simp; simp at hlt; omega
      rw [if_neg (by omega), this]
      simp
    rw [e1]
    simp only [List.length_cons, List.append_assoc, List.singleton_append, List.cons_append, List.nil_append]
    congr 3
    rw [if_pos (by omega)]
    congr 1
    omega

def fillP (place : Nat → Option (Nat × Nat)) (cells : List PV) : List (Nat × PV) → Option (List PV)
  | [] => some cells
  | (i, v) :: rest => match place i with
    | none => none
    | some (off, size) => if v.ok = true ∧ v.cells.length = size ∧ off + v.cells.length ≤ cells.length then fillP place (splice cells off v.cells) rest else none

theorem fill_sound (place : Nat → Option (Nat × Nat)) : ∀ (ps : List (Nat × PV)) (us : List (Nat × Value)) (cells : List PV) (uc : Array Value) (r : List PV),
    us.length = ps.length → (∀ i (h : i < ps.length) (h' : i < us.length), us[i].1 = ps[i].1 ∧ V G w ps[i].2 us[i].2) → VL G w cells uc.toList → O uc.toList →
    fillP place cells ps = some r → ∃ ru, Instr.fill place uc us = some ru ∧ VL G w r ru.toList ∧ O ru.toList := by
  intro ps
  induction ps with
  | nil =>
    intro us cells uc r hl _ hc ho hr
    cases us with
    | nil => simp [fillP] at hr; subst hr; exact ⟨uc, rfl, hc, ho⟩
    | cons => simp at hl
  | cons p ps ih =>
    intro us cells uc r hl hv hc ho hr
    cases us with
    | nil => simp at hl
    | cons u us =>
      obtain ⟨i, v⟩ := p
      obtain ⟨i', x⟩ := u
      obtain ⟨he, hV⟩ := hv 0 (by simp) (by simp)
      simp only [List.getElem_cons_zero] at he hV
      subst he
      simp only [fillP] at hr
      cases hp : place i' with
      | none => rw [hp] at hr; cases hr
      | some os =>
        obtain ⟨off, size⟩ := os
        rw [hp] at hr
        simp only at hr
        split at hr
        · rename_i hcond
          obtain ⟨hok, hsz, hb⟩ := hcond
          have hcl := hV.cells hok
          have hxs : x.cells.size = v.cells.length := by have := hcl.1.1; simpa using this
          have hus : uc.size = cells.length := by have := hc.1; simpa using this
          have hfold := foldl_set x.cells.toList 0 off uc (by simp; omega)
          have hz : (x.cells.zipIdx.foldl (fun cs (c, j) => cs.setIfInBounds (off + j) c) uc).toList = spliceV uc.toList off x.cells.toList := by
            rw [← Array.foldl_toList, Array.toList_zipIdx]
            simpa using hfold
          obtain ⟨ru, h1, h2⟩ := ih us (splice cells off v.cells) (x.cells.zipIdx.foldl (fun cs (c, j) => cs.setIfInBounds (off + j) c) uc) r (by simpa using hl)
            (fun j a b => hv (j + 1) (by simpa using a) (by simpa using b)) (by rw [hz]; exact vl_splice hc hcl.1 off) (by rw [hz]; exact o_splice ho hcl.2 off) hr
          refine ⟨ru, ?_, h2⟩
          simp only [Instr.fill, hp]
          rw [if_neg (by simp [hxs, hsz]; omega)]
          exact h1
        · cases hr
end
end Go.Proofs.YtlfngjemfpjegaaDoor.Px
