/- The abstract machine (Px): append meets the model. -/
import Derived.Test.YtlfngjemfpjegaaDoorPxK
namespace Go.Proofs.YtlfngjemfpjegaaDoor.Px
open Go Go.RowKit
set_option linter.unusedVariables false
set_option linter.unusedSimpArgs false

section
variable {P : Program} {hp : List AObj} {G : Gh} {w : World}

def aAppend (P : Program) (hp : List AObj) (t1 t2 : TypeId) (s x : PV) (K : Eff → Prop) : Prop :=
  match tinf P t1, tinf P t2, elemsOf x with
  | some ti, some ti2, some xs => match ti.kd with
    | .slice e => match tinf P e with
      | some te => ((match ti2.kd with | .slice _ => True | .str => True | _ => False) ∧ SZ te.sz xs ∧ 0 < te.bytes ∧ te.zero.ok = true ∧ te.zero.cells.length = te.sz) ∧
        (match s with
        | .nil0 => xs.length * te.bytes ≤ 140737488355328 ∧ (xs = [] → K { v := .nil0 }) ∧ (xs ≠ [] → K { v := .slice (.tail hp.length xs.length) xs, new := [.tip xs.length] })
        | .slice .exact es => (SZ te.sz es ∧ (es.length + xs.length) * te.bytes ≤ 140737488355328) ∧ (xs = [] → K { v := .slice .exact es }) ∧
            (xs ≠ [] → K { v := .slice (.tail hp.length (es.length + xs.length)) (es ++ xs), new := [.tip (es.length + xs.length)] })
        | .slice (.tail l t) es => (hp[l]? = some (.tip t) ∧ SZ te.sz es ∧ (es.length + xs.length) * te.bytes ≤ 140737488355328) ∧
            K { v := .slice (.tail l (t + xs.length)) (es ++ xs), set := [(l, .tip (t + xs.length))], rd := [l] }
        | _ => False)
      | none => False
    | _ => False
  | _, _, _ => False

theorem spliceV_length {cs xs : List Value} {off : Nat} (h : off + xs.length ≤ cs.length) : (spliceV cs off xs).length = cs.length := by
  simp [spliceV]; omega

theorem SZ.append {s : Nat} {a b : List PV} (h : SZ s a) (k : SZ s b) : SZ s (a ++ b) := fun x hx => (List.mem_append.1 hx).elim (h x) (k x)

/-- A new array for old elements and new ones. -/
theorem grow_ok {K : Eff → Prop} {m : Sem Value} {es xs : List PV} {s l T cap : Nat} {olds news rest : Array Value} {ty : TypeId} {eff : Eff} (hs : SZ s (es ++ xs)) (hR : RH G hp w) (hk : K eff)
    (hv : eff.v = .slice (.tail l T) (es ++ xs)) (hstep : HpStep hp (after hp eff) l T) (hold : ∀ e x, G.H l e = some x → e < T)
    (hr : m.run P w = .ok (.slice (some ⟨w.heap.size, 0, none⟩) (es ++ xs).length cap) (w.drew.alloc (.cells (olds ++ news ++ rest) ty))) (hcap : (es ++ xs).length ≤ cap) (hm : (es ++ xs).length ≤ 9223372036854775807) (hpos : 0 < (es ++ xs).length) (hrest : (cap - (es ++ xs).length) * s = rest.size)
    (h1 : VL G w (flat es) olds.toList) (o1 : O olds.toList) (h2 : VL G w (flat xs) news.toList) (o2 : O news.toList) : Ok P hp G w K m := by
  have hb : Below w.heap.size w (w.drew.alloc (.cells (olds ++ news ++ rest) ty)) := ((Below.refl _ _).drew).alloc (Nat.le_refl _) _
  have hw : (w.drew.alloc (.cells (olds ++ news ++ rest) ty)).heap[w.heap.size]? = some (.cells (olds ++ news ++ rest) ty (0, 0)) := heap_alloc_self w.drew _
  obtain ⟨hR', hEv⟩ := hR.newTail hstep hold hb hw (n := (es ++ xs).length * s)
  have htake : (olds ++ news ++ rest).toList.take (flat (es ++ xs)).length = olds.toList ++ news.toList := by
    have e1 : (flat (es ++ xs)).length = (olds.toList ++ news.toList).length := by rw [flat_append, List.length_append, List.length_append, h1.1, h2.1]
    rw [e1]
    simp only [Array.toList_append]
    exact List.take_left
  refine ⟨eff, _, _, _, hk, hr, ?_, hR', hEv⟩
  rw [hv]
  exact newRow_V hs hEv.keeps (by rw [htake, flat_append]; exact h1.append h2) (by rw [htake]; exact o1.append o2) hw (fun o ho => .inr ⟨rfl, Nat.zero_le _, ho⟩) _ cap hcap hm (fun h => by cases h)
    (fun l' e' h => by
      injection h with h3 h4
      subst h3; subst h4
      right
      refine ⟨hpos, by simp [Gh.tail], ?_⟩
      simp only [Gh.tail, if_true]
      have hfl := flat_length hs
      rw [flat_append, List.length_append, ← h1.1, ← h2.1] at hfl
      have e1 : (olds ++ news ++ rest).size = (es ++ xs).length * s + (cap - (es ++ xs).length) * s := by
        rw [hrest, ← hfl]
        simp
        omega
      rw [e1, ← Nat.add_mul]
      refine Nat.mul_le_mul_right _ ?_
      omega)

theorem sound_append {K : Eff → Prop} {t1 t2 ty : TypeId} {s x : PV} {us ux : Value} (h : aAppend P hp t1 t2 s x K) (hs : V G w s us) (hx : V G w x ux) (hR : RH G hp w) : Ok P hp G w K (Builtin.append_ #[t1, t2] ty #[us, ux]) := by
  unfold aAppend at h
  split at h
  case h_2 => exact h.elim
  rename_i ti ti2 xs hti hti2 hxs
  obtain ⟨inf, d, z, hT⟩ := tinf_of hti
  obtain ⟨inf2, d2, z2, hT2⟩ := tinf_of hti2
  split at h
  case h_2 => exact h.elim
  rename_i e hkd
  have hd := kd_slice (hkd ▸ hT.kd)
  have hu := hT.und
  rw [hd] at hu
  split at h
  case h_2 => exact h.elim
  rename_i te hte
  obtain ⟨ein, ed, ez, hE⟩ := tinf_of hte
  obtain ⟨⟨hk2, hxz, hby, hzok, hzsz⟩, h⟩ := h
  have hz : V G w te.zero ez := by rw [hE.z]; exact ofConst_V _ _ _
  have hezl : ez.cells.size = te.sz := by have := (hz.cells hzok).1.1; simp at this; omega
  have hd2 : (∃ e2, d2 = .slice e2) ∨ d2 = .string := by
    split at hk2
    · rename_i e2 h2; exact .inl ⟨e2, kd_slice (h2 ▸ hT2.kd)⟩
    · rename_i h2; exact .inr (kd_str (h2 ▸ hT2.kd))
    · exact hk2.elim
  have hu2 := hT2.und
  have hby' : 0 < ein.bytes := by rw [← hE.bytes]; exact hby
  obtain ⟨hlen, _⟩ := elems_run (P := P) hxs hx hxz w (fun _ _ => rfl)
  obtain ⟨_, news, hnew, hnv, hno⟩ := elems_run (P := P) hxs hx hxz w.drew (fun _ _ => rfl)
  obtain ⟨_, news0, hnew0, hnv0, hno0⟩ := elems_run (P := P) hxs hx hxz w (fun _ _ => rfl)
  rw [hE.sz] at hnew hnew0
  have hfits : ∀ n c, c < n → n * te.bytes ≤ 140737488355328 → Builtin.nextslicecap n c * ein.bytes ≤ 281474976710656 := fun n c hc hb => growslice_fits hc (by rw [← hE.bytes]; exact hb)
  have hM : ∀ n, n * te.bytes ≤ 140737488355328 → n ≤ 9223372036854775807 := fun n h => by have := Nat.le_mul_of_pos_right n hby; omega
  -- nothing is appended
  have hnone : ∀ base n c, xs = [] → n ≤ c → us = .slice base n c → (Builtin.append_ #[t1, t2] ty #[us, ux]).run P w = .ok us w := fun base n c hx0 hnc he => by
    subst hx0
    subst he
    have h0 : news0.toList = [] := List.eq_nil_of_length_eq_zero (by rw [hnv0.1]; rfl)
    have := runIn0 (P := P) (w := w) (ty := ty) hu hu2 hd2 hE.info (base := base) (sLen := n) (sCap := c) hlen hnew0 (by simpa using hnc) (w' := w) (by
      rw [h0]
      cases base <;> simp [storeCells])
    simpa using this
  split at h
  · obtain ⟨hbound, hk0, hk1⟩ := h
    cases hs with
    | nil0 a =>
    by_cases hx0 : xs = []
    · exact .val [] (hk0 hx0) (hnone _ _ _ hx0 (Nat.le_refl _) rfl) (.nil0 _) hR
    · have hpos : 0 < xs.length := List.length_pos_iff.2 hx0
      have hold : (Builtin.firstCells ein.size 0 (.slice a 0 0)).run P w.drew = .ok #[] w.drew := by cases a <;> simp [Builtin.firstCells, loadCells, loadCellsFrom]
      have hr := run_grow (P := P) (w := w) (ty := ty) hu hu2 hd2 hE.info hE.zero hlen hold hnew (by omega) hby' (hfits _ _ (by omega) (by simpa using hbound))
      simp only [Nat.zero_add] at hr
      exact grow_ok (es := []) (by simpa using hxz) hR (hk1 hx0) rfl (by simpa [after, setAll] using HpStep.push hp xs.length) (hR.below fun o ho => by simp at ho) (olds := #[]) (by simpa using hr) (by simpa using grownCap_ge w xs.length 0 e) (by simpa using hM _ hbound) (by simpa using hpos) (by simp [size_zeroCells, hezl]) (by simpa [flat] using VL.nil G w) (by simpa using O.nil) hnv hno
  · rename_i es
    obtain ⟨⟨hez, hbound⟩, hk0, hk1⟩ := h
    have hs' := hs
    cases hs with
    | slice _ _ a B o s n cap u hn hle hm hsz ha hsc hv hex ht =>
    have hcn := hex rfl
    subst hcn
    subst hn
    by_cases hx0 : xs = []
    · exact .val [] (hk0 hx0) (hnone _ _ _ hx0 (Nat.le_refl _) rfl) hs' hR
    · have hpos : 0 < xs.length := List.length_pos_iff.2 hx0
      obtain ⟨_, olds, hold, hov, hoo⟩ := elems_run (P := P) (x := .slice .exact es) rfl hs' hez w.drew (fun _ _ => rfl)
      rw [hE.sz] at hold
      have hr := run_grow (P := P) (w := w) (ty := ty) hu hu2 hd2 hE.info hE.zero hlen hold hnew (by omega) hby' (hfits _ _ (by omega) hbound)
      refine grow_ok (hez.append hxz) hR (hk1 hx0) rfl (by simpa [after, setAll] using HpStep.push hp (es.length + xs.length)) (hR.below fun o ho => by simp at ho) (by simpa using hr) (by simpa using grownCap_ge w _ _ e) (by simpa using hM _ hbound) (by simp; omega) (by simp [size_zeroCells, hezl]) hov hoo hnv hno
  · rename_i l t es
    obtain ⟨⟨hl, hez, hbound⟩, hk⟩ := h
    have hs' := hs
    obtain ⟨hlt, hle'⟩ := List.getElem?_eq_some_iff.1 hl
    cases hs with
    | slice _ _ a B o s n cap u hn hle hm hsz ha hsc hv hex ht =>
    subst hn
    by_cases hx0 : xs = []
    · subst hx0
      refine ⟨_, _, w, G, hk, hnone _ _ _ rfl hle rfl, by simpa using hs', ?_, .refl _ _⟩
      have : hp.set l (.tip t) = hp := by
        rw [← hle']; simp
      simpa [after, setAll, this] using hR
    · have hpos : 0 < xs.length := List.length_pos_iff.2 hx0
      by_cases hroom : es.length + xs.length ≤ cap
      · -- in place
        rcases ht l t rfl with hcap | ⟨hne, ha', hH0, hNB⟩
        · omega
        · subst ha'
          have hss : s = te.sz := by rw [← hsz 0 hne]; exact hez _ (by simp)
          subst hss
          have hO := hR.obj l hlt
          rw [hle'] at hO
          obtain ⟨⟨arr, ty0, fr, hw, hfr, hNa⟩, hfree⟩ := hO B _ hH0
          have hnl : news0.toList.length = xs.length * te.sz := by rw [hnv0.1, flat_length hxz]
          have hfit : o + es.length * te.sz + news0.toList.length ≤ arr.size := by
            have : (es.length + xs.length) * te.sz ≤ cap * te.sz := Nat.mul_le_mul_right _ hroom
            rw [Nat.add_mul] at this
            omega
          · obtain ⟨w', arr', h1, h2, h3, h4⟩ := storeCells_run (P := P) news0.toList (o + es.length * te.sz) 0 arr w hw (by omega) (by simpa using hfr) hno0
            have hr := runIn0 (P := P) (w := w) (ty := ty) hu hu2 hd2 hE.info (base := some ⟨B, o, none⟩) hlen hnew0 hroom (w' := w') (by
              simp only [addr_add]
              rw [← hE.sz]
              exact h1)
            have hcell : ∀ y, y < o + es.length * te.sz → w'.cell? ⟨B, y, none⟩ = w.cell? ⟨B, y, none⟩ := fun y hy => by
              simp only [World.cell?, h2, hw, Option.isSome_none, Bool.false_eq_true, if_false]
              rw [← Array.getElem?_toList, ← Array.getElem?_toList, h3]
              unfold spliceV
              rw [List.append_assoc, List.getElem?_append_left (by simp; omega), List.getElem?_take, if_pos (by omega)]
            obtain ⟨hR', hEv⟩ := hR.inTail (k := xs.length * te.sz) hl (T := t + xs.length) (by omega) hH0 h4 h2 hfr (by rw [← hNa, ← Array.length_toList, h3, spliceV_length (by simp; simpa using hfit), Array.length_toList]) hcell
            refine ⟨_, _, w', _, hk, hr, ?_, by simpa [after, setAll] using hR', hEv⟩
            have hfx := flat_length hxz
            have hnew_cell : ∀ j (hj : j < xs.length * te.sz), w'.cell? ⟨B, o + es.length * te.sz + j, none⟩ = some (news0.toList[j]'(by omega)) := fun j hj => by
              simp only [World.cell?, h2, Option.isSome_none, Bool.false_eq_true, if_false]
              rw [← Array.getElem?_toList, h3]
              unfold spliceV
              have e1 : (List.take (o + es.length * te.sz + 0) arr.toList).length = o + es.length * te.sz := by simp; omega
              rw [List.append_assoc, List.getElem?_append_right (by omega), List.getElem?_append_left (by omega), e1]
              rw [show o + es.length * te.sz + j - (o + es.length * te.sz) = j by omega]
              exact List.getElem?_eq_getElem _
            refine .slice _ _ _ B o te.sz _ cap (fun j => if j < es.length * te.sz then u j else news0.toList.getD (j - es.length * te.sz) undef) (by simp) (by omega) (hM _ hbound) (fun i hi => hez.append hxz _ (by simp)) (fun _ => rfl) (fun j hj => ?_) (fun i j hi hj => ?_) (fun h => by cases h) (fun l' e' h => ?_)
            · rw [Nat.add_mul] at hj
              by_cases hjo : j < es.length * te.sz
              · simp only [if_pos hjo]
                exact hEv.keeps.cell _ _ _ (hsc j hjo)
              · simp only [if_neg hjo]
                have hj2 : j - es.length * te.sz < xs.length * te.sz := by omega
                have e2 := hnew_cell _ hj2
                have e3 : o + es.length * te.sz + (j - es.length * te.sz) = o + j := by omega
                rw [e3] at e2
                rw [List.getD_eq_getElem?_getD, List.getElem?_eq_getElem (by omega)]
                exact ⟨.inr ⟨rfl, by omega, by omega⟩, e2, hno0 _ (by simp)⟩
            · have hsz' := hez.append hxz
              by_cases hi' : i < es.length
              · have e4 : (es ++ xs)[i] = es[i] := List.getElem_append_left hi'
                simp only [e4] at hj ⊢
                have hjs : j < te.sz := by rw [← hez es[i] (by simp)]; exact hj
                have hlt2 : i * te.sz + j < es.length * te.sz := by
                  have : (i + 1) * te.sz ≤ es.length * te.sz := Nat.mul_le_mul_right _ hi'
                  rw [Nat.add_mul] at this
                  omega
                simp only [if_pos hlt2]
                have e5 := hv i j hi' hj
                exact e5.mono hEv.keeps
              · have hi2 : i - es.length < xs.length := by simp at hi; omega
                have e4 : (es ++ xs)[i] = xs[i - es.length] := List.getElem_append_right (by omega)
                simp only [e4] at hj ⊢
                have hjs : j < te.sz := by rw [← hxz xs[i - es.length] (by simp)]; exact hj
                have e7 : i * te.sz + j = es.length * te.sz + ((i - es.length) * te.sz + j) := by rw [Nat.sub_mul]; have : es.length * te.sz ≤ i * te.sz := Nat.mul_le_mul_right _ (by omega); omega
                have hlt3 : (i - es.length) * te.sz + j < xs.length * te.sz := by
                  have : (i - es.length + 1) * te.sz ≤ xs.length * te.sz := Nat.mul_le_mul_right _ hi2
                  rw [Nat.add_mul] at this
                  omega
                rw [if_neg (by omega), e7, Nat.add_sub_cancel_left, List.getD_eq_getElem?_getD, List.getElem?_eq_getElem (by omega)]
                have e8 := hnv0.2 ((i - es.length) * te.sz + j) (by omega) (by omega)
                rw [flat_get hxz (i - es.length) j hi2 hj (by omega)] at e8
                exact e8.mono hEv.keeps
            · injection h with h5 h6
              subst h5; subst h6
              right
              refine ⟨by omega, rfl, ?_, by simp only [Gh.tail, if_true]; exact hNB⟩
              simp only [Gh.tail, and_self, if_true, Nat.add_mul]
              congr 2
              omega
      · -- a new array
        obtain ⟨_, olds, hold, hov, hoo⟩ := elems_run (P := P) (x := .slice (.tail l t) es) rfl hs' hez w.drew (fun _ _ => rfl)
        rw [hE.sz] at hold
        have hold' : (Builtin.firstCells ein.size es.length (.slice a es.length cap)).run P w.drew = .ok olds w.drew := hold
        have hr := run_grow (P := P) (w := w) (ty := ty) hu hu2 hd2 hE.info hE.zero hlen hold' hnew (by omega) hby' (hfits _ _ (by omega) hbound)
        refine grow_ok (hez.append hxz) hR hk rfl (by simpa [after, setAll] using HpStep.set hlt (by rw [hl]; simp) (t + xs.length)) (hR.below fun o' ho' => ⟨t, by rw [hl] at ho'; injection ho' with ho'; exact ho'.symm, by omega⟩) (by simpa using hr) (by simpa using grownCap_ge w _ _ e) (by simpa using hM _ hbound) (by simp; omega) (by simp [size_zeroCells, hezl]) hov hoo hnv hno
  · exact h.elim

/-! ### Append to an object of one's own -/
def aAppO (P : Program) (hp : List AObj) (t1 t2 : TypeId) (s x : PV) (K : Eff → Prop) : Prop :=
  match tinf P t1, tinf P t2, elemsOf x with
  | some ti, some ti2, some xs => match ti.kd with
    | .slice e => match tinf P e with
      | some te => ((match ti2.kd with | .slice _ => True | .str => True | _ => False) ∧ SZ te.sz xs ∧ 0 < te.bytes ∧ te.zero.ok = true ∧ te.zero.cells.length = te.sz) ∧
        (match s with
        | .nil0 => xs.length * te.bytes ≤ 140737488355328 ∧ (xs = [] → K { v := .nil0 }) ∧ (xs ≠ [] → K { v := .mslice hp.length 0 xs.length te.sz, new := [.cells (flat xs)] })
        | .slice .exact es => (SZ te.sz es ∧ (es.length + xs.length) * te.bytes ≤ 140737488355328) ∧ (xs = [] → K { v := .slice .exact es }) ∧
            (xs ≠ [] → K { v := .mslice hp.length 0 (es.length + xs.length) te.sz, new := [.cells (flat (es ++ xs))] })
        | .mslice l o n sz => match hp[l]? with
          | some (.cells cs) => (o = 0 ∧ n * sz ≤ cs.length ∧ te.sz = sz ∧ (n + xs.length) * te.bytes ≤ 140737488355328) ∧ (xs = [] → K { v := .mslice l o n sz, rd := [l] }) ∧
              (xs ≠ [] → K { v := .mslice hp.length 0 (n + xs.length) sz, set := [(l, .dead)], new := [.cells (cs.take (n * sz) ++ flat xs)], rd := [l] })
          | _ => False
        | _ => False)
      | none => False
    | _ => False
  | _, _, _ => False

/-- A new array is an object of its own. -/
theorem growO_ok {K : Eff → Prop} {m : Sem Value} {cs : List PV} {n s cap : Nat} {olds news rest : Array Value} {ty : TypeId} {eff : Eff} {hp0 : List AObj} (hR : RH G hp0 w) (hE0 : Ev G w G w) (hk : K eff)
    (hv : eff.v = .mslice hp0.length 0 n s) (haf : after hp eff = hp0 ++ [.cells cs])
    (hr : m.run P w = .ok (.slice (some ⟨w.heap.size, 0, none⟩) n cap) (w.drew.alloc (.cells (olds ++ news ++ rest) ty))) (hcap : n ≤ cap) (hm : n ≤ 9223372036854775807) (hsz : (olds ++ news).size = n * s) (hrest : (cap - n) * s = rest.size)
    (h1 : VL G w cs (olds.toList ++ news.toList)) (o1 : O (olds.toList ++ news.toList)) : Ok P hp G w K m := by
  have hb : Below w.heap.size w (w.drew.alloc (.cells (olds ++ news ++ rest) ty)) := ((Below.refl _ _).drew).alloc (Nat.le_refl _) _
  have hw : (w.drew.alloc (.cells (olds ++ news ++ rest) ty)).heap[w.heap.size]? = some (.cells (olds ++ news ++ rest) ty (0, 0)) := heap_alloc_self w.drew _
  have hcl : cs.length = (olds ++ news).size := by have := h1.1; simp at this ⊢; omega
  obtain ⟨hR', hEv, hσ⟩ := hR.newObj hb cs (olds ++ news ++ rest) ty hw (by rw [hcl]; simp) (fun i a b => by
    have hi : i < (olds.toList ++ news.toList).length := by rw [h1.1]; exact a
    have e1 := h1.2 i a hi
    have e2 := o1 _ (List.getElem_mem hi)
    have e3 : (olds ++ news ++ rest)[i] = (olds.toList ++ news.toList)[i] := by
      rw [← Array.getElem_toList]
      simp only [Array.toList_append]
      exact List.getElem_append_left hi
    rw [e3]
    exact ⟨e1, e2⟩)
  refine ⟨eff, _, _, _, hk, hr, ?_, by rw [haf]; exact hR', hEv⟩
  rw [hv]
  refine .mslice _ 0 n s _ cap _ hσ hcap hm (fun _ => rfl) ?_
  simp only [Gh.addσ, if_true, Nat.zero_add]
  have e1 : (olds ++ news ++ rest).size = (olds ++ news).size + rest.size := by simp; omega
  rw [e1, hsz, ← hrest, ← Nat.add_mul]
  exact Nat.mul_le_mul_right _ (by omega)

theorem sound_appO {K : Eff → Prop} {t1 t2 ty : TypeId} {s x : PV} {us ux : Value} (h : aAppO P hp t1 t2 s x K) (hs : V G w s us) (hx : V G w x ux) (hR : RH G hp w) : Ok P hp G w K (Builtin.append_ #[t1, t2] ty #[us, ux]) := by
  unfold aAppO at h
  split at h
  case h_2 => exact h.elim
  rename_i ti ti2 xs hti hti2 hxs
  obtain ⟨inf, d, z, hT⟩ := tinf_of hti
  obtain ⟨inf2, d2, z2, hT2⟩ := tinf_of hti2
  split at h
  case h_2 => exact h.elim
  rename_i e hkd
  have hd := kd_slice (hkd ▸ hT.kd)
  have hu := hT.und
  rw [hd] at hu
  split at h
  case h_2 => exact h.elim
  rename_i te hte
  obtain ⟨ein, ed, ez, hE⟩ := tinf_of hte
  obtain ⟨⟨hk2, hxz, hby, hzok, hzsz⟩, h⟩ := h
  have hz : V G w te.zero ez := by rw [hE.z]; exact ofConst_V _ _ _
  have hezl : ez.cells.size = te.sz := by have := (hz.cells hzok).1.1; simp at this; omega
  have hd2 : (∃ e2, d2 = .slice e2) ∨ d2 = .string := by
    split at hk2
    · rename_i e2 h2; exact .inl ⟨e2, kd_slice (h2 ▸ hT2.kd)⟩
    · rename_i h2; exact .inr (kd_str (h2 ▸ hT2.kd))
    · exact hk2.elim
  have hu2 := hT2.und
  have hby' : 0 < ein.bytes := by rw [← hE.bytes]; exact hby
  obtain ⟨hlen, _⟩ := elems_run (P := P) hxs hx hxz w (fun _ _ => rfl)
  obtain ⟨_, news, hnew, hnv, hno⟩ := elems_run (P := P) hxs hx hxz w.drew (fun _ _ => rfl)
  obtain ⟨_, news0, hnew0, hnv0, hno0⟩ := elems_run (P := P) hxs hx hxz w (fun _ _ => rfl)
  rw [hE.sz] at hnew hnew0
  have hnl : news.size = xs.length * te.sz := by have := hnv.1; rw [flat_length hxz] at this; simpa using this
  have hnl0 : news0.size = xs.length * te.sz := by have := hnv0.1; rw [flat_length hxz] at this; simpa using this
  have hfits : ∀ n c, c < n → n * te.bytes ≤ 140737488355328 → Builtin.nextslicecap n c * ein.bytes ≤ 281474976710656 := fun n c hc hb => growslice_fits hc (by rw [← hE.bytes]; exact hb)
  have hM : ∀ n, n * te.bytes ≤ 140737488355328 → n ≤ 9223372036854775807 := fun n h => by have := Nat.le_mul_of_pos_right n hby; omega
  have hnone : ∀ base n c, xs = [] → n ≤ c → us = .slice base n c → (Builtin.append_ #[t1, t2] ty #[us, ux]).run P w = .ok us w := fun base n c hx0 hnc he => by
    subst hx0
    subst he
    have h0 : news0.toList = [] := List.eq_nil_of_length_eq_zero (by rw [hnv0.1]; rfl)
    have := runIn0 (P := P) (w := w) (ty := ty) hu hu2 hd2 hE.info (base := base) (sLen := n) (sCap := c) hlen hnew0 (by simpa using hnc) (w' := w) (by
      rw [h0]
      cases base <;> simp [storeCells])
    simpa using this
  split at h
  · obtain ⟨hbound, hk0, hk1⟩ := h
    cases hs with
    | nil0 a =>
    by_cases hx0 : xs = []
    · exact .val [] (hk0 hx0) (hnone _ _ _ hx0 (Nat.le_refl _) rfl) (.nil0 _) hR
    · have hpos : 0 < xs.length := List.length_pos_iff.2 hx0
      have hold : (Builtin.firstCells ein.size 0 (.slice a 0 0)).run P w.drew = .ok #[] w.drew := by cases a <;> simp [Builtin.firstCells, loadCells, loadCellsFrom]
      have hr := run_grow (P := P) (w := w) (ty := ty) hu hu2 hd2 hE.info hE.zero hlen hold hnew (by omega) hby' (hfits _ _ (by omega) (by simpa using hbound))
      simp only [Nat.zero_add] at hr
      exact growO_ok (cs := flat xs) (s := te.sz) (olds := #[]) hR (.refl _ _) (hk1 hx0) rfl (by simp [after, setAll]) (by simpa using hr) (by simpa using grownCap_ge w xs.length 0 e) (hM _ hbound) (by simpa using hnl) (by simp [size_zeroCells, hezl]) (by simpa using hnv) (by simpa using hno)
  · rename_i es
    obtain ⟨⟨hez, hbound⟩, hk0, hk1⟩ := h
    have hs' := hs
    cases hs with
    | slice _ _ a B o s n cap u hn hle hm hsz ha hsc hv hex ht =>
    have hcn := hex rfl
    subst hcn
    subst hn
    by_cases hx0 : xs = []
    · exact .val [] (hk0 hx0) (hnone _ _ _ hx0 (Nat.le_refl _) rfl) hs' hR
    · have hpos : 0 < xs.length := List.length_pos_iff.2 hx0
      obtain ⟨_, olds, hold, hov, hoo⟩ := elems_run (P := P) (x := .slice .exact es) rfl hs' hez w.drew (fun _ _ => rfl)
      rw [hE.sz] at hold
      have hol : olds.size = es.length * te.sz := by have := hov.1; rw [flat_length hez] at this; simpa using this
      have hr := run_grow (P := P) (w := w) (ty := ty) hu hu2 hd2 hE.info hE.zero hlen hold hnew (by omega) hby' (hfits _ _ (by omega) hbound)
      exact growO_ok (cs := flat (es ++ xs)) (s := te.sz) hR (.refl _ _) (hk1 hx0) rfl (by simp [after, setAll]) hr (grownCap_ge w _ _ e) (hM _ hbound) (by simp [hol, hnl, Nat.add_mul]) (by simp [size_zeroCells, hezl]) (by rw [flat_append]; exact hov.append hnv) (hoo.append hno)
  · rename_i l o n sz
    split at h
    · rename_i cs hl
      obtain ⟨⟨h0, hncs, hsz, hbound⟩, hk0, hk1⟩ := h
      subst h0
      subst hsz
      have hs' := hs
      obtain ⟨hlt, hle'⟩ := List.getElem?_eq_some_iff.1 hl
      have hO := hR.obj l hlt
      rw [hle'] at hO
      obtain ⟨B, arr, aty, fr, hB, hS, hw, hfr, hasz, hav⟩ := hO
      cases hs with
      | mslice _ _ _ _ B' cap a hB' hle hm ha hN =>
      obtain rfl : B' = B := Option.some.inj (hB'.symm.trans hB)
      by_cases hx0 : xs = []
      · exact .val [l] (hk0 hx0) (hnone _ _ _ hx0 hle rfl) hs' hR
      · have hpos : 0 < xs.length := List.length_pos_iff.2 hx0
        obtain ⟨hp1, hp2⟩ := prefix_VL hasz.2 hav
        rcases Nat.lt_or_ge cap (n + xs.length) with hg | hg
        · -- a new array
          have hold : (Builtin.firstCells ein.size n (.slice a n cap)).run P w.drew = .ok (arr.toList.take (n * te.sz)).toArray w.drew := by
            rcases Nat.eq_zero_or_pos n with h0 | h0
            · subst h0; cases a <;> simp [Builtin.firstCells, loadCells, loadCellsFrom]
            · rw [ha (by omega)]
              have := run_loadCells_list (P := P) w.drew ⟨B', 0, none⟩ (arr.toList.take (n * te.sz)) (fun j v hj => by
                obtain ⟨hj', rfl⟩ := List.getElem?_eq_some_iff.1 hj
                have hj2 : j < arr.size := by simp at hj'; omega
                rw [addr_add, Nat.zero_add]
                simp only [World.cell?, World.drew, hw]
                simp [Array.getElem?_eq_getElem hj2])
              simp only [Builtin.firstCells]
              rw [← hE.sz]
              have e1 : (arr.toList.take (n * te.sz)).length = n * te.sz := by simp; omega
              rw [e1] at this
              exact this
          have hr := run_grow (P := P) (w := w) (ty := ty) hu hu2 hd2 hE.info hE.zero hlen hold hnew hg hby' (hfits _ _ hg hbound)
          refine growO_ok (cs := cs.take (n * te.sz) ++ flat xs) (s := te.sz) (hp0 := hp.set l .dead) (hR.kill l) (.refl _ _) (hk1 hx0) (by simp) (by simp [after, setAll]) hr (grownCap_ge w _ _ e) (hM _ hbound) (by simp [hnl, Nat.add_mul]; omega) (by simp [size_zeroCells, hezl]) ?_ ?_
          · refine VL.append ?_ hnv
            have := hp1.take (n * te.sz)
            rw [List.take_take, Nat.min_eq_left hncs] at this
            simpa using this
          · refine O.append ?_ hno
            have := hp2.take (n * te.sz)
            rw [List.take_take, Nat.min_eq_left hncs] at this
            simpa using this
        · -- in place
          have hmul : (n + xs.length) * te.sz ≤ cap * te.sz := Nat.mul_le_mul_right _ hg
          have hasz1 := hasz.1
          rw [Nat.add_mul] at hmul
          obtain ⟨w', arr', hst, hw', hal, hon⟩ := storeCells_run (P := P) news0.toList (n * te.sz) 0 arr w hw (by simp [hnl0]; omega) (.inl hfr) hno0
          have hr := runIn0 (P := P) (w := w) (ty := ty) hu hu2 hd2 hE.info (base := a) (sLen := n) (sCap := cap) hlen hnew0 hg (w' := w') (by
            rw [ha (by omega)]
            simp only [addr_add, Nat.zero_add]
            rw [← hE.sz]
            exact hst)
          have hasz' : arr'.size = arr.size := by
            have := congrArg List.length hal
            simp [spliceV] at this
            omega
          have hcl : (cs.take (n * te.sz) ++ flat xs).length = n * te.sz + xs.length * te.sz := by rw [List.length_append, flat_length hxz]; simp; omega
          have htk : arr'.toList.take (cs.take (n * te.sz) ++ flat xs).length = arr.toList.take (n * te.sz) ++ news0.toList := by
            rw [hcl, hal]
            simp only [spliceV, Nat.add_zero]
            have e1 : (arr.toList.take (n * te.sz) ++ news0.toList).length = n * te.sz + xs.length * te.sz := by simp [hnl0]; omega
            rw [← e1]
            exact List.take_left
          have hv1 : VL G w (cs.take (n * te.sz)) (arr.toList.take (n * te.sz)) := by
            have := hp1.take (n * te.sz)
            rwa [List.take_take, Nat.min_eq_left hncs] at this
          have ho1 : O (arr.toList.take (n * te.sz)) := by
            have := hp2.take (n * te.sz)
            rwa [List.take_take, Nat.min_eq_left hncs] at this
          obtain ⟨hR', hEv⟩ := hR.moveIn hl hB hon hw' hfr (cs' := cs.take (n * te.sz) ++ flat xs) (by rw [hasz']; exact hasz1) (by rw [hcl, hasz']; omega) (by rw [htk]; exact hv1.append hnv0) (by rw [htk]; exact ho1.append hno0)
          refine ⟨_, _, w', _, hk1 hx0, hr, ?_, by simpa [after, setAll] using hR', hEv⟩
          refine .mslice _ 0 _ _ B' cap a (by simp [Gh.addσ]) hg (hM _ hbound) ha ?_
          simp only [Gh.addσ, if_true]
          rw [hasz', hasz1]
          exact hN
    · exact h.elim
  · exact h.elim

/-! ### Make, copy -/
def madeP (zs : List PV) : Nat → List PV
  | 0 => []
  | n + 1 => zs ++ madeP zs n
theorem madeP_length {zs : List PV} : ∀ n, (madeP zs n).length = n * zs.length
  | 0 => by simp [madeP]
  | n + 1 => by simp [madeP, madeP_length n, Nat.add_mul]; omega
def madeV (zs : List Value) : Nat → List Value
  | 0 => []
  | n + 1 => zs ++ madeV zs n
theorem madeV_length {zs : List Value} : ∀ n, (madeV zs n).length = n * zs.length
  | 0 => by simp [madeV]
  | n + 1 => by simp [madeV, madeV_length n, Nat.add_mul]; omega
theorem madeV_get {zs : List Value} (hz : 0 < zs.length) : ∀ (n i : Nat) (h : i < (madeV zs n).length), (madeV zs n)[i] = zs[i % zs.length]'(Nat.mod_lt _ hz)
  | 0, i, h => by simp [madeV] at h
  | n + 1, i, h => by
    simp only [madeV]
    by_cases hi : i < zs.length
    · rw [List.getElem_append_left hi]
      simp only [Nat.mod_eq_of_lt hi]
    · have hlt : i - zs.length < (madeV zs n).length := by simp [madeV] at h; omega
      rw [List.getElem_append_right (by omega), madeV_get hz n (i - zs.length) hlt]
      congr 1
      exact (Nat.mod_eq_sub_mod (by omega)).symm
theorem made_VL {zs : List PV} {us : List Value} (h : VL G w zs us) (ho : O us) : ∀ n, VL G w (madeP zs n) (madeV us n) ∧ O (madeV us n)
  | 0 => ⟨.nil _ _, .nil⟩
  | n + 1 => ⟨h.append (made_VL h ho n).1, ho.append (made_VL h ho n).2⟩
theorem madeCells_toList (z : Array Value) (hz : 0 < z.size) (n : Nat) : (madeCells z (n * z.size)).toList = madeV z.toList n := by
  refine List.ext_getElem (by simp [size_madeCells, madeV_length]) fun i h1 h2 => ?_
  rw [madeV_get (by simpa using hz)]
  have hm : i % z.size < z.size := Nat.mod_lt _ hz
  have e : z[i % z.size]! = z[i % z.size] := getElem!_pos z _ hm
  simp [madeCells, e]

def aMake (P : Program) (hp : List AObj) (t : TypeId) (x y : PV) (K : Eff → Prop) : Prop :=
  match tinf P t with
  | some ti => match ti.kd with
    | .slice e => match tinf P e, x, y with
      | some te, .int _ l, .int _ c => (0 ≤ l ∧ l ≤ c ∧ (te.bytes : Int) * c ≤ 281474976710656 ∧ c ≤ 9223372036854775807) ∧ (te.zero.ok = true ∧ te.zero.cells.length = te.sz ∧ 0 < te.sz) ∧
          K { v := .mslice hp.length 0 l.toNat te.sz, new := [.cells (madeP te.zero.cells c.toNat)] }
      | _, _, _ => False
    | _ => False
  | none => False
theorem sound_make {K : Eff → Prop} {t : TypeId} {x y : PV} {u v : Value} (h : aMake P hp t x y K) (hx : V G w x u) (hy : V G w y v) (hR : RH G hp w) : Ok P hp G w K (Instr.makeSlice t u v) := by
  unfold aMake at h
  split at h
  case h_2 => exact h.elim
  rename_i ti hti
  obtain ⟨inf, d, z, hT⟩ := tinf_of hti
  split at h
  case h_2 => exact h.elim
  rename_i e hkd
  have hd := kd_slice (hkd ▸ hT.kd)
  have hu := hT.und
  rw [hd] at hu
  split at h
  case h_2 => exact h.elim
  rename_i te kl l kc c hte
  obtain ⟨ein, ed, ez, hE⟩ := tinf_of hte
  obtain ⟨⟨h0, hlc, hby, h63⟩, ⟨hzok, hzsz, hs0⟩, hk⟩ := h
  have hz : V G w te.zero ez := by rw [hE.z]; exact ofConst_V _ _ _
  obtain ⟨hzl, hzo⟩ := hz.cells hzok
  have hezl : ez.cells.size = te.sz := by have := hzl.1; simp at this; omega
  cases hx
  cases hy
  have hr := run_make (P := P) w t e ein ez hu hE.info hE.zero kl kc l c h0 hlc (by rw [← hE.bytes]; exact hby) h63
  rw [← hE.sz, ← hezl] at hr
  have hml := madeCells_toList ez.cells (by omega) c.toNat
  obtain ⟨hvl, hoo⟩ := made_VL hzl hzo c.toNat
  rw [← hml] at hvl hoo
  generalize hma : madeCells ez.cells (c.toNat * ez.cells.size) = arr at hr hvl hoo
  have hasz : arr.size = c.toNat * te.sz := by rw [← hma, size_madeCells, hezl]
  obtain ⟨hR', hEv, hσ⟩ := hR.allocCells (madeP te.zero.cells c.toNat) arr e (by have := hvl.1; simp at this; omega) (fun i a b => by
    have e1 := hvl.2 i a (by simpa using b)
    have e2 := hoo (arr.toList[i]'(by simpa using b)) (by simp)
    rw [Array.getElem_toList] at e1 e2
    exact ⟨e1, e2⟩)
  refine ⟨_, _, _, _, hk, hr, .mslice _ 0 _ te.sz _ _ _ hσ (by omega) (by omega) (fun _ => rfl) ?_, by simpa [after, setAll] using hR', hEv⟩
  simp only [Gh.addσ, if_true, Nat.zero_add]
  omega

theorem elems_take {sz m : Nat} {c0 : SK} {u : Value} {es : List PV} (hx : V G w (.slice c0 es) u) (hs : SZ sz es) (hm : m ≤ es.length) :
    (Builtin.lenOf u).run P w = .ok es.length w ∧ ∃ us : Array Value, (Builtin.firstCells sz m u).run P w = .ok us w ∧ VL G w (flat (es.take m)) us.toList ∧ O us.toList := by
  refine ⟨(elems_run (P := P) (w := w) rfl hx hs w (fun _ _ => rfl)).1, ?_⟩
  have hs' : SZ sz (es.take m) := fun y hy => hs y (List.mem_of_mem_take hy)
  have hml : (es.take m).length = m := by simp; omega
  cases hx with
  | slice _ _ a B o s n cap u hn hle hmx hsz ha hsc hv hex ht =>
    have := (elems_run (P := P) (w := w) (G := G) (x := .slice .dead (es.take m)) (u := .slice (if 0 < m then a else none) m cap) (xs := es.take m) (sz := sz) rfl
      (.slice .dead _ _ B o s m cap u (by simp; omega) (by omega) (by omega) (fun i h => by simp only [List.getElem_take]; exact hsz i (by simp at h; omega)) (fun h => by rw [if_pos h]; exact ha (by omega))
        (fun j hj => hsc j (by have := Nat.mul_le_mul_right s (show m ≤ n by omega); omega)) (fun i j h h' => by simp only [List.getElem_take] at h' ⊢; exact hv i j (by simp at h; omega) h') (fun h => by cases h) (fun _ _ h => by cases h)) hs' w (fun _ _ => rfl)).2
    obtain ⟨us, h1, h2, h3⟩ := this
    rw [hml] at h1
    refine ⟨us, ?_, h2, h3⟩
    rcases Nat.eq_zero_or_pos m with h0 | h0
    · subst h0
      have : us = #[] := by have := h2.1; simp [flat] at this; exact this
      subst this
      cases a <;> simp [Builtin.firstCells, loadCells, loadCellsFrom]
    · rw [if_pos h0] at h1
      cases a with
      | none => exact absurd (ha (by omega)) (by simp)
      | some a => simpa [Builtin.firstCells] using h1

def aCopy (P : Program) (hp : List AObj) (t : TypeId) (x y : PV) (K : Eff → Prop) : Prop :=
  match tinf P t with
  | some ti => match ti.kd with
    | .slice e => match tinf P e, x, y with
      | some te, .mslice l o n s, .slice _ ys => match hp[l]? with
        | some (.cells cs) => (te.sz = s ∧ SZ s ys ∧ o + n * s ≤ cs.length) ∧
            K { v := .int .i64 (min ys.length n : Nat), set := [(l, .cells (splice cs o (flat (ys.take n))))], rd := [l] }
        | _ => False
      | _, _, _ => False
    | _ => False
  | none => False
theorem sound_copy {K : Eff → Prop} {t t2 ty : TypeId} {x y : PV} {u v : Value} (h : aCopy P hp t x y K) (hx : V G w x u) (hy : V G w y v) (hR : RH G hp w) : Ok P hp G w K (Builtin.copy_ #[t, t2] ty #[u, v]) := by
  unfold aCopy at h
  split at h
  case h_2 => exact h.elim
  rename_i ti hti
  obtain ⟨inf, d, z, hT⟩ := tinf_of hti
  split at h
  case h_2 => exact h.elim
  rename_i e hkd
  have hd := kd_slice (hkd ▸ hT.kd)
  have hu := hT.und
  rw [hd] at hu
  split at h
  case h_2 => exact h.elim
  rename_i te l o n s c0 ys hte
  obtain ⟨ein, ed, ez, hE⟩ := tinf_of hte
  split at h
  case h_2 => exact h.elim
  rename_i cs hl
  obtain ⟨⟨hsz, hys, hb⟩, hk⟩ := h
  subst hsz
  obtain ⟨hlt, hle'⟩ := List.getElem?_eq_some_iff.1 hl
  have hO := hR.obj l hlt
  rw [hle'] at hO
  obtain ⟨B, arr, aty, fr, hB, hS, hw, hfr, hasz, hav⟩ := hO
  cases hx with
  | mslice _ _ _ _ B' cap a hB' hle hm ha hN =>
  obtain rfl : B' = B := Option.some.inj (hB'.symm.trans hB)
  obtain ⟨hlen, us, hus, hvu, hou⟩ := elems_take (P := P) (m := min ys.length n) hy hys (Nat.min_le_left _ _)
  have htk : ys.take (min ys.length n) = ys.take n := by
    rcases Nat.le_total ys.length n with h0 | h0
    · rw [Nat.min_eq_left h0, List.take_of_length_le (Nat.le_refl _), List.take_of_length_le h0]
    · rw [Nat.min_eq_right h0]
  rw [htk] at hvu
  have hSt : SZ te.sz (ys.take n) := fun y hy => hys y (List.mem_of_mem_take hy)
  have hful := flat_length hSt
  have hul : us.size = min ys.length n * te.sz := by
    have := hvu.1
    rw [hful] at this
    simp at this
    rw [this, Nat.min_comm]
  have hmn : min ys.length n * te.sz ≤ n * te.sz := Nat.mul_le_mul_right _ (Nat.min_le_right _ _)
  have hac := hasz.2
  obtain ⟨w', arr', hst, hw', hal, hon⟩ := storeCells_run (P := P) us.toList o 0 arr w hw (by simp [hul]; omega) (.inl hfr) hou
  obtain ⟨hp1, hp2⟩ := prefix_VL hasz.2 hav
  have hsl : (splice cs o (flat (ys.take n))).length = cs.length := by
    have : (flat (ys.take n)).length = min ys.length n * te.sz := by rw [hful]; simp [Nat.min_comm]
    simp [splice]; omega
  have hasz' : arr'.size = arr.size := by
    have := congrArg List.length hal
    simp [spliceV] at this
    omega
  have e3 : arr'.toList.take (splice cs o (flat (ys.take n))).length = spliceV (arr.toList.take cs.length) o us.toList := by
    rw [hal, hsl]
    exact spliceV_take (by simp [hul]; omega) (by simpa using hac)
  obtain ⟨hR', hEv⟩ := hR.store hl hB hon hw' hfr (cs' := splice cs o (flat (ys.take n))) (by rw [hasz']; exact hasz.1) (by rw [hsl, hasz']; exact hac) (by rw [e3]; exact vl_splice hp1 hvu _) (by rw [e3]; exact o_splice hp2 hou _)
  refine ⟨_, .int .i64 (min ys.length n : Nat), w', G, hk, ?_, .int _ _, by simpa [after, setAll] using hR', hEv⟩
  rw [hE.sz] at hus
  have hmin : Nat.min ys.length n = min ys.length n := rfl
  cases a with
  | some a =>
    by_cases hn0 : 0 < cap
    · have := ha hn0
      injection this with this
      subst this
      simp [Builtin.copy_, run_underlying hu, hlen, run_sizeOf hE.info, hmin, hus, hst, goInt]
    · have hn : n = 0 := by omega
      subst hn
      have h0 : us.toList = [] := List.eq_nil_of_length_eq_zero (by simp [hul])
      rw [h0] at hst
      simp only [storeCells, Sem.run_pure, Result.ok.injEq, true_and] at hst
      subst hst
      have hus0 : (Builtin.firstCells ein.size 0 v).run P w = .ok us w := by simpa using hus
      simp [Builtin.copy_, run_underlying hu, hlen, run_sizeOf hE.info, hus0, h0, goInt, storeCells]
  | none =>
    have hn : n = 0 := by
      rcases Nat.eq_zero_or_pos cap with h0 | h0
      · omega
      · exact absurd (ha h0) (by simp)
    subst hn
    have h0 : us.toList = [] := List.eq_nil_of_length_eq_zero (by simp [hul])
    rw [h0] at hst
    simp only [storeCells, Sem.run_pure, Result.ok.injEq, true_and] at hst
    subst hst
    have hus0 : (Builtin.firstCells ein.size 0 v).run P w = .ok us w := by simpa using hus
    simp [Builtin.copy_, run_underlying hu, hlen, run_sizeOf hE.info, hus0, goInt]
end
end Go.Proofs.YtlfngjemfpjegaaDoor.Px
