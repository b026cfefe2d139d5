/- The abstract machine (Px): new objects with a number that is given ahead. -/
import Derived.Test.YtlfngjemfpjegaaDoorPxP
namespace Go.Proofs.YtlfngjemfpjegaaDoor.Px
open Go Go.RowKit
set_option linter.unusedVariables false
set_option linter.unusedSimpArgs false

section
variable {P : Program} {G : Gh} {hp : List AObj} {w : World}

theorem andTab3 {G G' : Gh} {w w' : World} {hp' : List AObj} {C : Prop} (k : Tabs G w) (h : RH0 G' hp' w' ∧ Ev G w G' w' ∧ C) : RH G' hp' w' ∧ Ev G w G' w' ∧ C := ⟨(andTab k ⟨h.1, h.2.1⟩).1, h.2⟩
theorem RH.hole {nu : Nat} (hR : RH G hp w) (hn : hp[nu]? = some .hole) : nu < hp.length ∧ G.σ nu = none ∧ ∀ e, G.H nu e = none := by
  obtain ⟨h1, h2⟩ := List.getElem?_eq_some_iff.1 hn
  have := hR.obj nu h1
  rw [h2] at this
  exact ⟨h1, this⟩

theorem RH.fillCells {nu : Nat} (hR : RH G hp w) (hn : hp[nu]? = some .hole) (cs : List PV) (arr : Array Value) (ty : TypeId) (hl : cs.length ≤ arr.size)
    (hv : ∀ i (h : i < cs.length) (h' : i < arr.size), V G w cs[i] arr[i] ∧ arr[i].oneCell' = true) :
    RH (G.addσ nu w.heap.size arr.size) (hp.set nu (.cells cs)) (w.alloc (.cells arr ty)) ∧ Ev G w (G.addσ nu w.heap.size arr.size) (w.alloc (.cells arr ty)) ∧
      (G.addσ nu w.heap.size arr.size).σ nu = some w.heap.size := by
  obtain ⟨hlt, hnσ, hnH⟩ := hR.hole hn
  have hb := below_alloc' w (.cells arr ty)
  have hne : ∀ l B, G.σ l = some B → l ≠ nu := fun l B h e => by rw [e, hnσ] at h; cases h
  have hNN : ∀ B, B < w.heap.size → (G.addσ nu w.heap.size arr.size).N B = G.N B := fun B h => by simp only [Gh.addσ]; rw [if_neg (by omega)]
  have hk : Keeps G w (G.addσ nu w.heap.size arr.size) (w.alloc (.cells arr ty)) :=
    ⟨fun B o u ⟨hS, hc, h1c⟩ => ⟨hS, by rw [cell_of_heap (hb.block B (hR.Sdom _ _ hS))]; exact hc, h1c⟩, fun l B h => by simp only [Gh.addσ]; rw [if_neg (hne l B h)]; exact h, fun _ _ _ h => h, fun l e B o h => hNN B (hR.Hdom _ _ _ _ h).2.1, fun l B h => hNN B (hR.σdom _ _ h).2⟩
  have hHn : ∀ l e x, G.H l e = some x → l ≠ nu := fun l e x h he => by rw [he, hnH] at h; cases h
  refine andTab3 hR.tab ⟨⟨fun l hl' => ?_, fun l B h => ?_, fun l l' B d d' h h' => ?_, fun l e B o h => ?_, hR.Hdisj, fun B o h => ?_, fun l t ht e x hx => hR.Htip l t (by rw [← ht, List.getElem?_set_ne (fun h => hHn l e x hx h.symm)]) e x hx⟩, ⟨hk, rfl, rfl, rfl, hb.size, fun B hB _ => hb.block B hB, fun B hB _ o ho => ho, fun B h => ?_, hNN⟩, by simp [Gh.addσ]⟩
  · by_cases he : l = nu
    · subst he
      simp only [List.getElem_set_self]
      exact ⟨w.heap.size, arr, ty, (0, 0), by simp [Gh.addσ], fun o ho => absurd (hR.Sdom _ _ ho) (Nat.lt_irrefl _), heap_alloc_self _ _, Nat.le_refl _, ⟨by simp [Gh.addσ], hl⟩, fun i h h' => ⟨(hv i h h').1.mono hk, (hv i h h').2⟩⟩
    · rw [List.getElem_set_ne (fun h => he h.symm)]
      refine (hR.obj l (by simpa using hl')).mono hk (fun B hB => ⟨hb.block B (hR.σdom _ _ hB).2, fun x hx => hx⟩) (fun e B x hx => ?_) ?_
      · exact ⟨hx, hb.block B (hR.Hdom _ _ _ _ hx).2.1, fun y hy => hy⟩
      · intro B hB; simp only [Gh.addσ] at hB; rwa [if_neg he] at hB
  · simp only [Gh.addσ] at h
    by_cases e : l = nu
    · rw [if_pos e] at h; injection h with h; subst h; subst e; simp; exact hlt
    · rw [if_neg e] at h; have := hR.σdom _ _ h; simp; omega
  · simp only [Gh.addσ] at h h'
    by_cases e : l = nu <;> by_cases e' : l' = nu
    · rw [e, e']
    · rw [if_pos e] at h; rw [if_neg e'] at h'; injection h with h; subst h; have := (hR.σdom _ _ h').2; omega
    · rw [if_neg e] at h; rw [if_pos e'] at h'; injection h' with h'; subst h'; have := (hR.σdom _ _ h).2; omega
    · rw [if_neg e] at h; rw [if_neg e'] at h'
      rw [List.getElem?_set_ne (fun x => e x.symm)] at d
      rw [List.getElem?_set_ne (fun x => e' x.symm)] at d'
      exact hR.σinj _ _ _ d d' h h'
  · have := hR.Hdom _ _ _ _ h
    refine ⟨by simp; omega, by simp; omega, fun l' hl' => ?_⟩
    simp only [Gh.addσ] at hl'
    by_cases e' : l' = nu
    · rw [if_pos e'] at hl'; injection hl' with hl'; omega
    · rw [if_neg e'] at hl'; exact this.2.2 l' hl'
  · have := hR.Sdom _ _ h; simp; omega
  · rcases h with ⟨l, h⟩ | ⟨l, e, o, h⟩
    · simp only [Gh.addσ] at h
      by_cases e : l = nu
      · rw [if_pos e] at h; injection h with h; exact .inr (by omega)
      · rw [if_neg e] at h; exact .inl (.inl ⟨l, h⟩)
    · exact .inl (.inr ⟨l, e, o, h⟩)

/-- More numbers that no object has yet. -/
theorem RH.holes (hR : RH G hp w) (k : Nat) : RH G (hp ++ List.replicate k .hole) w := by
  refine RH.of hR.tab ⟨fun l hl => ?_, fun l B h => ⟨by have := (hR.σdom _ _ h).1; simp; omega, (hR.σdom _ _ h).2⟩, fun l1 l2 B d1 d2 h1 h2 => hR.σinj l1 l2 B (by rwa [List.getElem?_append_left (hR.σdom _ _ h1).1] at d1) (by rwa [List.getElem?_append_left (hR.σdom _ _ h2).1] at d2) h1 h2, fun l e B o h => ⟨by have := (hR.Hdom _ _ _ _ h).1; simp; omega, (hR.Hdom _ _ _ _ h).2⟩, hR.Hdisj, hR.Sdom, fun l t ht e x hx => hR.Htip l t (by rw [← ht, List.getElem?_append_left (hR.Hdom l e x.1 x.2 hx).1]) e x hx⟩
  by_cases h : l < hp.length
  · rw [List.getElem_append_left h]; exact hR.obj l h
  · rw [List.getElem_append_right (by omega)]
    simp only [List.getElem_replicate]
    refine ⟨?_, fun e => ?_⟩
    · cases hs : G.σ l with
      | none => rfl
      | some B => have := (hR.σdom _ _ hs).1; omega
    · cases hs : G.H l e with
      | none => rfl
      | some x => have := (hR.Hdom l e x.1 x.2 hs).1; omega

def aAppN (P : Program) (hp : List AObj) (nu : Nat) (t1 t2 : TypeId) (s x : PV) (K : Eff → Prop) : Prop :=
  match tinf P t1, tinf P t2, elemsOf x with
  | some ti, some ti2, some xs => match ti.kd with
    | .slice e => match tinf P e with
      | some te => ((match ti2.kd with | .slice _ => True | .str => True | _ => False) ∧ SZ te.sz xs ∧ 0 < te.bytes ∧ te.zero.ok = true ∧ te.zero.cells.length = te.sz) ∧
        (match s with
        | .nil0 => xs.length * te.bytes ≤ 140737488355328 ∧ (xs = [] → K { v := .nil0 }) ∧ (xs ≠ [] → hp[nu]? = some .hole ∧ K { v := .slice (.tail nu xs.length) xs, set := [(nu, .tip xs.length)], rd := [nu] })
        | .slice .exact es => (SZ te.sz es ∧ (es.length + xs.length) * te.bytes ≤ 140737488355328) ∧ (xs = [] → K { v := .slice .exact es }) ∧
            (xs ≠ [] → hp[nu]? = some .hole ∧ K { v := .slice (.tail nu (es.length + xs.length)) (es ++ xs), set := [(nu, .tip (es.length + xs.length))], rd := [nu] })
        | .slice (.tail l t) es => (hp[l]? = some (.tip t) ∧ SZ te.sz es ∧ (es.length + xs.length) * te.bytes ≤ 140737488355328) ∧
            K { v := .slice (.tail l (t + xs.length)) (es ++ xs), set := [(l, .tip (t + xs.length))], rd := [l] }
        | _ => False)
      | none => False
    | _ => False
  | _, _, _ => False

theorem sound_appN {nu : Nat} {K : Eff → Prop} {t1 t2 ty : TypeId} {s x : PV} {us ux : Value} (h : aAppN P hp nu t1 t2 s x K) (hs : V G w s us) (hx : V G w x ux) (hR : RH G hp w) : Ok P hp G w K (Builtin.append_ #[t1, t2] ty #[us, ux]) := by
  unfold aAppN at h
  split at h
  case h_2 => exact h.elim
  rename_i ti ti2 xs hti hti2 hxs
  obtain ⟨inf, d, z, hT⟩ := tinf_of hti
  obtain ⟨inf2, d2, z2, hT2⟩ := tinf_of hti2
  split at h
  case h_2 => exact h.elim
  rename_i e hkd
  have hd := kd_slice (hkd ▸ hT.kd)
  have hu := hT.und
  rw [hd] at hu
  split at h
  case h_2 => exact h.elim
  rename_i te hte
  obtain ⟨ein, ed, ez, hE⟩ := tinf_of hte
  obtain ⟨h0, h⟩ := h
  have ⟨hk2, hxz, hby, hzok, hzsz⟩ := h0
  have hz : V G w te.zero ez := by rw [hE.z]; exact ofConst_V _ _ _
  have hezl : ez.cells.size = te.sz := by have := (hz.cells hzok).1.1; simp at this; omega
  have hd2 : (∃ e2, d2 = .slice e2) ∨ d2 = .string := by
    split at hk2
    · rename_i e2 h2; exact .inl ⟨e2, kd_slice (h2 ▸ hT2.kd)⟩
    · rename_i h2; exact .inr (kd_str (h2 ▸ hT2.kd))
    · exact hk2.elim
  have hu2 := hT2.und
  have hby' : 0 < ein.bytes := by rw [← hE.bytes]; exact hby
  obtain ⟨hlen, _⟩ := elems_run (P := P) hxs hx hxz w (fun _ _ => rfl)
  obtain ⟨_, news, hnew, hnv, hno⟩ := elems_run (P := P) hxs hx hxz w.drew (fun _ _ => rfl)
  obtain ⟨_, news0, hnew0, hnv0, hno0⟩ := elems_run (P := P) hxs hx hxz w (fun _ _ => rfl)
  rw [hE.sz] at hnew hnew0
  have hfits : ∀ n c, c < n → n * te.bytes ≤ 140737488355328 → Builtin.nextslicecap n c * ein.bytes ≤ 281474976710656 := fun n c hc hb => growslice_fits hc (by rw [← hE.bytes]; exact hb)
  have hM : ∀ n, n * te.bytes ≤ 140737488355328 → n ≤ 9223372036854775807 := fun n h => by have := Nat.le_mul_of_pos_right n hby; omega
  -- nothing is appended
  have hnone : ∀ base n c, xs = [] → n ≤ c → us = .slice base n c → (Builtin.append_ #[t1, t2] ty #[us, ux]).run P w = .ok us w := fun base n c hx0 hnc he => by
    subst hx0
    subst he
    have h0 : news0.toList = [] := List.eq_nil_of_length_eq_zero (by rw [hnv0.1]; rfl)
    have := runIn0 (P := P) (w := w) (ty := ty) hu hu2 hd2 hE.info (base := base) (sLen := n) (sCap := c) hlen hnew0 (by simpa using hnc) (w' := w) (by
      rw [h0]
      cases base <;> simp [storeCells])
    simpa using this
  split at h
  · obtain ⟨hbound, hk0, hk1⟩ := h
    cases hs with
    | nil0 a =>
    by_cases hx0 : xs = []
    · exact .val [] (hk0 hx0) (hnone _ _ _ hx0 (Nat.le_refl _) rfl) (.nil0 _) hR
    · have hpos : 0 < xs.length := List.length_pos_iff.2 hx0
      have hold : (Builtin.firstCells ein.size 0 (.slice a 0 0)).run P w.drew = .ok #[] w.drew := by cases a <;> simp [Builtin.firstCells, loadCells, loadCellsFrom]
      have hr := run_grow (P := P) (w := w) (ty := ty) hu hu2 hd2 hE.info hE.zero hlen hold hnew (by omega) hby' (hfits _ _ (by omega) (by simpa using hbound))
      simp only [Nat.zero_add] at hr
      exact grow_ok (es := []) (by simpa using hxz) hR (hk1 hx0).2 rfl (by simpa [after, setAll] using HpStep.set (hR.hole (hk1 hx0).1).1 (by rw [(hk1 hx0).1]; simp) xs.length) (fun e x hx => by rw [(hR.hole (hk1 hx0).1).2.2] at hx; cases hx) (olds := #[]) (by simpa using hr) (by simpa using grownCap_ge w xs.length 0 e) (by simpa using hM _ hbound) (by simpa using hpos) (by simp [size_zeroCells, hezl]) (by simpa [flat] using VL.nil G w) (by simpa using O.nil) hnv hno
  · rename_i es
    obtain ⟨⟨hez, hbound⟩, hk0, hk1⟩ := h
    have hs' := hs
    cases hs with
    | slice _ _ a B o s n cap u hn hle hm hsz ha hsc hv hex ht =>
    have hcn := hex rfl
    subst hcn
    subst hn
    by_cases hx0 : xs = []
    · exact .val [] (hk0 hx0) (hnone _ _ _ hx0 (Nat.le_refl _) rfl) hs' hR
    · have hpos : 0 < xs.length := List.length_pos_iff.2 hx0
      obtain ⟨_, olds, hold, hov, hoo⟩ := elems_run (P := P) (x := .slice .exact es) rfl hs' hez w.drew (fun _ _ => rfl)
      rw [hE.sz] at hold
      have hr := run_grow (P := P) (w := w) (ty := ty) hu hu2 hd2 hE.info hE.zero hlen hold hnew (by omega) hby' (hfits _ _ (by omega) hbound)
      refine grow_ok (hez.append hxz) hR (hk1 hx0).2 rfl (by simpa [after, setAll] using HpStep.set (hR.hole (hk1 hx0).1).1 (by rw [(hk1 hx0).1]; simp) (es.length + xs.length)) (fun e x hx => by rw [(hR.hole (hk1 hx0).1).2.2] at hx; cases hx) (by simpa using hr) (by simpa using grownCap_ge w _ _ e) (by simpa using hM _ hbound) (by simp; omega) (by simp [size_zeroCells, hezl]) hov hoo hnv hno
  · rename_i l t es
    exact sound_append (by simp only [aAppend, hti, hti2, hxs, hkd, hte]; exact ⟨h0, h⟩) hs hx hR
  · exact h.elim

theorem sound_newAt {nu : Nat} {K : Eff → Prop} {t : TypeId} {x : PV} {u : Value} {m : Sem Value} (hm : m.run P w = .ok (.pointer (some ⟨w.heap.size, 0, none⟩)) (w.alloc (.cells u.cells t)))
    (hok : x.ok = true) (hn : hp[nu]? = some .hole) (hk : K { v := .ptr nu 0, set := [(nu, .cells x.cells)], rd := [nu] }) (hx : V G w x u) (hR : RH G hp w) : Ok P hp G w K m := by
  obtain ⟨h1, h2⟩ := hx.cells hok
  obtain ⟨a, b, c⟩ := hR.fillCells hn x.cells u.cells t (by have := h1.1; simp at this; omega) fun i h h' => by
    have e1 := h1.2 i h (by simpa using h')
    have e2 := h2 (u.cells.toList[i]'(by simpa using h')) (by simp)
    rw [Array.getElem_toList] at e1 e2
    exact ⟨e1, e2⟩
  exact ⟨_, _, _, _, hk, hm, .ptr _ _ _ c, by simpa [after, setAll] using a, b⟩

/-- In a region that draws its order: a new object has the number nu; calls reach no object; nothing panics. -/
def aOpN (P : Program) (nu : Nat) (s : St) (op : Op) (K X : Eff → Prop) : Prop :=
  match op with
  | .alloc t => match tinf P t with
    | some ti => ti.zero.ok = true ∧ s.hp[nu]? = some .hole ∧ K { v := .ptr nu 0, set := [(nu, .cells ti.zero.cells)], rd := [nu] }
    | none => False
  | .box _ x => (s.ev x).ok = true ∧ s.hp[nu]? = some .hole ∧ K { v := .ptr nu 0, set := [(nu, .cells (s.ev x).cells)], rd := [nu] }
  | .call ⟨.builtin .append, args, ts⟩ => match args.toList, ts.toList with
    | [x, y], [t, u] => aAppN P s.hp nu t u (s.ev x) (s.ev y) K
    | _, _ => False
  | op => aOpP P s op K X
end
end Go.Proofs.YtlfngjemfpjegaaDoor.Px
