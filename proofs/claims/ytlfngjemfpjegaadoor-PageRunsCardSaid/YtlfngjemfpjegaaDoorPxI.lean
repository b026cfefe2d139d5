/- The abstract machine (Px): stores; append; make. -/
import Derived.Test.YtlfngjemfpjegaaDoorPxH
namespace Go.Proofs.YtlfngjemfpjegaaDoor.Px
open Go Go.RowKit
set_option linter.unusedVariables false
set_option linter.unusedSimpArgs false

/-- But for block B nothing has turned. -/
structure Only (w w' : World) (B : Nat) : Prop where
  os : w'.os = w.os
  tape : w'.tape = w.tape
  output : w'.output = w.output
  size : w'.heap.size = w.heap.size
  block : ∀ b, b ≠ B → w'.heap[b]? = w.heap[b]?
theorem Only.refl (w : World) (B : Nat) : Only w w B := ⟨rfl, rfl, rfl, rfl, fun _ _ => rfl⟩
theorem Only.trans {a b c : World} {B : Nat} (h : Only a b B) (k : Only b c B) : Only a c B :=
  ⟨k.os.trans h.os, k.tape.trans h.tape, k.output.trans h.output, k.size.trans h.size, fun x hx => (k.block x hx).trans (h.block x hx)⟩

section
variable {P : Program} {hp : List AObj} {G : Gh} {w : World}

theorem store_run {B off : Nat} {arr : Array Value} {ty : TypeId} {fr : Nat × Nat} {v : Value} (hw : w.heap[B]? = some (.cells arr ty fr)) (hb : off < arr.size) (hf : fr.2 ≤ fr.1 ∨ fr.2 ≤ off) (hv : v.oneCell' = true) :
    (store ⟨B, off, none⟩ v).run P w = .ok () (w.setCell ⟨B, off, none⟩ v) ∧ (w.setCell ⟨B, off, none⟩ v).heap[B]? = some (.cells (arr.setIfInBounds off v) ty fr) ∧ Only w (w.setCell ⟨B, off, none⟩ v) B := by
  have hc : w.cell? ⟨B, off, none⟩ = some arr[off] := by simp [World.cell?, hw, Array.getElem?_eq_getElem hb]
  have hfz : w.frozen? ⟨B, off, none⟩ = false := by
    obtain ⟨lo, hi⟩ := fr
    simp only [World.frozen?, hw]
    simp only at hf
    simp only [Bool.and_eq_false_iff, decide_eq_false_iff_not]
    omega
  refine ⟨?_, ?_, rfl, rfl, rfl, by simp, fun b hbB => ?_⟩
  · rw [run_store P w _ v .plain hv, hc]
    simp [hfz]
  · simp only [World.setCell, Array.getElem?_modify, if_true, hw, Option.map_some]
    rfl
  · simp only [World.setCell, Array.getElem?_modify]
    rw [if_neg (fun e => hbB e.symm)]

theorem storeCells_run {B : Nat} {ty : TypeId} {fr : Nat × Nat} : ∀ (vs : List Value) (o i : Nat) (arr : Array Value) (w : World), w.heap[B]? = some (.cells arr ty fr) → o + i + vs.length ≤ arr.size →
    (fr.2 ≤ fr.1 ∨ fr.2 ≤ o + i) → O vs → ∃ w' arr', (storeCells ⟨B, o, none⟩ vs i).run P w = .ok () w' ∧ w'.heap[B]? = some (.cells arr' ty fr) ∧ arr'.toList = spliceV arr.toList (o + i) vs ∧ Only w w' B
  | [], o, i, arr, w, hw, _, _, _ => ⟨w, arr, by simp [storeCells], hw, by simp [spliceV], .refl _ _⟩
  | v :: vs, o, i, arr, w, hw, hb, hf, hv => by
    simp only [List.length_cons] at hb
    obtain ⟨h1, h2, h3⟩ := store_run (P := P) (off := o + i) hw (by omega) hf (hv v (by simp))
    obtain ⟨w', arr', h4, h5, h6, h7⟩ := storeCells_run vs o (i + 1) (arr.setIfInBounds (o + i) v) _ h2 (by simp; omega) (by omega) (fun u hu => hv u (by simp [hu]))
    refine ⟨w', arr', ?_, h5, ?_, h3.trans h7⟩
    · simp only [storeCells, Sem.run_bind, addr_add, h1, Result.andThen_ok]
      exact h4
    · rw [h6]
      have hlt : o + i < arr.toList.length := by simp; omega
      simp only [Array.toList_setIfInBounds, spliceV]
      rw [show o + (i + 1) = o + i + 1 by omega, List.take_set, List.drop_set, List.take_succ_eq_append_getElem hlt]
      have e1 : ((List.take (o + i) arr.toList) ++ [arr.toList[o + i]]).set (o + i) v = List.take (o + i) arr.toList ++ [v] := by
        rw [List.set_append]
        have : (List.take (o + i) arr.toList).length = o + i := by simp; simp at hlt; omega
        rw [if_neg (by omega), this]
        simp
      rw [e1]
      simp only [List.length_cons, List.append_assoc, List.singleton_append, List.cons_append, List.nil_append]
      congr 3
      rw [if_pos (by omega)]
      congr 1
      omega

/-! ### 1. A store into an object -/
def aStore (P : Program) (hp : List AObj) (t : TypeId) (x v : PV) (K : Eff → Prop) : Prop :=
  match tinf P t, x with
  | some ti, .ptr l off => match hp[l]? with
    | some (.cells cs) => (v.ok = true ∧ v.cells.length = ti.sz ∧ off + ti.sz ≤ cs.length) ∧ K { v := .bad, set := [(l, .cells (splice cs off v.cells))], rd := [l] }
    | _ => False
  | _, _ => False

theorem RH.store {l B : Nat} {cs cs' : List PV} {w' : World} {arr' : Array Value} {ty : TypeId} {fr : Nat × Nat} (hR : RH G hp w) (hl : hp[l]? = some (.cells cs)) (hσ : G.σ l = some B) (ho : Only w w' B)
    (hw : w'.heap[B]? = some (.cells arr' ty fr)) (hfr : fr.2 ≤ fr.1) (hN : arr'.size = G.N B) (hle' : cs'.length ≤ arr'.size) (hv : VL G w cs' (arr'.toList.take cs'.length)) (h1 : O (arr'.toList.take cs'.length)) : RH G (hp.set l (.cells cs')) w' ∧ Ev G w G w' := by
  obtain ⟨hlt, hle⟩ := List.getElem?_eq_some_iff.1 hl
  have hO := hR.obj l hlt
  rw [hle] at hO
  obtain ⟨B', arr, ty0, fr0, hB, hS, hw0, _, _, _⟩ := hO
  obtain rfl : B' = B := Option.some.inj (hB.symm.trans hσ)
  have hk : Keeps G w G w' := ⟨fun b o u ⟨hs, hc, h1c⟩ => ⟨hs, by
    have hb : b ≠ B' := fun e => hS o (e ▸ hs)
    rw [cell_of_heap (ho.block b hb)]; exact hc, h1c⟩, fun _ _ h => h, fun _ _ _ h => h, fun _ _ _ _ _ => rfl, fun _ _ _ => rfl⟩
  have hdead : ∀ l', (hp.set l (.cells cs'))[l']? ≠ some AObj.dead → hp[l']? ≠ some AObj.dead := fun l' h h' => h (by
    rw [List.getElem?_set_ne (fun e => by subst e; rw [hl] at h'; cases h')]; exact h')
  refine andTab hR.tab ⟨⟨fun l' hl' => ?_, fun l' b h => ?_, fun l1 l2 b d1 d2 => hR.σinj l1 l2 b (hdead _ d1) (hdead _ d2), fun l' e b o h => ?_, hR.Hdisj, fun b o h => by rw [ho.size]; exact hR.Sdom b o h, fun l' t ht e x hx => ?_⟩,
    ⟨hk, ho.os, ho.tape, ho.output, by rw [ho.size]; exact Nat.le_refl _, fun b hb hn => ho.block b fun e => hn (.inl ⟨l, e ▸ hσ⟩), fun _ _ _ _ h => h, fun _ h => .inl h, fun _ _ => rfl⟩⟩
  · by_cases he : l' = l
    · subst he
      rw [List.getElem_set_self]
      refine ⟨B', arr', ty, fr, hσ, hS, hw, hfr, ⟨hN, hle'⟩, fun i hi hi' => ?_⟩
      have hit : i < (arr'.toList.take cs'.length).length := by simp; omega
      have e1 := (hv.2 i hi hit).mono hk
      have e2 := h1 _ (List.getElem_mem hit)
      simp only [List.getElem_take, Array.getElem_toList] at e1 e2
      exact ⟨e1, e2⟩
    · rw [List.getElem_set_ne (fun e => he e.symm)]
      have hl'' : l' < hp.length := by simpa using hl'
      by_cases hd : hp[l'] = .dead
      · rw [hd]; trivial
      · refine (hR.obj l' hl'').mono hk (fun b hb => ⟨ho.block b fun e => he (hR.σinj _ _ _ (by rw [List.getElem?_eq_getElem hl'']; simpa using hd) (by rw [hl]; simp) (e ▸ hb) hσ), fun x hx => hx⟩) (fun e b x hx => ⟨hx, ho.block b fun e' => (hR.Hdom _ _ _ _ hx).2.2 l (e' ▸ hσ), fun y hy => hy⟩) (fun b h => h)
  · have := hR.σdom _ _ h
    exact ⟨by simpa using this.1, by rw [ho.size]; exact this.2⟩
  · have := hR.Hdom _ _ _ _ h
    exact ⟨by simpa using this.1, by rw [ho.size]; exact this.2.1, this.2.2⟩
  · by_cases he : l' = l
    · subst he
      rw [List.getElem?_set_self hlt] at ht
      cases ht
    · rw [List.getElem?_set_ne (fun e => he e.symm)] at ht
      exact hR.Htip l' t ht e x hx

theorem spliceV_take {cs xs : List Value} {off n : Nat} (h : off + xs.length ≤ n) (h' : n ≤ cs.length) : (spliceV cs off xs).take n = spliceV (cs.take n) off xs := by
  unfold spliceV
  have e1 : (cs.take off).length = off := by simp; omega
  rw [List.take_append, List.take_append, List.length_append, e1, List.take_take, List.take_take, List.drop_take]
  rw [Nat.min_eq_right (by omega), Nat.min_eq_left (by omega), List.take_of_length_le (l := xs) (by omega)]

/-- An object whose block is written anew takes a new number; the old one is gone. -/
theorem RH.moveIn {l B : Nat} {cs cs' : List PV} {w' : World} {arr' : Array Value} {ty : TypeId} {fr : Nat × Nat} (hR : RH G hp w) (hl : hp[l]? = some (.cells cs)) (hσ : G.σ l = some B) (ho : Only w w' B)
    (hw : w'.heap[B]? = some (.cells arr' ty fr)) (hfr : fr.2 ≤ fr.1) (hN : arr'.size = G.N B) (hle' : cs'.length ≤ arr'.size) (hv : VL G w cs' (arr'.toList.take cs'.length)) (h1 : O (arr'.toList.take cs'.length)) :
    RH (G.addσ hp.length B arr'.size) (hp.set l .dead ++ [.cells cs']) w' ∧ Ev G w (G.addσ hp.length B arr'.size) w' := by
  obtain ⟨hR1, hE1⟩ := hR.store hl hσ ho hw hfr hN hle' hv h1
  have hR2 := hR1.kill l
  obtain ⟨hlt, hle⟩ := List.getElem?_eq_some_iff.1 hl
  have hO := hR1.obj l (by simpa using hlt)
  rw [List.getElem_set_self] at hO
  obtain ⟨B', arr2, ty2, fr2, hB2, hS, hw2, hfr2, hsz2, hv2⟩ := hO
  obtain rfl : B' = B := Option.some.inj (hB2.symm.trans hσ)
  have hNe : ∀ b, (G.addσ hp.length B' arr'.size).N b = G.N b := fun b => by
    show (if b = B' then arr'.size else G.N b) = G.N b
    by_cases e : b = B'
    · rw [if_pos e, e, hN]
    · rw [if_neg e]
  have hne : ∀ l B, G.σ l = some B → l ≠ hp.length := fun l B h e => by have := (hR.σdom _ _ h).1; omega
  have hk2 : Keeps G w' (G.addσ hp.length B' arr'.size) w' := ⟨fun b o u h => h, fun l b h => by simp only [Gh.addσ]; rw [if_neg (hne l b h)]; exact h, fun _ _ _ h => h, fun _ _ _ _ _ => hNe _, fun _ _ _ => hNe _⟩
  have e0 : (hp.set l (.cells cs')).set l .dead = hp.set l .dead := by rw [List.set_set]
  rw [e0] at hR2
  have hfp : ∀ b, (G.addσ hp.length B' arr'.size).Fp b → G.Fp b := fun b h => by
    rcases h with ⟨l', h⟩ | h
    · simp only [Gh.addσ] at h
      split at h
      · injection h with h; exact .inl ⟨l, h ▸ hσ⟩
      · exact .inl ⟨l', h⟩
    · exact .inr h
  refine andTab hR.tab ⟨⟨fun l' hl' => ?_, fun l' b h => ?_, fun l1 l2 b d1 d2 h1 h2 => ?_, fun l' e b o h => ?_, hR2.Hdisj, hR2.Sdom, fun l' t ht e x hx => ?_⟩,
    ⟨hE1.keeps.trans hk2, hE1.os, hE1.tape, hE1.output, hE1.size, hE1.other, fun b hb hn o h => hE1.Sold b hb hn o h, fun b h => .inl (hfp b h), fun b hb => hNe b⟩⟩
  · by_cases hlt' : l' < hp.length
    · rw [List.getElem_append_left (by simpa using hlt')]
      exact (hR2.obj l' (by simpa using hlt')).mono hk2 (fun _ _ => ⟨rfl, fun _ h => h⟩) (fun _ _ _ h => ⟨h, rfl, fun _ h => h⟩) (fun b h => by simp only [Gh.addσ] at h; rwa [if_neg (by omega)] at h)
    · have hll : l' = hp.length := by simp at hl'; omega
      subst hll
      rw [List.getElem_append_right (by simp)]
      simp only [List.length_set, Nat.sub_self, List.getElem_cons_zero]
      exact ⟨B', arr2, ty2, fr2, by simp [Gh.addσ], hS, hw2, hfr2, ⟨by rw [hNe]; exact hsz2.1, hsz2.2⟩, fun i hi hi' => ⟨(hv2 i hi hi').1.mono hk2, (hv2 i hi hi').2⟩⟩
  · simp only [Gh.addσ] at h
    split at h
    · injection h with h; subst h; subst_vars
      exact ⟨by simp, (hR2.σdom l B' hσ).2⟩
    · have := hR2.σdom _ _ h
      exact ⟨by simp at this ⊢; omega, this.2⟩
  · have hlow : ∀ l', l' ≠ hp.length → (G.addσ hp.length B' arr'.size).σ l' = some b → G.σ l' = some b ∧ l' < hp.length := fun l' hne h => by
      simp only [Gh.addσ] at h
      rw [if_neg hne] at h
      exact ⟨h, (hR.σdom _ _ h).1⟩
    have hlive : ∀ l', l' < hp.length → (hp.set l AObj.dead ++ [.cells cs'])[l']? ≠ some .dead → l' ≠ l ∧ hp[l']? ≠ some .dead := fun l' hl' h => by
      rw [List.getElem?_append_left (by simpa using hl')] at h
      refine ⟨fun e => h (by subst e; rw [List.getElem?_set_self hlt]), fun h' => h ?_⟩
      rw [List.getElem?_set_ne (fun e => ?_)]
      · exact h'
      · subst e; rw [hl] at h'; cases h'
    by_cases e1 : l1 = hp.length <;> by_cases e2 : l2 = hp.length
    · rw [e1, e2]
    · obtain ⟨g1, g2⟩ := hlow l2 e2 h2
      obtain ⟨g3, g4⟩ := hlive l2 g2 d2
      simp only [Gh.addσ, e1, if_true] at h1
      injection h1 with h1
      exact absurd (hR.σinj l2 l b g4 (by rw [hl]; simp) g1 (h1 ▸ hσ)) g3
    · obtain ⟨g1, g2⟩ := hlow l1 e1 h1
      obtain ⟨g3, g4⟩ := hlive l1 g2 d1
      simp only [Gh.addσ, e2, if_true] at h2
      injection h2 with h2
      exact absurd (hR.σinj l1 l b g4 (by rw [hl]; simp) g1 (h2 ▸ hσ)) g3
    · obtain ⟨g1, g2⟩ := hlow l1 e1 h1
      obtain ⟨g3, g4⟩ := hlow l2 e2 h2
      exact hR.σinj _ _ _ (hlive l1 g2 d1).2 (hlive l2 g4 d2).2 g1 g3
  · have := hR2.Hdom _ _ _ _ h
    refine ⟨by have := this.1; simp at this ⊢; omega, this.2.1, fun l'' hl'' => ?_⟩
    simp only [Gh.addσ] at hl''
    split at hl''
    · injection hl'' with hl''; exact this.2.2 l (hl'' ▸ hσ)
    · exact this.2.2 l'' hl''
  · have hd := (hR2.Hdom l' e x.1 x.2 hx).1
    rw [List.getElem?_append_left hd] at ht
    exact hR2.Htip l' t ht e x hx

theorem sound_store {K : Eff → Prop} {t : TypeId} {x v : PV} {u uv : Value} (h : aStore P hp t x v K) (hx : V G w x u) (hv : V G w v uv) (hR : RH G hp w) :
    ∃ e w' G', K e ∧ (Instr.storeAt t u uv).run P w = .ok () w' ∧ e.v = .bad ∧ RH G' (after hp e) w' ∧ Ev G w G' w' := by
  unfold aStore at h
  split at h
  · rename_i ti l off hti
    obtain ⟨inf, d, z, hT⟩ := tinf_of hti
    split at h
    · rename_i cs hcs
      obtain ⟨⟨hok, hsz, hb⟩, hk⟩ := h
      obtain ⟨hlt, hle⟩ := List.getElem?_eq_some_iff.1 hcs
      have hO := hR.obj l hlt
      rw [hle] at hO
      obtain ⟨B, arr, ty, fr, hB, hS, hw, hfr, hasz, hav⟩ := hO
      cases hx with
      | ptr _ _ B' hB' =>
      obtain rfl : B' = B := Option.some.inj (hB'.symm.trans hB)
      obtain ⟨hcl, hco⟩ := hv.cells hok
      have hul : uv.cells.size = ti.sz := by have := hcl.1; simp at this; omega
      obtain ⟨w', arr', h1, h2, h3, h4⟩ := storeCells_run (P := P) uv.cells.toList off 0 arr w hw (by simp; omega) (.inl hfr) hco
      obtain ⟨hvl, hoo⟩ := prefix_VL hasz.2 hav
      have hsl : (splice cs off v.cells).length = cs.length := by simp [splice]; omega
      have hul' : uv.cells.toList.length = v.cells.length := hcl.1
      have e3 : arr'.toList.take (splice cs off v.cells).length = spliceV (arr.toList.take cs.length) off uv.cells.toList := by
        rw [h3, hsl]
        exact spliceV_take (by omega) (by simpa using hasz.2)
      have hasz' : arr'.size = arr.size := by
        have := congrArg List.length h3
        have e5 := hasz.2
        simp [spliceV] at this
        omega
      obtain ⟨hR', hEv⟩ := hR.store hcs hB h4 h2 hfr (cs' := splice cs off v.cells) (by rw [hasz']; exact hasz.1) (by rw [hsl, hasz']; exact hasz.2) (by rw [e3]; exact vl_splice hvl hcl _) (by rw [e3]; exact o_splice hoo hco _)
      refine ⟨_, w', G, hk, ?_, rfl, by simpa [after, setAll] using hR', hEv⟩
      have hsz' : uv.cells.size = inf.size := by rw [hul, hT.sz]
      simp only [Instr.storeAt, Instr.sureAddr, Sem.run_bind, Sem.run_pure, Result.andThen_ok, storeVar, run_sizeOf hT.info, hsz', ne_eq, not_true_eq_false, if_false]
      exact h1
    · exact h.elim
  · exact h.elim
end
end Go.Proofs.YtlfngjemfpjegaaDoor.Px
