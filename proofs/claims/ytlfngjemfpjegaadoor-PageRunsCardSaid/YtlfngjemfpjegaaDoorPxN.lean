/- The abstract machine (Px): coming back from a call. -/
import Derived.Test.YtlfngjemfpjegaaDoorPxM
namespace Go.Proofs.YtlfngjemfpjegaaDoor.Px
open Go Go.RowKit
set_option linter.unusedVariables false
set_option linter.unusedSimpArgs false

/-- The callee's numbers as the caller's: new objects go behind the caller's own. -/
def backN (n : Nat) (rs : List Nat) (i : Nat) : Nat :=
  match rs[i]? with
  | some l => l
  | none => n + (i - rs.length)
/-- What a call leaves of the caller's objects. -/
def backSet (ρ : Nat → Nat) : List Nat → List AObj → List (Nat × AObj)
  | l :: rs, o :: os => (l, o.ren ρ) :: backSet ρ rs os
  | _, _ => []
def backNew (ρ : Nat → Nat) (m : Nat) (L' : List AObj) : List AObj := (L'.drop m).map (AObj.ren ρ)

theorem setAll_length : ∀ (s : List (Nat × AObj)) (hp : List AObj), (setAll hp s).length = hp.length
  | [], hp => rfl
  | (l, o) :: r, hp => by rw [setAll, setAll_length r]; simp
theorem setAll_other : ∀ (s : List (Nat × AObj)) (hp : List AObj) (l : Nat), (∀ x ∈ s, x.1 ≠ l) → (setAll hp s)[l]? = hp[l]?
  | [], hp, l, _ => rfl
  | (k, o) :: r, hp, l, h => by
    rw [setAll, setAll_other r _ l (fun x hx => h x (by simp [hx])), List.getElem?_set_ne (h (k, o) (by simp))]
theorem backSet_fst {ρ : Nat → Nat} : ∀ {rs : List Nat} {os : List AObj} {x : Nat × AObj}, x ∈ backSet ρ rs os → x.1 ∈ rs
  | [], _, x, h => by simp [backSet] at h
  | l :: rs, [], x, h => by simp [backSet] at h
  | l :: rs, o :: os, x, h => by
    simp only [backSet, List.mem_cons] at h
    rcases h with rfl | h
    · simp
    · exact List.mem_cons_of_mem _ (backSet_fst h)
theorem setAll_back {ρ : Nat → Nat} : ∀ {rs : List Nat} {os : List AObj} {hp : List AObj}, rs.Nodup → (∀ l ∈ rs, l < hp.length) → ∀ {i l : Nat} {o : AObj}, rs[i]? = some l → os[i]? = some o →
    (setAll hp (backSet ρ rs os))[l]? = some (o.ren ρ)
  | [], _, hp, _, _, i, l, o, h, _ => by simp at h
  | k :: rs, [], hp, _, _, i, l, o, _, h => by simp at h
  | k :: rs, p :: os, hp, hn, hlt, 0, l, o, h, h' => by
    simp only [List.getElem?_cons_zero, Option.some.injEq] at h h'
    subst h; subst h'
    simp only [backSet, setAll]
    rw [setAll_other _ _ k (fun x hx e => (List.nodup_cons.1 hn).1 (by rw [← e]; exact backSet_fst hx)), List.getElem?_set_self (hlt _ (by simp))]
  | k :: rs, p :: os, hp, hn, hlt, i + 1, l, o, h, h' => by
    simp only [List.getElem?_cons_succ] at h h'
    simp only [backSet, setAll]
    exact setAll_back (List.nodup_cons.1 hn).2 (fun x hx => by simpa using hlt x (by simp [hx])) h h'

section
variable {P : Program} {hp : List AObj} {G G1 : Gh} {w w' : World}

def Gh.back (G G1 : Gh) (n : Nat) (rs : List Nat) : Gh :=
  { S := G1.S, N := G1.N,
    σ := fun l => match rs.idxOf? l with
      | some i => G1.σ i
      | none => if l < n then G.σ l else G1.σ (rs.length + (l - n))
    H := fun l e => match rs.idxOf? l with
      | some i => G1.H i e
      | none => if l < n then G.H l e else G1.H (rs.length + (l - n)) e }

theorem idx_some {rs : List Nat} (hn : rs.Nodup) {i l : Nat} (h : rs[i]? = some l) : rs.idxOf? l = some i := by
  cases hx : rs.idxOf? l with
  | none => exact absurd (List.mem_of_getElem? h) (List.idxOf?_eq_none_iff.1 hx)
  | some j => rw [nodup_get hn (idx_of hx) h]
theorem idx_none {rs : List Nat} {l : Nat} (h : l ∉ rs) : rs.idxOf? l = none := List.idxOf?_eq_none_iff.2 h

theorem back_σ {n : Nat} {rs : List Nat} (hn : rs.Nodup) (hlt : ∀ l ∈ rs, l < n) (i : Nat) : (G.back G1 n rs).σ (backN n rs i) = G1.σ i := by
  simp only [Gh.back, backN]
  cases h : rs[i]? with
  | some l => simp only [idx_some hn h]
  | none =>
    have hi : rs.length ≤ i := List.getElem?_eq_none_iff.1 h
    have hni : n + (i - rs.length) ∉ rs := fun hm => by have := hlt _ hm; omega
    simp only [idx_none hni]
    rw [if_neg (by omega)]
    congr 1
    omega
theorem back_H {n : Nat} {rs : List Nat} (hn : rs.Nodup) (hlt : ∀ l ∈ rs, l < n) (i e : Nat) : (G.back G1 n rs).H (backN n rs i) e = G1.H i e := by
  simp only [Gh.back, backN]
  cases h : rs[i]? with
  | some l => simp only [idx_some hn h]
  | none =>
    have hi : rs.length ≤ i := List.getElem?_eq_none_iff.1 h
    have hni : n + (i - rs.length) ∉ rs := fun hm => by have := hlt _ hm; omega
    simp only [idx_none hni]
    rw [if_neg (by omega)]
    congr 1
    omega
/-- Each of the caller's numbers behind the call: one of the callee's, or one that wasn't handed over. -/
theorem back_cases {n : Nat} {rs : List Nat} (hlt : ∀ l ∈ rs, l < n) (l : Nat) : (∃ i, backN n rs i = l ∧ (i < rs.length ↔ l < n)) ∨ (l ∉ rs ∧ l < n) := by
  by_cases hm : l ∈ rs
  · obtain ⟨i, hi, rfl⟩ := List.getElem_of_mem hm
    exact .inl ⟨i, by simp [backN, hi], by simp [hi, hlt _ (List.getElem_mem hi)]⟩
  · by_cases hl : l < n
    · exact .inr ⟨hm, hl⟩
    · refine .inl ⟨rs.length + (l - n), ?_, by omega⟩
      simp only [backN]
      rw [List.getElem?_eq_none (by omega)]
      show n + (rs.length + (l - n) - rs.length) = l
      omega
theorem back_old {n : Nat} {rs : List Nat} {l : Nat} (h : l ∉ rs) (hl : l < n) : (G.back G1 n rs).σ l = G.σ l ∧ ∀ e, (G.back G1 n rs).H l e = G.H l e := by
  simp [Gh.back, idx_none h, hl]
theorem backN_inj {n : Nat} {rs : List Nat} (hn : rs.Nodup) (hlt : ∀ l ∈ rs, l < n) {i j : Nat} (h : backN n rs i = backN n rs j) : i = j := by
  simp only [backN] at h
  cases hi : rs[i]? with
  | some l =>
    cases hj : rs[j]? with
    | some l' => rw [hi, hj] at h; simp only at h; subst h; exact nodup_get hn hi hj
    | none => rw [hi, hj] at h; simp only at h; have := hlt l (List.mem_of_getElem? hi); omega
  | none =>
    have := List.getElem?_eq_none_iff.1 hi
    cases hj : rs[j]? with
    | some l' => rw [hi, hj] at h; simp only at h; have := hlt l' (List.mem_of_getElem? hj); omega
    | none => have := List.getElem?_eq_none_iff.1 hj; rw [hi, hj] at h; simp only at h; omega

theorem back_V {n : Nat} {rs : List Nat} (hn : rs.Nodup) (hlt : ∀ l ∈ rs, l < n) {p : PV} {u : Value} (h : V G1 w' p u) : V (G.back G1 n rs) w' (p.ren (backN n rs)) u :=
  V.ren (G := G.back G1 n rs) (backN n rs) G1 rfl (fun l B hB => by rw [back_σ hn hlt]; exact hB) (fun l e x hx => by rw [back_H hn hlt]; exact hx) rfl h

theorem ORel.back {n : Nat} {rs : List Nat} (hn : rs.Nodup) (hlt : ∀ l ∈ rs, l < n) {i : Nat} {o : AObj} (h : ORel G1 w' i o) : ORel (G.back G1 n rs) w' (backN n rs i) (o.ren (backN n rs)) := by
  cases o with
  | dead => trivial
  | hole => exact ⟨by rw [back_σ hn hlt]; exact h.1, fun e => by rw [back_H hn hlt]; exact h.2 e⟩
  | cells cs =>
    obtain ⟨B, arr, ty, fr, h1, h2, h3, h4, h5, h6⟩ := h
    refine ⟨B, arr, ty, fr, by rw [back_σ hn hlt]; exact h1, h2, h3, h4, ⟨h5.1, by simpa [PV.renL_map] using h5.2⟩, fun j hj hj' => ?_⟩
    have := h6 j (by simpa [PV.renL_map] using hj) hj'
    simp only [PV.renL_map, List.getElem_map]
    exact ⟨back_V hn hlt this.1, this.2⟩
  | tip t =>
    intro B o ho
    rw [back_H hn hlt] at ho
    exact h B o ho
  | map es c =>
    obtain ⟨B, ces, h1, h2, h3, h4, h5⟩ := h
    refine ⟨B, ces, by rw [back_σ hn hlt]; exact h1, h2, h3, by simpa using h4, fun j hj hj' => ?_⟩
    have := h5 j (by simpa using hj) hj'
    simp only [List.getElem_map]
    exact ⟨back_V hn hlt this.1, back_V hn hlt this.2.1, this.2.2⟩

theorem RH.back {rs : List Nat} {L' : List AObj} (hR : RH G hp w) (hn : rs.Nodup) (hlt : ∀ l ∈ rs, l < hp.length) (hR1 : RH G1 L' w') (hE : Ev (G.sub rs) w G1 w')
    (hlen : rs.length ≤ L'.length) (hlive : ∀ l ∈ rs, hp[l]? ≠ some .dead) :
    RH (G.back G1 hp.length rs) (setAll hp (backSet (backN hp.length rs) rs L') ++ backNew (backN hp.length rs) rs.length L') w' ∧ Ev G w (G.back G1 hp.length rs) w' := by
  have hN : ∀ B, B < w.heap.size → G1.N B = G.N B := hE.Nsame
  generalize hρ : backN hp.length rs = ρ
  generalize hG : G.back G1 hp.length rs = G'
  have hσ : ∀ i, G'.σ (ρ i) = G1.σ i := fun i => by rw [← hG, ← hρ]; exact back_σ hn hlt i
  have hH : ∀ i e, G'.H (ρ i) e = G1.H i e := fun i e => by rw [← hG, ← hρ]; exact back_H hn hlt i e
  have hold : ∀ l, l ∉ rs → l < hp.length → G'.σ l = G.σ l ∧ ∀ e, G'.H l e = G.H l e := fun l h h' => by rw [← hG]; exact back_old h h'
  have hcase : ∀ l, (∃ i, ρ i = l ∧ (i < rs.length ↔ l < hp.length)) ∨ (l ∉ rs ∧ l < hp.length) := fun l => by rw [← hρ]; exact back_cases hlt l
  have hinj : ∀ i j, ρ i = ρ j → i = j := fun i j h => by rw [← hρ] at h; exact backN_inj hn hlt h
  have hS : G'.S = G1.S := by rw [← hG]; rfl
  have hN' : G'.N = G1.N := by rw [← hG]; rfl
  -- what wasn't handed over lies apart
  have hsub : ∀ B, (G.sub rs).Fp B → (∃ l, l ∈ rs ∧ G.σ l = some B) ∨ ∃ l e o, l ∈ rs ∧ G.H l e = some (B, o) := fun B h => by
    rcases h with ⟨i, h⟩ | ⟨i, e, o, h⟩
    · obtain ⟨l, hl, hB⟩ := sub_σ h; exact .inl ⟨l, List.mem_of_getElem? hl, hB⟩
    · obtain ⟨l, hl, hB⟩ := sub_H h; exact .inr ⟨l, e, o, List.mem_of_getElem? hl, hB⟩
  have hσap : ∀ l B, l ∉ rs → hp[l]? ≠ some .dead → G.σ l = some B → ¬ (G.sub rs).Fp B := fun l B h hd hB hf => by
    rcases hsub B hf with ⟨l', h1, h2⟩ | ⟨l', e, o, h1, h2⟩
    · exact h (hR.σinj _ _ _ hd (hlive l' h1) hB h2 ▸ h1)
    · exact (hR.Hdom _ _ _ _ h2).2.2 l hB
  have hHap : ∀ l e B o, l ∉ rs → G.H l e = some (B, o) → ¬ (G.sub rs).Fp B := fun l e B o h hB hf => by
    rcases hsub B hf with ⟨l', h1, h2⟩ | ⟨l', e', o', h1, h2⟩
    · exact (hR.Hdom _ _ _ _ hB).2.2 l' h2
    · exact h (hR.Hdisj _ _ _ _ _ _ _ hB h2 ▸ h1)
  have hFp1 : ∀ B, B < w.heap.size → ¬ (G.sub rs).Fp B → ¬ G1.Fp B := fun B hB h hf => (hE.fp B hf).elim h (by omega)
  have hk : Keeps G w G' w' := by
    refine ⟨fun B o u h => ?_, fun l B h => ?_, fun l e x h => ?_, fun l e B o h => by rw [hN']; exact hN B (hR.Hdom _ _ _ _ h).2.1, fun l B h => by rw [hN']; exact hN B (hR.σdom _ _ h).2⟩
    · have := hE.keeps.cell B o u h
      exact ⟨by rw [hS]; exact this.1, this.2⟩
    · rcases hcase l with ⟨i, rfl, hi⟩ | ⟨h1, h2⟩
      · have hl := (hR.σdom _ _ h).1
        rw [hσ]
        refine hE.keeps.σ i B ?_
        have hi' := hi.2 hl
        have : rs[i]? = some (ρ i) := by rw [← hρ]; simp [backN, hi']
        simp only [Gh.sub, this, Option.bind_some]
        exact h
      · rw [(hold l h1 h2).1]; exact h
    · rcases hcase l with ⟨i, rfl, hi⟩ | ⟨h1, h2⟩
      · have hl := (hR.Hdom _ e x.1 x.2 h).1
        rw [hH]
        refine hE.keeps.H i e x ?_
        have hi' := hi.2 hl
        have : rs[i]? = some (ρ i) := by rw [← hρ]; simp [backN, hi']
        simp only [Gh.sub, this, Option.bind_some]
        exact h
      · rw [(hold l h1 h2).2]; exact h
  have hlen0 := setAll_length (backSet ρ rs L') hp
  have hnew : (backNew ρ rs.length L').length = L'.length - rs.length := by simp [backNew]
  have hlenT : (setAll hp (backSet ρ rs L') ++ backNew ρ rs.length L').length = hp.length + (L'.length - rs.length) := by rw [List.length_append, hlen0, hnew]
  -- an object of the callee's
  have hget : ∀ i o, L'[i]? = some o → (setAll hp (backSet ρ rs L') ++ backNew ρ rs.length L')[ρ i]? = some (o.ren ρ) := fun i o ho => by
    by_cases hi : i < rs.length
    · have h1 : rs[i]? = some (ρ i) := by rw [← hρ]; simp [backN, hi]
      have h2 := hlt _ (List.mem_of_getElem? h1)
      rw [List.getElem?_append_left (by omega)]
      exact setAll_back hn hlt h1 ho
    · have h1 : ρ i = hp.length + (i - rs.length) := by rw [← hρ]; simp [backN, List.getElem?_eq_none (Nat.le_of_not_lt hi)]
      rw [List.getElem?_append_right (by omega), h1, hlen0]
      simp only [backNew, List.getElem?_map, List.getElem?_drop, Nat.add_sub_cancel_left]
      rw [show rs.length + (i - rs.length) = i by omega, ho]
      rfl
  have hgetold : ∀ l, l ∉ rs → l < hp.length → (setAll hp (backSet ρ rs L') ++ backNew ρ rs.length L')[l]? = hp[l]? := fun l h h' => by
    rw [List.getElem?_append_left (by omega)]
    exact setAll_other _ _ l fun x hx e => h (by rw [← e]; exact backSet_fst hx)
  have hrho : ∀ i, i < L'.length → ρ i < hp.length + (L'.length - rs.length) := fun i hi => by
    rw [← hρ]
    simp only [backN]
    cases h : rs[i]? with
    | some l => have := hlt l (List.mem_of_getElem? h); simp only; omega
    | none => have := List.getElem?_eq_none_iff.1 h; simp only; omega
  refine andTab hR.tab ⟨⟨fun l hl => ?_, fun l B h => ?_, fun l l' B d d' h h' => ?_, fun l e B o h => ?_, fun l l' e e' B o o' h h' => ?_, fun B o h => by rw [hS] at h; exact hR1.Sdom B o h, fun l t ht e x hx => ?_⟩,
    ⟨hk, hE.os, hE.tape, hE.output, hE.size, fun B hB hf => ?_, fun B hB hf o ho => ?_, fun B hf => ?_, fun B hB => by rw [hN']; exact hN B hB⟩⟩
  · rcases hcase l with ⟨i, rfl, hi⟩ | ⟨h1, h2⟩
    · have hiL : i < L'.length := by
        rcases Nat.lt_or_ge i L'.length with h | h
        · exact h
        · rw [hlenT] at hl
          have : ¬ i < rs.length := by omega
          have h1 : ρ i = hp.length + (i - rs.length) := by rw [← hρ]; simp [backN, List.getElem?_eq_none (Nat.le_of_not_lt this)]
          omega
      have hg := hget i L'[i] (List.getElem?_eq_getElem hiL)
      rw [List.getElem?_eq_getElem hl] at hg
      injection hg with hg
      rw [hg, ← hG, ← hρ]
      exact (hR1.obj i hiL).back hn hlt
    · have hg := hgetold l h1 h2
      rw [List.getElem?_eq_getElem hl, List.getElem?_eq_getElem h2] at hg
      injection hg with hg
      rw [hg]
      by_cases hdd : hp[l] = .dead
      · rw [hdd]; trivial
      refine (hR.obj l h2).mono hk (fun B hB => ?_) (fun e B x hx => ?_) (fun B hB => by rwa [(hold l h1 h2).1] at hB)
      · have := hσap l B h1 (by rw [List.getElem?_eq_getElem h2]; simpa using hdd) hB
        exact ⟨hE.other B (hR.σdom _ _ hB).2 this, fun x hx => hE.Sold B (hR.σdom _ _ hB).2 this x (by rw [hS] at hx; exact hx)⟩
      · rw [(hold l h1 h2).2] at hx
        have := hHap l e B x h1 hx
        have hBs := (hR.Hdom _ _ _ _ hx).2.1
        exact ⟨hx, hE.other B hBs this, fun y hy => hE.Sold B hBs this y (by rw [hS] at hy; exact hy)⟩
  · rcases hcase l with ⟨i, rfl, hi⟩ | ⟨h1, h2⟩
    · rw [hσ] at h
      have := hR1.σdom _ _ h
      exact ⟨by rw [hlenT]; exact hrho i this.1, this.2⟩
    · rw [(hold l h1 h2).1] at h
      exact ⟨by rw [hlenT]; omega, Nat.lt_of_lt_of_le (hR.σdom _ _ h).2 hE.size⟩
  · rcases hcase l with ⟨i, rfl, hi⟩ | ⟨h1, h2⟩ <;> rcases hcase l' with ⟨i', rfl, hi'⟩ | ⟨h1', h2'⟩
    · rw [hσ] at h h'
      have hdl : ∀ i, i < L'.length → (setAll hp (backSet ρ rs L') ++ backNew ρ rs.length L')[ρ i]? ≠ some .dead → L'[i]? ≠ some .dead := fun i hi hd h0 => hd (by rw [hget i _ h0]; rfl)
      rw [hR1.σinj _ _ _ (hdl i (hR1.σdom _ _ h).1 d) (hdl i' (hR1.σdom _ _ h').1 d') h h']
    · rw [hσ] at h
      rw [(hold l' h1' h2').1] at h'
      rw [hgetold l' h1' h2'] at d'
      exact absurd (.inl ⟨i, h⟩) (hFp1 B (hR.σdom _ _ h').2 (hσap l' B h1' d' h'))
    · rw [(hold l h1 h2).1] at h
      rw [hσ] at h'
      rw [hgetold l h1 h2] at d
      exact absurd (.inl ⟨i', h'⟩) (hFp1 B (hR.σdom _ _ h).2 (hσap l B h1 d h))
    · rw [(hold l h1 h2).1] at h
      rw [(hold l' h1' h2').1] at h'
      rw [hgetold l h1 h2] at d
      rw [hgetold l' h1' h2'] at d'
      exact hR.σinj _ _ _ d d' h h'
  · have key : ∀ l', G'.σ l' = some B → (∃ i, G1.σ i = some B) ∨ (l' ∉ rs ∧ G.σ l' = some B) := fun l' hl' => by
      rcases hcase l' with ⟨i', rfl, _⟩ | ⟨h1', h2'⟩
      · rw [hσ] at hl'; exact .inl ⟨i', hl'⟩
      · rw [(hold l' h1' h2').1] at hl'; exact .inr ⟨h1', hl'⟩
    rcases hcase l with ⟨i, rfl, hi⟩ | ⟨h1, h2⟩
    · rw [hH] at h
      have := hR1.Hdom _ _ _ _ h
      refine ⟨by rw [hlenT]; exact hrho i this.1, this.2.1, fun l' hl' => ?_⟩
      rcases key l' hl' with ⟨i', h3⟩ | ⟨h3, h4⟩
      · exact this.2.2 i' h3
      · by_cases hf : (G.sub rs).Fp B
        · rcases hf with ⟨j, hj⟩ | ⟨j, ej, oj, hj⟩
          · exact this.2.2 j (hE.keeps.σ _ _ hj)
          · obtain ⟨l2, _, hj2⟩ := sub_H hj
            exact (hR.Hdom _ _ _ _ hj2).2.2 l' h4
        · exact hFp1 B (hR.σdom _ _ h4).2 hf (.inr ⟨i, e, o, h⟩)
    · rw [(hold l h1 h2).2] at h
      have := hR.Hdom _ _ _ _ h
      refine ⟨by rw [hlenT]; omega, Nat.lt_of_lt_of_le this.2.1 hE.size, fun l' hl' => ?_⟩
      rcases key l' hl' with ⟨i', h3⟩ | ⟨h3, h4⟩
      · exact hFp1 B this.2.1 (hHap l e B o h1 h) (.inl ⟨i', h3⟩)
      · exact this.2.2 l' h4
  · rcases hcase l with ⟨i, rfl, hi⟩ | ⟨h1, h2⟩ <;> rcases hcase l' with ⟨i', rfl, hi'⟩ | ⟨h1', h2'⟩
    · rw [hH] at h h'
      rw [hR1.Hdisj _ _ _ _ _ _ _ h h']
    · rw [hH] at h
      rw [(hold l' h1' h2').2] at h'
      exact absurd (.inr ⟨i, e, o, h⟩) (hFp1 B (hR.Hdom _ _ _ _ h').2.1 (hHap l' e' B o' h1' h'))
    · rw [(hold l h1 h2).2] at h
      rw [hH] at h'
      exact absurd (.inr ⟨i', e', o', h'⟩) (hFp1 B (hR.Hdom _ _ _ _ h).2.1 (hHap l e B o h1 h))
    · rw [(hold l h1 h2).2] at h
      rw [(hold l' h1' h2').2] at h'
      exact hR.Hdisj _ _ _ _ _ _ _ h h'
  · rcases hcase l with ⟨i, rfl, hi⟩ | ⟨h1, h2⟩
    · rw [hH] at hx
      have hiL := (hR1.Hdom i e x.1 x.2 hx).1
      rw [hget i L'[i] (List.getElem?_eq_getElem hiL)] at ht
      injection ht with ht
      refine hR1.Htip i t ?_ e x hx
      rw [List.getElem?_eq_getElem hiL]
      cases ho : L'[i] with
      | tip t' => rw [ho] at ht; exact congrArg some ht
      | dead => rw [ho] at ht; cases ht
      | hole => rw [ho] at ht; cases ht
      | cells cs => rw [ho] at ht; cases ht
      | map es c => rw [ho] at ht; cases ht
    · rw [(hold l h1 h2).2] at hx
      rw [hgetold l h1 h2] at ht
      exact hR.Htip l t ht e x hx
  · refine hE.other B hB fun h => hf ?_
    rcases hsub B h with ⟨l, _, h2⟩ | ⟨l, e, o, _, h2⟩
    · exact .inl ⟨l, h2⟩
    · exact .inr ⟨l, e, o, h2⟩
  · rw [hS] at ho
    refine hE.Sold B hB (fun h => hf ?_) o ho
    rcases hsub B h with ⟨l, _, h2⟩ | ⟨l, e, o, _, h2⟩
    · exact .inl ⟨l, h2⟩
    · exact .inr ⟨l, e, o, h2⟩
  · have hin : G1.Fp B → G.Fp B ∨ w.heap.size ≤ B := fun h => (hE.fp B h).imp (fun h' => by
      rcases hsub B h' with ⟨l, _, h2⟩ | ⟨l, e, o, _, h2⟩
      · exact .inl ⟨l, h2⟩
      · exact .inr ⟨l, e, o, h2⟩) id
    rcases hf with ⟨l, h⟩ | ⟨l, e, o, h⟩
    · rcases hcase l with ⟨i, rfl, _⟩ | ⟨h1, h2⟩
      · rw [hσ] at h; exact hin (.inl ⟨i, h⟩)
      · rw [(hold l h1 h2).1] at h; exact .inl (.inl ⟨l, h⟩)
    · rcases hcase l with ⟨i, rfl, _⟩ | ⟨h1, h2⟩
      · rw [hH] at h; exact hin (.inr ⟨i, e, o, h⟩)
      · rw [(hold l h1 h2).2] at h; exact .inl (.inr ⟨l, e, o, h⟩)
end
end Go.Proofs.YtlfngjemfpjegaaDoor.Px
