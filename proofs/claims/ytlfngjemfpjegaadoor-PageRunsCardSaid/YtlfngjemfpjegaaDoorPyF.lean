/- What a template renders: as a function, with its bounds. -/
import Derived.Test.YtlfngjemfpjegaaDoorPyE
namespace Go.Proofs.YtlfngjemfpjegaaDoor.Px
open Go Go.RowKit Go.Proofs
set_option linter.unusedVariables false
set_option linter.unnecessarySimpa false
set_option linter.unusedSimpArgs false
set_option maxRecDepth 4000

def itoa (n : Int) : BA := ⟨(Lib.itoa n).toArray⟩
def eB : BA := ⟨#[]⟩
def stepB : BA := ⟨#[115, 116, 101, 112, 115]⟩
def timesB : BA := ⟨#[116, 105, 109, 101, 115]⟩
def kindB : BA := ⟨#[107, 105, 110, 100]⟩
theorem eB_def : (⟨#[]⟩ : BA) = eB := rfl
theorem stepB_def : (⟨#[115, 116, 101, 112, 115]⟩ : BA) = stepB := rfl
theorem timesB_def : (⟨#[116, 105, 109, 101, 115]⟩ : BA) = timesB := rfl
theorem kindB_def : (⟨#[107, 105, 110, 100]⟩ : BA) = kindB := rfl
theorem const_eB : ofConst (.string eB) = .str eB := j3y (by decide)
theorem const_stepB : ofConst (.string stepB) = .str stepB := j3y (by decide)
theorem const_timesB : ofConst (.string timesB) = .str timesB := j3y (by decide)
theorem const_kindB : ofConst (.string kindB) = .str kindB := j3y (by decide)

abbrev Rs := Except Er (List Tr × Int)
def elemT (g : BA) (ats : List At) (ks : List Tr) : Tr := .mk g eB eB ats ks
def textT (t : BA) : Tr := .mk eB eB t [] []
/-- A node of the i-th time: its key tells it. -/
def keyed (i : Int) (x : Tr) : Tr := if x.g = eB then x else .mk x.g (itoa i) x.t x.ats x.ks
/-- The first i times. -/
def eachTo (kf : Int → Rs) : Nat → Int → Rs
  | 0, s => .ok ([], s)
  | i + 1, s => match eachTo kf i s with
    | .error e => .error e
    | .ok (a, s) => match kf s with
      | .error e => .error e
      | .ok (l, s) => .ok (a ++ l.map (keyed i), s)
mutual
def rowP (st : List Int) (ps : List At) : Tp → Int → Rs
  | .mk c n g t ats ks, s =>
    if 1000 < s + 1 then .error (stepB, s + 1)
    else if c = 1 then match kidsP st ps ks (s + 1) with
      | .error e => .error e
      | .ok (l, s) => .ok ([elemT g ats l], s)
    else if c = 2 then .ok ([textT t], s + 1)
    else if c = 3 then match numP st n with
      | .error e => .error e
      | .ok v => .ok ([textT (itoa v)], s + 1)
    else if c = 4 then match parP ps t with
      | .error e => .error e
      | .ok v => .ok ([textT v], s + 1)
    else if c = 5 then match numP st n with
      | .error e => .error e
      | .ok v => if v = 0 then .ok ([], s + 1) else kidsP st ps ks (s + 1)
    else if c = 6 then match numP st n with
      | .error e => .error e
      | .ok v => if 24 < v then .error (timesB, v) else eachTo (fun s => kidsP st ps ks s) v.toNat (s + 1)
    else if c = 7 then .ok ([elemT outB [] []], s + 1)
    else .error (kindB, c)
def kidsP (st : List Int) (ps : List At) : List Tp → Int → Rs
  | [], s => .ok ([], s)
  | t :: r, s => match rowP st ps t s with
    | .error e => .error e
    | .ok (a, s) => match kidsP st ps r s with
      | .error e => .error e
      | .ok (b, s) => .ok (a ++ b, s)
end

/-- Steps go on, up to the bound; a row has no more nodes than it took steps. -/
def Bd (s : Int) (o : Rs) : Prop := ∀ l s', o = .ok (l, s') → s ≤ s' ∧ s' ≤ 1000 ∧ (l.length : Int) ≤ s' - s
theorem bd_err {s : Int} {e : Er} : Bd s (.error e) := fun l s' h => by cases h
theorem eachTo_bd {kf : Int → Rs} (h : ∀ s, 0 ≤ s → s ≤ 1000 → Bd s (kf s)) : ∀ (i : Nat) (s : Int), 0 ≤ s → s ≤ 1000 → Bd s (eachTo kf i s)
  | 0, s, h0, h1 => fun l s' he => by
    simp only [eachTo, Except.ok.injEq, Prod.mk.injEq] at he
    obtain ⟨rfl, rfl⟩ := he
    simp; omega
  | i + 1, s, h0, h1 => fun l s' he => by
    simp only [eachTo] at he
    split at he
    · cases he
    · rename_i a s1 ha
      obtain ⟨b1, b2, b3⟩ := eachTo_bd h i s h0 h1 _ _ ha
      split at he
      · cases he
      · rename_i b s2 hb
        obtain ⟨c1, c2, c3⟩ := h s1 (by omega) b2 _ _ hb
        simp only [Except.ok.injEq, Prod.mk.injEq] at he
        obtain ⟨rfl, rfl⟩ := he
        simp; omega
mutual
theorem rowP_bd (st : List Int) (ps : List At) : ∀ (t : Tp) (s : Int), 0 ≤ s → s ≤ 1000 → Bd s (rowP st ps t s)
  | .mk c n g t ats ks, s, h0, h1 => fun l s' he => by
    have hk := kidsP_bd st ps ks
    rw [rowP] at he
    split at he
    · cases he
    rename_i h2
    have one : ∀ {x : Tr}, (Except.ok ([x], s + 1) : Rs) = .ok (l, s') → s ≤ s' ∧ s' ≤ 1000 ∧ (l.length : Int) ≤ s' - s := fun he => by
      simp only [Except.ok.injEq, Prod.mk.injEq] at he
      obtain ⟨rfl, rfl⟩ := he
      simp; omega
    split at he
    · split at he
      · cases he
      · rename_i b s2 hb
        obtain ⟨c1, c2, c3⟩ := hk (s + 1) (by omega) (by omega) _ _ hb
        simp only [Except.ok.injEq, Prod.mk.injEq] at he
        obtain ⟨rfl, rfl⟩ := he
        simp; omega
    split at he
    · exact one he
    split at he
    · split at he
      · cases he
      · exact one he
    split at he
    · split at he
      · cases he
      · exact one he
    split at he
    · split at he
      · cases he
      · split at he
        · simp only [Except.ok.injEq, Prod.mk.injEq] at he
          obtain ⟨rfl, rfl⟩ := he
          simp; omega
        · obtain ⟨c1, c2, c3⟩ := hk (s + 1) (by omega) (by omega) _ _ he
          omega
    split at he
    · split at he
      · cases he
      · split at he
        · cases he
        · obtain ⟨c1, c2, c3⟩ := eachTo_bd (fun s h0 h1 => hk s h0 h1) _ (s + 1) (by omega) (by omega) _ _ he
          omega
    split at he
    · exact one he
    · cases he
theorem kidsP_bd (st : List Int) (ps : List At) : ∀ (l : List Tp) (s : Int), 0 ≤ s → s ≤ 1000 → Bd s (kidsP st ps l s)
  | [], s, h0, h1 => fun l s' he => by
    simp only [kidsP, Except.ok.injEq, Prod.mk.injEq] at he
    obtain ⟨rfl, rfl⟩ := he
    simp; omega
  | t :: r, s, h0, h1 => fun l s' he => by
    simp only [kidsP] at he
    split at he
    · cases he
    · rename_i a s1 ha
      obtain ⟨b1, b2, b3⟩ := rowP_bd st ps t s h0 h1 _ _ ha
      split at he
      · cases he
      · rename_i b s2 hb
        obtain ⟨c1, c2, c3⟩ := kidsP_bd st ps r s1 (by omega) b2 _ _ hb
        simp only [Except.ok.injEq, Prod.mk.injEq] at he
        obtain ⟨rfl, rfl⟩ := he
        simp; omega
end
/-- One template more. -/
theorem kidsP_snoc (st : List Int) (ps : List At) (t : Tp) : ∀ (l : List Tp) (s : Int), kidsP st ps (l ++ [t]) s = match kidsP st ps l s with
    | .error e => .error e
    | .ok (a, s) => match rowP st ps t s with
      | .error e => .error e
      | .ok (b, s) => .ok (a ++ b, s)
  | [], s => by
    simp only [List.nil_append, kidsP]
    cases rowP st ps t s with
    | error e => rfl
    | ok x => simp
  | x :: l, s => by
    simp only [List.cons_append, kidsP]
    cases h : rowP st ps x s with
    | error e => rfl
    | ok y =>
      simp only [kidsP_snoc st ps t l y.2]
      cases h2 : kidsP st ps l y.2 with
      | error e => rfl
      | ok z =>
        simp only
        cases h3 : rowP st ps t z.2 with
        | error e => rfl
        | ok u => simp
theorem kidsP_err (st : List Int) (ps : List At) (e : Er) (r : List Tp) : ∀ (l : List Tp) (s : Int), kidsP st ps l s = .error e → kidsP st ps (l ++ r) s = .error e
  | [], s, h => by cases h
  | x :: l, s, h => by
    simp only [List.cons_append, kidsP] at h ⊢
    cases h1 : rowP st ps x s with
    | error e' => rw [h1] at h; exact h
    | ok y =>
      rw [h1] at h
      simp only at h ⊢
      cases h2 : kidsP st ps l y.2 with
      | error e' =>
        rw [h2] at h
        simp only at h
        rw [kidsP_err st ps e r l y.2 (by rw [h2]; exact h)]
      | ok z => rw [h2] at h; cases h
theorem eachTo_err {kf : Int → Rs} {e : Er} {s : Int} : ∀ {i : Nat} (n : Nat), i ≤ n → eachTo kf i s = .error e → eachTo kf n s = .error e
  | i, 0, h, he => by have : i = 0 := by omega
                      subst this; exact he
  | i, n + 1, h, he => by
    by_cases hi : i = n + 1
    · subst hi; exact he
    · simp only [eachTo]
      rw [eachTo_err n (by omega) he]

mutual
/-- No list of attributes is beyond all memory. -/
def Tp.fine : Tp → Prop
  | .mk _ _ _ _ ats ks => ats.length ≤ 1099511627776 ∧ finePs ks
def finePs : List Tp → Prop
  | [] => True
  | t :: r => t.fine ∧ finePs r
end
theorem finePs_iff : ∀ l : List Tp, finePs l ↔ ∀ t ∈ l, t.fine
  | [] => by simp [finePs]
  | t :: r => by simp [finePs, finePs_iff r]
theorem Tp.fine_iff (t : Tp) : t.fine ↔ t.ats.length ≤ 1099511627776 ∧ ∀ k ∈ t.ks, k.fine := by
  cases t; simp [Tp.fine, finePs_iff, Tp.ats, Tp.ks]
end Go.Proofs.YtlfngjemfpjegaaDoor.Px
