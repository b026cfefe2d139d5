/- The abstract machine (Px): append, as it meets the model. -/
import Derived.Test.YtlfngjemfpjegaaDoorPxJ
namespace Go.Proofs.YtlfngjemfpjegaaDoor.Px
open Go Go.RowKit
set_option linter.unusedVariables false
set_option linter.unusedSimpArgs false

section
variable {P : Program} {hp : List AObj} {G : Gh} {w : World}

/-- The ghost behind a tail's step: tail l stands at T, in block B (of N cells) at place o; the cells of block B between x and o are stable. -/
def Gh.tail (G : Gh) (l T B x o N : Nat) : Gh :=
  { G with N := fun b => if b = B then N else G.N b, S := fun b y => G.S b y ∨ (b = B ∧ x ≤ y ∧ y < o), H := fun l' e => if l' = l ∧ e = T then some (B, o) else G.H l' e }

structure HpStep (hp hp' : List AObj) (l T : Nat) : Prop where
  at_ : hp'[l]? = some (.tip T)
  old : ∀ l' o, l' ≠ l → hp'[l']? = some o → hp[l']? = some o
  len : hp.length ≤ hp'.length
  nd : hp[l]? ≠ some .dead
theorem HpStep.push (hp : List AObj) (T : Nat) : HpStep hp (hp ++ [.tip T]) hp.length T :=
  ⟨by simp, fun l' o hne h => by
    by_cases hl : l' < hp.length
    · rwa [List.getElem?_append_left hl] at h
    · rw [List.getElem?_append_right (by omega)] at h
      have : l' - hp.length ≠ 0 := by omega
      cases hx : l' - hp.length with
      | zero => omega
      | succ k => rw [hx] at h; simp at h, by simp, by simp⟩
theorem HpStep.set {l : Nat} (hl : l < hp.length) (hd : hp[l]? ≠ some .dead) (T : Nat) : HpStep hp (hp.set l (.tip T)) l T :=
  ⟨by rw [List.getElem?_set_self hl], fun l' o hne h => by rwa [List.getElem?_set_ne (fun e => hne e.symm)] at h, by simp, hd⟩
theorem HpStep.live {hp hp' : List AObj} {l T : Nat} (hs : HpStep hp hp' l T) {l' : Nat} (hl : l' < hp.length) (h : hp'[l']? ≠ some .dead) : hp[l']? ≠ some .dead := fun hd => by
  by_cases he : l' = l
  · subst he; exact hs.nd hd
  · have h1 : l' < hp'.length := Nat.lt_of_lt_of_le hl hs.len
    have := hs.old l' hp'[l'] he (List.getElem?_eq_getElem h1)
    rw [hd] at this
    injection this with this
    exact h (by rw [List.getElem?_eq_getElem h1, ← this])

/-- A tail's places lie below its tip. -/
theorem RH.below {l T : Nat} (hR : RH G hp w) (hold : ∀ o, hp[l]? = some o → ∃ t, o = .tip t ∧ t < T) : ∀ e x, G.H l e = some x → e < T := fun e x hx => by
  have h1 := (hR.Hdom l e x.1 x.2 hx).1
  obtain ⟨t, ht, hlt⟩ := hold hp[l] (by simp [h1])
  have := hR.Htip l t (by rw [← ht]; simp [h1]) e x hx
  omega

theorem RH.newTail {hp' : List AObj} {w' : World} {l T n : Nat} {arr : Array Value} {ty : TypeId} (hR : RH G hp w) (hs : HpStep hp hp' l T) (hT : ∀ e x, G.H l e = some x → e < T) (hb : Below w.heap.size w w')
    (hw : w'.heap[w.heap.size]? = some (.cells arr ty (0, 0))) : RH (G.tail l T w.heap.size 0 n arr.size) hp' w' ∧ Ev G w (G.tail l T w.heap.size 0 n arr.size) w' := by
  have hk : Keeps G w (G.tail l T w.heap.size 0 n arr.size) w' := ⟨fun b o u ⟨h1, h2, h3⟩ => ⟨.inl h1, by rw [cell_of_heap (hb.block b (hR.Sdom _ _ h1))]; exact h2, h3⟩, fun _ _ h => h, fun l' e x h => by
    simp only [Gh.tail]
    rw [if_neg]
    · exact h
    · rintro ⟨rfl, rfl⟩; exact absurd (hT _ _ h) (Nat.lt_irrefl _), fun l' e B o h => by
      have := (hR.Hdom _ _ _ _ h).2.1
      simp only [Gh.tail]
      rw [if_neg (by omega)], fun l' B h => by
      have := (hR.σdom _ _ h).2
      simp only [Gh.tail]
      rw [if_neg (by omega)]⟩
  have hlt : w.heap.size < w'.heap.size := (Array.getElem?_eq_some_iff.1 hw).1
  have hH : ∀ l' e x, (G.tail l T w.heap.size 0 n arr.size).H l' e = some x → (l' = l ∧ e = T ∧ x = (w.heap.size, n)) ∨ G.H l' e = some x := fun l' e x h => by
    simp only [Gh.tail] at h
    split at h
    · rename_i hc; injection h with h; exact .inl ⟨hc.1, hc.2, h.symm⟩
    · exact .inr h
  refine andTab hR.tab ⟨⟨fun l' hl' => ?_, fun l' B h => ?_, fun x1 x2 B d1 d2 h1 h2 => hR.σinj x1 x2 B (hs.live (hR.σdom _ _ h1).1 d1) (hs.live (hR.σdom _ _ h2).1 d2) h1 h2, fun l' e B o h => ?_, fun l1 l2 e1 e2 B o1 o2 h1 h2 => ?_, fun B o h => ?_, fun l' t ht e x hx => ?_⟩,
    ⟨hk, hb.os, hb.tape, hb.output, hb.size, fun B hB _ => hb.block B hB, fun B hB _ o ho => ?_, fun B h => ?_, fun B hB => by simp only [Gh.tail]; rw [if_neg (by omega)]⟩⟩
  · by_cases he : l' = l
    · subst he
      have e1 : hp'[l'] = .tip T := by have := hs.at_; rw [List.getElem?_eq_getElem hl'] at this; injection this
      rw [e1]
      intro B o hx
      simp only [Gh.tail, and_self, if_true] at hx
      injection hx with hx
      injection hx with h1 h2
      subst h1; subst h2
      refine ⟨⟨arr, ty, (0, 0), hw, .inl (Nat.le_refl _), by simp [Gh.tail]⟩, fun o' ho' hS => ?_⟩
      rcases hS with hS | ⟨_, _, h3⟩
      · exact absurd (hR.Sdom _ _ hS) (Nat.lt_irrefl _)
      · omega
    · have e1 := hs.old l' hp'[l'] he (List.getElem?_eq_getElem hl')
      obtain ⟨h1, h2⟩ := List.getElem?_eq_some_iff.1 e1
      have hO := hR.obj l' h1
      rw [h2] at hO
      refine hO.mono hk (fun B hB => ⟨hb.block B (hR.σdom _ _ hB).2, fun x hx => ?_⟩) (fun e B x hx => ?_) (fun B h => h)
      · exact hx.resolve_right fun ⟨h3, _⟩ => by have := (hR.σdom _ _ hB).2; omega
      · rcases hH _ _ _ hx with ⟨h3, _⟩ | h3
        · exact absurd h3 he
        · have hBs := (hR.Hdom _ _ _ _ h3).2.1
          exact ⟨h3, hb.block B hBs, fun y hy => hy.resolve_right fun ⟨h4, _⟩ => by omega⟩
  · exact ⟨Nat.lt_of_lt_of_le (hR.σdom _ _ h).1 hs.len, Nat.lt_of_lt_of_le (hR.σdom _ _ h).2 hb.size⟩
  · rcases hH _ _ _ h with ⟨rfl, rfl, hx⟩ | h
    · injection hx with h1 h2
      subst h1
      exact ⟨(List.getElem?_eq_some_iff.1 hs.at_).1, hlt, fun l'' h'' => absurd (hR.σdom _ _ h'').2 (Nat.lt_irrefl _)⟩
    · have := hR.Hdom _ _ _ _ h
      exact ⟨Nat.lt_of_lt_of_le this.1 hs.len, Nat.lt_of_lt_of_le this.2.1 hb.size, this.2.2⟩
  · rcases hH _ _ _ h1 with ⟨a1, _, hx1⟩ | g1 <;> rcases hH _ _ _ h2 with ⟨a2, _, hx2⟩ | g2
    · rw [a1, a2]
    · injection hx1 with hx1; subst hx1; exact absurd (hR.Hdom _ _ _ _ g2).2.1 (Nat.lt_irrefl _)
    · injection hx2 with hx2; subst hx2; exact absurd (hR.Hdom _ _ _ _ g1).2.1 (Nat.lt_irrefl _)
    · exact hR.Hdisj _ _ _ _ _ _ _ g1 g2
  · rcases h with h | ⟨rfl, _⟩
    · exact Nat.lt_of_lt_of_le (hR.Sdom _ _ h) hb.size
    · exact hlt
  · by_cases he : l' = l
    · subst he
      rw [hs.at_] at ht
      injection ht with ht
      injection ht with ht
      subst ht
      rcases hH _ _ _ hx with ⟨_, h3, _⟩ | h3
      · omega
      · have := hT _ _ h3; omega
    · rcases hH _ _ _ hx with ⟨h3, _⟩ | h3
      · exact absurd h3 he
      · exact hR.Htip l' t (hs.old l' _ he ht) e x h3
  · exact ho.resolve_right fun ⟨h3, _⟩ => by omega
  · rcases h with ⟨l', h⟩ | ⟨l', e, o, h⟩
    · exact .inl (.inl ⟨l', h⟩)
    · rcases hH _ _ _ h with ⟨_, _, hx⟩ | h3
      · injection hx with hx; exact .inr (by omega)
      · exact .inl (.inr ⟨l', e, o, h3⟩)

theorem RH.inTail {w' : World} {l t T B o k : Nat} {arr' : Array Value} {ty : TypeId} {fr : Nat × Nat} (hR : RH G hp w) (hl : hp[l]? = some (.tip t)) (hT : t < T) (hH0 : G.H l t = some (B, o)) (ho : Only w w' B)
    (hw : w'.heap[B]? = some (.cells arr' ty fr)) (hfr : fr.2 ≤ fr.1 ∨ fr.2 ≤ o) (hN : arr'.size = G.N B) (hcell : ∀ x, x < o → w'.cell? ⟨B, x, none⟩ = w.cell? ⟨B, x, none⟩) :
    RH (G.tail l T B o (o + k) (G.N B)) (hp.set l (.tip T)) w' ∧ Ev G w (G.tail l T B o (o + k) (G.N B)) w' := by
  obtain ⟨hlt, hle⟩ := List.getElem?_eq_some_iff.1 hl
  have hs := HpStep.set (hp := hp) hlt (by rw [hl]; simp) T
  have hO := hR.obj l hlt
  rw [hle] at hO
  obtain ⟨_, hfree⟩ := hO B o hH0
  have hTT : ∀ e x, G.H l e = some x → e < T := fun e x hx => Nat.lt_of_le_of_lt (hR.Htip l t hl e x hx) hT
  have hBd := hR.Hdom _ _ _ _ hH0
  have hk : Keeps G w (G.tail l T B o (o + k) (G.N B)) w' := ⟨fun b y u ⟨h1, h2, h3⟩ => ⟨.inl h1, by
      by_cases hb : b = B
      · subst hb
        have : y < o := by
          rcases Nat.lt_or_ge y o with h | h
          · exact h
          · exact absurd h1 (hfree y h)
        rw [hcell y this]; exact h2
      · rw [cell_of_heap (ho.block b hb)]; exact h2, h3⟩, fun _ _ h => h, fun l' e x h => by
    simp only [Gh.tail]
    rw [if_neg]
    · exact h
    · rintro ⟨rfl, rfl⟩; exact absurd (hTT _ _ h) (Nat.lt_irrefl _), fun l' e b y h => by
      simp only [Gh.tail]
      split
      · rename_i hb; rw [hb]
      · rfl, fun l' b h => by
      simp only [Gh.tail]
      split
      · rename_i hb; rw [hb]
      · rfl⟩
  have hH : ∀ l' e x, (G.tail l T B o (o + k) (G.N B)).H l' e = some x → (l' = l ∧ e = T ∧ x = (B, o + k)) ∨ G.H l' e = some x := fun l' e x h => by
    simp only [Gh.tail] at h
    split at h
    · rename_i hc; injection h with h; exact .inl ⟨hc.1, hc.2, h.symm⟩
    · exact .inr h
  refine andTab hR.tab ⟨⟨fun l' hl' => ?_, fun l' b h => ?_, fun x1 x2 B d1 d2 h1 h2 => hR.σinj x1 x2 B (hs.live (hR.σdom _ _ h1).1 d1) (hs.live (hR.σdom _ _ h2).1 d2) h1 h2, fun l' e b y h => ?_, fun l1 l2 e1 e2 b o1 o2 h1 h2 => ?_, fun b y h => ?_, fun l' t' ht e x hx => ?_⟩,
    ⟨hk, ho.os, ho.tape, ho.output, by rw [ho.size]; exact Nat.le_refl _, fun b hb hn => ho.block b fun e => hn (.inr ⟨l, t, o, e ▸ hH0⟩), fun b hb hn y hy => ?_, fun b h => ?_, fun b hb => by
      simp only [Gh.tail]
      split
      · rename_i e; rw [e]
      · rfl⟩⟩
  · by_cases he : l' = l
    · subst he
      rw [List.getElem_set_self]
      intro b y hx
      simp only [Gh.tail, and_self, if_true] at hx
      injection hx with hx
      injection hx with h1 h2
      subst h1; subst h2
      refine ⟨⟨arr', ty, fr, hw, hfr.imp id (by omega), by simp [Gh.tail, hN]⟩, fun o' ho' hS => ?_⟩
      rcases hS with hS | ⟨_, _, h3⟩
      · exact hfree o' (by omega) hS
      · omega
    · rw [List.getElem_set_ne (fun e => he e.symm)]
      have hl'' : l' < hp.length := by simpa using hl'
      refine (hR.obj l' hl'').mono hk (fun b hb => ?_) (fun e b x hx => ?_) (fun b h => h)
      · have hne : b ≠ B := fun e => hBd.2.2 l' (e ▸ hb)
        exact ⟨ho.block b hne, fun x hx => hx.resolve_right fun ⟨h3, _⟩ => hne h3⟩
      · rcases hH _ _ _ hx with ⟨h3, _⟩ | h3
        · exact absurd h3 he
        · have hne : b ≠ B := fun e' => he (hR.Hdisj _ _ _ _ _ _ _ (e' ▸ h3) hH0)
          exact ⟨h3, ho.block b hne, fun y hy => hy.resolve_right fun ⟨h4, _⟩ => hne h4⟩
  · have := hR.σdom _ _ h
    exact ⟨by simpa using this.1, by rw [ho.size]; exact this.2⟩
  · rcases hH _ _ _ h with ⟨rfl, rfl, hx⟩ | h
    · injection hx with h1 h2
      subst h1
      exact ⟨by simpa using hlt, by rw [ho.size]; exact hBd.2.1, hBd.2.2⟩
    · have := hR.Hdom _ _ _ _ h
      exact ⟨by simpa using this.1, by rw [ho.size]; exact this.2.1, this.2.2⟩
  · rcases hH _ _ _ h1 with ⟨a1, _, hx1⟩ | g1 <;> rcases hH _ _ _ h2 with ⟨a2, _, hx2⟩ | g2
    · rw [a1, a2]
    · injection hx1 with hx1; subst hx1; rw [a1]; exact (hR.Hdisj _ _ _ _ _ _ _ g2 hH0).symm
    · injection hx2 with hx2; subst hx2; rw [a2]; exact hR.Hdisj _ _ _ _ _ _ _ g1 hH0
    · exact hR.Hdisj _ _ _ _ _ _ _ g1 g2
  · rw [ho.size]
    rcases h with h | ⟨rfl, _⟩
    · exact hR.Sdom _ _ h
    · exact hBd.2.1
  · by_cases he : l' = l
    · subst he
      rw [hs.at_] at ht
      injection ht with ht
      injection ht with ht
      subst ht
      rcases hH _ _ _ hx with ⟨_, h3, _⟩ | h3
      · omega
      · have := hTT _ _ h3; omega
    · rcases hH _ _ _ hx with ⟨h3, _⟩ | h3
      · exact absurd h3 he
      · exact hR.Htip l' t' (hs.old l' _ he ht) e x h3
  · exact hy.resolve_right fun ⟨h3, _⟩ => hn (.inr ⟨l, t, o, h3 ▸ hH0⟩)
  · rcases h with ⟨l', h⟩ | ⟨l', e, y, h⟩
    · exact .inl (.inl ⟨l', h⟩)
    · rcases hH _ _ _ h with ⟨_, _, hx⟩ | h3
      · injection hx with hx; exact .inl (.inr ⟨l, t, o, hx ▸ hH0⟩)
      · exact .inl (.inr ⟨l', e, y, h3⟩)
end
end Go.Proofs.YtlfngjemfpjegaaDoor.Px
