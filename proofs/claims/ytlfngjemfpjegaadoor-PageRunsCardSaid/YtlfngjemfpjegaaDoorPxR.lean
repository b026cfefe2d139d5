/- The abstract machine (Px): operations in a region that draws its order: sound, and the same wherever the objects that they touch are the same. -/
import Derived.Test.YtlfngjemfpjegaaDoorPxQ
namespace Go.Proofs.YtlfngjemfpjegaaDoor.Px
open Go Go.RowKit
set_option linter.unusedVariables false
set_option linter.unusedSimpArgs false

section
variable {P : Program} {s : St} {G : Gh} {w : World} {a : Act}
theorem sound_opN {nu : Nat} {o : Oper} {K X : Eff → Prop} {next : Act → World → Prop} {Q : Exit → Act → World → Prop} (h : aOpN P nu s o.op K X) (hR : RS G s a w)
    (hK : Goes s.hp G w K fun v w' => next (a.put o.dst v) w') (hX : Goes s.hp G w X fun v w' => Q (.panic [{ v, recovered := false }]) a w') : o.wp P a w next Q := by
  have hplain : aOpP P s o.op K X → o.wp P a w next Q := fun h => sound_op (aOpP_aOp h) hR hK hX
  obtain ⟨dst, op, type, pos, aft, guard⟩ := o
  unfold aOpN at h
  split at h
  · rename_i t heq
    simp only at heq
    subst heq
    split at h
    · rename_i ti hti
      obtain ⟨inf, d, z, hT⟩ := tinf_of hti
      have hz : V G w ti.zero z := by rw [hT.z]; exact ofConst_V _ _ _
      exact Ok.wp (sound_newAt (t := t) (x := ti.zero) (u := z) (m := Instr.alloc t true (.tuple #[])) (by simp [Instr.alloc, run_zeroValue hT.info hT.zero, newVar, newRow]) h.1 h.2.1 h.2.2 hz hR.hp) rfl hK
    · exact h.elim
  · rename_i t x heq
    simp only at heq
    subst heq
    exact Ok.wp (sound_newAt (t := t) (m := Instr.box t (a.eval x)) (by simp [Instr.box, newVar, newRow]) h.1 h.2.1 h.2.2 (hR.ev x) hR.hp) rfl hK
  · rename_i args ts heq
    simp only at heq
    subst heq
    split at h
    · rename_i x y t u ha ht
      have ha := Array.toList_inj.1 (ha.trans (List.toList_toArray ..).symm)
      have ht := Array.toList_inj.1 (ht.trans (List.toList_toArray ..).symm)
      subst ha ht
      exact Ok.wp (sound_appN h (hR.ev _) (hR.ev _) hR.hp) (by simp [execOp, resolve, invoke, builtin]; rfl) hK
    · exact h.elim
  · exact hplain h
end

def Same (hp hp' : List AObj) (e : Eff) : Prop := hp'.length = hp.length ∧ ∀ l, l ∈ e.rd ∨ l ∈ e.set.map (·.1) → hp'[l]? = hp[l]?

section
variable {P : Program} {f : Nat → PV} {hp : List AObj} {nu : Nat} {X : Eff → Prop}
def none_ : Eff → Prop := fun _ => False
def LocN (F : List AObj → (Eff → Prop) → Prop) (hp : List AObj) (K : Eff → Prop) : Prop :=
  ∃ e, K e ∧ e.new = [] ∧ ∀ hp', Same hp hp' e → F hp' fun x => x = e
def Loc (P : Program) (nu : Nat) (f : Nat → PV) (hp : List AObj) (op : Op) (K X : Eff → Prop) : Prop :=
  LocN (fun hp' K => aOpN P nu ⟨f, hp'⟩ op K none_) hp K ∨ LocN (fun hp' X => aOpN P nu ⟨f, hp'⟩ op none_ X) hp X
def LocP (P : Program) (f : Nat → PV) (hp : List AObj) (op : Op) (K : Eff → Prop) : Prop :=
  LocN (fun hp' K => aOpP P ⟨f, hp'⟩ op K none_) hp K

theorem loc_free {op : Op} {K : Eff → Prop} (h : aOpP P ⟨f, hp⟩ op K none_) (hF : Det fun K => aOpP P ⟨f, hp⟩ op K none_) (hd : ∀ hp', aOpP P ⟨f, hp'⟩ op = aOpP P ⟨f, hp⟩ op) : LocP P f hp op K := by
  obtain ⟨e, hk, he, h⟩ := hF K h
  refine ⟨e, hk, he.2.1, fun hp' _ => ?_⟩
  show aOpP _ _ _ _ _
  rw [hd]
  exact h
theorem det_one {v : PV} : Det fun K => K { v := v } := fun K h => ⟨_, h, ⟨rfl, rfl, rfl⟩, rfl⟩
theorem det_and {c : Prop} {F : (Eff → Prop) → Prop} (h : Det F) : Det fun K => c ∧ F K := fun K ⟨hc, hk⟩ =>
  let ⟨e, a, b, d⟩ := h K hk
  ⟨e, a, b, hc, d⟩
theorem det_v {F : (PV → Prop) → Prop} (h : DetV F) : Det fun K => F fun v => K { v := v } := fun K hk => by
  obtain ⟨v, a, b⟩ := h _ hk
  refine ⟨{ v := v }, a, ⟨rfl, rfl, rfl⟩, ?_⟩
  have : (fun x => x = v) = fun v' => ({ v := v' } : Eff) = { v := v } := funext fun x => propext ⟨fun h => by rw [h], fun h => by injection h⟩
  rw [this] at b
  exact b

theorem loc_load {t : TypeId} {x : Operand} {K : Eff → Prop} (h : aOpP P ⟨f, hp⟩ (.load t x) K none_) : LocP P f hp (.load t x) K := by
  simp only [aOpP, aOp] at h
  unfold aLoad at h
  split at h
  · rename_i ti hti
    split at h
    · rename_i v hv
      refine ⟨_, h.2, rfl, fun hp' _ => ?_⟩
      simp only [aOpP, aOp, ev_eq (hp := hp') (hp' := hp), hv, aLoad, hti]
      exact ⟨h.1, by trivial⟩
    · rename_i l off hv
      split at h
      · rename_i cs hcs
        refine ⟨_, h.2, rfl, fun hp' hs => ?_⟩
        have := hs.2 l (.inl (by simp))
        simp only [aOpP, aOp, ev_eq (hp := hp') (hp' := hp), hv, aLoad, hti, this, hcs]
        exact ⟨h.1, by trivial⟩
      · exact h.elim
    · exact h.elim
  · exact h.elim
theorem loc_store {t : TypeId} {x y : Operand} {K : Eff → Prop} (h : aOpP P ⟨f, hp⟩ (.store t x y) K none_) : LocP P f hp (.store t x y) K := by
  simp only [aOpP, aOp] at h
  unfold aStore at h
  split at h
  · rename_i ti l off hti hv
    split at h
    · rename_i cs hcs
      refine ⟨_, h.2, rfl, fun hp' hs => ?_⟩
      have := hs.2 l (.inl (by simp))
      simp only [aOpP, aOp, ev_eq (hp := hp') (hp' := hp), hv, aStore, hti, this, hcs]
      exact ⟨h.1, by trivial⟩
    · exact h.elim
  · exact h.elim
theorem loc_append {t u : TypeId} {s x : Operand} {K : Eff → Prop} (h : aOpN P nu ⟨f, hp⟩ (.call ⟨.builtin .append, #[s, x], #[t, u]⟩) K X) : LocN (fun hp' K => aOpN P nu ⟨f, hp'⟩ (.call ⟨.builtin .append, #[s, x], #[t, u]⟩) K none_) hp K := by
  simp only [aOpN] at h
  unfold aAppN at h
  split at h
  case h_2 => exact h.elim
  rename_i ti ti2 xs hti hti2 hxs
  split at h
  case h_2 => exact h.elim
  rename_i e hkd
  split at h
  case h_2 => exact h.elim
  rename_i te hte
  obtain ⟨h0, h⟩ := h
  have hgo : ∀ hp' K', aOpN P nu ⟨f, hp'⟩ (.call ⟨.builtin .append, #[s, x], #[t, u]⟩) K' none_ = aAppN P hp' nu t u (St.ev ⟨f, hp⟩ s) (St.ev ⟨f, hp⟩ x) K' := fun hp' K' => by
    simp only [aOpN, ev_eq (hp := hp') (hp' := hp)]
  split at h
  · rename_i hs
    obtain ⟨h1, h2, h3⟩ := h
    by_cases hx : xs = []
    · refine ⟨_, h2 hx, rfl, fun hp' _ => ?_⟩
      show aOpN _ _ _ _ _ _
      rw [hgo]
      simp only [aAppN, hti, hti2, hxs, hkd, hte, hs]
      exact ⟨h0, h1, fun _ => by trivial, fun h => absurd hx h⟩
    · refine ⟨_, (h3 hx).2, rfl, fun hp' hsame => ?_⟩
      have := hsame.2 nu (.inl (by simp))
      show aOpN _ _ _ _ _ _
      rw [hgo]
      simp only [aAppN, hti, hti2, hxs, hkd, hte, hs]
      exact ⟨h0, h1, fun h => absurd h hx, fun _ => ⟨this.trans (h3 hx).1, by trivial⟩⟩
  · rename_i es hs
    obtain ⟨h1, h2, h3⟩ := h
    by_cases hx : xs = []
    · refine ⟨_, h2 hx, rfl, fun hp' _ => ?_⟩
      show aOpN _ _ _ _ _ _
      rw [hgo]
      simp only [aAppN, hti, hti2, hxs, hkd, hte, hs]
      exact ⟨h0, h1, fun _ => by trivial, fun h => absurd hx h⟩
    · refine ⟨_, (h3 hx).2, rfl, fun hp' hsame => ?_⟩
      have := hsame.2 nu (.inl (by simp))
      show aOpN _ _ _ _ _ _
      rw [hgo]
      simp only [aAppN, hti, hti2, hxs, hkd, hte, hs]
      exact ⟨h0, h1, fun h => absurd h hx, fun _ => ⟨this.trans (h3 hx).1, by trivial⟩⟩
  · rename_i l t' es hs
    obtain ⟨h1, h2⟩ := h
    refine ⟨_, h2, rfl, fun hp' hsame => ?_⟩
    have := hsame.2 l (.inl (by simp))
    show aOpN _ _ _ _ _ _
    rw [hgo]
    simp only [aAppN, hti, hti2, hxs, hkd, hte, hs, this]
    exact ⟨h0, h1, by trivial⟩
  · exact h.elim

def isNew : Op → Bool
  | .alloc _ => true
  | .box _ _ => true
  | .call ⟨.builtin .append, _, _⟩ => true
  | _ => false
theorem aOpN_plain {s : St} {op : Op} {K X : Eff → Prop} (h : isNew op = false) : aOpN P nu s op K X = aOpP P s op K X := by
  unfold aOpN
  split
  · cases h
  · cases h
  · cases h
  · rfl

theorem aOpP_local {op : Op} {K : Eff → Prop} (h : aOpP P ⟨f, hp⟩ op K X) (hn : isNew op = false) : LocP P f hp op K ∨ LocN (fun hp' X => aOpP P ⟨f, hp'⟩ op none_ X) hp X := by
  have e : ∀ hp', St.ev ⟨f, hp'⟩ = St.ev ⟨f, hp⟩ := fun hp' => funext fun x => ev_eq
  cases op
  case move x => exact .inl (loc_free h (det_one (v := St.ev ⟨f, hp⟩ x)) fun hp' => by funext K X; simp only [aOpP, aOp, aCall, e hp'])
  case assign x => exact .inl (loc_free h (det_one (v := St.ev ⟨f, hp⟩ x)) fun hp' => by funext K X; simp only [aOpP, aOp, aCall, e hp'])
  case pick c x y => exact .inl (loc_free h det_pick fun hp' => by funext K X; simp only [aOpP, aOp, aCall, e hp'])
  case alloc t => cases hn
  case box t x => cases hn
  case build t ps => exact .inl (loc_free h det_build fun hp' => by funext K X; simp only [aOpP, aOp, aCall, e hp'])
  case buildSlice t n ps => exact .inl (loc_free h det_buildSlice fun hp' => by funext K X; simp only [aOpP, aOp, aCall, e hp'])
  case load t x => exact .inl (loc_load h)
  case store t x y => exact .inl (loc_store h)
  case nilCheck x => exact .inl (loc_free h (det_and (det_one (v := St.ev ⟨f, hp⟩ x))) fun hp' => by funext K X; simp only [aOpP, aOp, aCall, e hp'])
  case binOp op t x y yt => exact .inl (loc_free h (det_v det_bin) fun hp' => by funext K X; simp only [aOpP, aOp, aCall, e hp'])
  case unOp op t x => exact .inl (loc_free h (det_v det_un) fun hp' => by funext K X; simp only [aOpP, aOp, aCall, e hp'])
  case convert a b x => exact .inl (loc_free h det_conv fun hp' => by funext K X; simp only [aOpP, aOp, aCall, e hp'])
  case makeInterface t x => exact .inl (loc_free h (det_and (det_one (v := .iface t (St.ev ⟨f, hp⟩ x)))) fun hp' => by funext K X; simp only [aOpP, aOp, aCall, e hp'])
  case slice t x lo hi mx =>
    exact .inl (loc_free h det_slice fun hp' => by funext K X; simp only [aOpP, aOp, aCall, e hp'])
  case fieldAddr t x i => exact .inl (loc_free h det_fieldAddr fun hp' => by funext K X; simp only [aOpP, aOp, aCall, e hp'])
  case field t x i => exact .inl (loc_free h det_field fun hp' => by funext K X; simp only [aOpP, aOp, aCall, e hp'])
  case indexAddr t x i => exact .inl (loc_free h det_indexAddr fun hp' => by funext K X; simp only [aOpP, aOp, aCall, e hp'])
  case index t x i => exact .inl (loc_free h det_index fun hp' => by funext K X; simp only [aOpP, aOp, aCall, e hp'])
  case extract x i => exact .inl (loc_free h det_extract fun hp' => by funext K X; simp only [aOpP, aOp, aCall, e hp'])
  case typeAssert x xT to ok => exact .inl (loc_free h det_ta fun hp' => by funext K X; simp only [aOpP, aOp, aCall, e hp'])
  case makeFunc fn first cs =>
    cases fn with
    | func g =>
      exact .inl (loc_free h (det_and (c := first.size = 0) (det_one (v := .func g (cs.toList.map (St.ev ⟨f, hp⟩))))) fun hp' => by funext K X; simp only [aOpP, aOp, aCall, e hp'])
    | _ => exact h.elim
  case call c =>
    obtain ⟨callee, args, ts⟩ := c
    have e : ∀ hp', St.ev ⟨f, hp'⟩ = St.ev ⟨f, hp⟩ := fun hp' => funext fun x => ev_eq
    cases callee with
    | builtin b =>
      have hcp : b ≠ .copy := fun hb => by subst hb; exact h
      have h' : aOpP P ⟨f, hp⟩ (.call ⟨.builtin b, args, ts⟩) K none_ := by cases b <;> first | exact h | exact absurd rfl hcp
      replace h : aCall P ⟨f, hp⟩ ⟨.builtin b, args, ts⟩ K X := by cases b <;> first | exact h | exact absurd rfl hcp
      simp only [aCall] at h
      split at h
      · rename_i x t ha ht
        have ha := Array.toList_inj.1 (ha.trans (List.toList_toArray ..).symm)
        have ht := Array.toList_inj.1 (ht.trans (List.toList_toArray ..).symm)
        subst ha ht
        exact .inl (loc_free h' det_len fun hp' => by funext K X; simp only [aOpP, aOp, aCall, e hp'])
      · rename_i x y t u ha ht
        have ha := Array.toList_inj.1 (ha.trans (List.toList_toArray ..).symm)
        have ht := Array.toList_inj.1 (ht.trans (List.toList_toArray ..).symm)
        subst ha ht
        cases hn
      · exact absurd rfl hcp
      · rename_i x y ha
        have ha := Array.toList_inj.1 (ha.trans (List.toList_toArray ..).symm)
        subst ha
        exact .inl (loc_free h' det_min fun hp' => by funext K X; simp only [aOpP, aOp, aCall, e hp'])
      · rename_i x y ha
        have ha := Array.toList_inj.1 (ha.trans (List.toList_toArray ..).symm)
        subst ha
        exact .inl (loc_free h' det_max fun hp' => by funext K X; simp only [aOpP, aOp, aCall, e hp'])
      · exact h.elim
    | value g =>
      simp only [aOpP] at h
      split at h
      · rename_i k cs hg
        obtain ⟨h1, h⟩ := h
        rcases h with ⟨out, h2, h3⟩ | ⟨rs, out, L', h2, ⟨h3, h4, h5⟩, h6⟩
        · cases out with
          | ret r =>
            refine .inl ⟨_, h3, rfl, fun hp' _ => ?_⟩
            simp only [aOpP, e hp', hg]
            exact ⟨h1, .inl ⟨.ret r, h2, by trivial⟩⟩
          | pan r =>
            refine .inr ⟨_, h3, rfl, fun hp' _ => ?_⟩
            simp only [aOpP, e hp', hg]
            exact ⟨h1, .inl ⟨.pan r, h2, by trivial⟩⟩
        · have hsame : ∀ (v : PV) (st : List (Nat × AObj)) hp', Same hp hp' { v := v, set := st, rd := rs } → hp'.length = hp.length ∧ handed hp' rs = handed hp rs ∧ (∀ l ∈ rs, l < hp'.length ∧ hp'[l]? ≠ some .dead) := fun v st hp' hs => by
            refine ⟨hs.1, List.map_congr_left fun l hl => ?_, fun l hl => ?_⟩
            · rw [List.getD_eq_getElem?_getD, List.getD_eq_getElem?_getD, hs.2 l (.inl hl)]
            · rw [hs.1, hs.2 l (.inl hl)]; exact h4 l hl
          cases out with
          | ret r =>
            refine .inl ⟨_, h6, rfl, fun hp' hs => ?_⟩
            obtain ⟨e1, e2, e3⟩ := hsame _ _ hp' hs
            simp only [aOpP, e hp', hg]
            exact ⟨h1, .inr ⟨rs, .ret r, L', by rw [e2]; exact h2, ⟨h3, e3, h5⟩, by rw [e1]⟩⟩
          | pan r =>
            refine .inr ⟨_, h6, rfl, fun hp' hs => ?_⟩
            obtain ⟨e1, e2, e3⟩ := hsame _ _ hp' hs
            simp only [aOpP, e hp', hg]
            exact ⟨h1, .inr ⟨rs, .pan r, L', by rw [e2]; exact h2, ⟨h3, e3, h5⟩, by rw [e1]⟩⟩
      · exact h.elim
    | invoke r m => simp only [aOpP, aOp, aCall] at h
  case panic x =>
    simp only [aOpP, aOp] at h
    split at h
    · rename_i t v hx
      refine .inr ⟨_, h, rfl, fun hp' _ => ?_⟩
      simp only [aOpP, aOp, e hp', hx]
    · exact h.elim
  all_goals exact h.elim

theorem aOpN_local {op : Op} {K : Eff → Prop} (h : aOpN P nu ⟨f, hp⟩ op K X) : Loc P nu f hp op K X := by
  cases hn : isNew op with
  | false =>
    rw [aOpN_plain hn] at h
    rcases aOpP_local h hn with ⟨e, a, b, c⟩ | ⟨e, a, b, c⟩
    · exact .inl ⟨e, a, b, fun hp' hs => by show aOpN _ _ _ _ _ _; rw [aOpN_plain hn]; exact c hp' hs⟩
    · exact .inr ⟨e, a, b, fun hp' hs => by show aOpN _ _ _ _ _ _; rw [aOpN_plain hn]; exact c hp' hs⟩
  | true =>
    refine .inl ?_
    unfold isNew at hn
    split at hn
    · rename_i t
      simp only [aOpN] at h
      split at h
      · rename_i ti hti
        refine ⟨_, h.2.2, rfl, fun hp' hs => ?_⟩
        have := hs.2 nu (.inl (by simp))
        simp only [aOpN, hti]
        exact ⟨h.1, this.trans h.2.1, by trivial⟩
      · exact h.elim
    · rename_i t x
      refine ⟨_, h.2.2, rfl, fun hp' hs => ?_⟩
      have := hs.2 nu (.inl (by simp))
      simp only [aOpN, ev_eq (hp := hp') (hp' := hp)]
      exact ⟨h.1, this.trans h.2.1, by trivial⟩
    · rename_i args ts
      have h' := h
      simp only [aOpN] at h
      split at h
      · rename_i x y t u ha ht
        have ha := Array.toList_inj.1 (ha.trans (List.toList_toArray ..).symm)
        have ht := Array.toList_inj.1 (ht.trans (List.toList_toArray ..).symm)
        subst ha ht
        exact loc_append h'
      · exact h.elim
    · cases hn

theorem aOpN_congr {f f' : Nat → PV} {hp : List AObj} {op : Op} {K X : Eff → Prop} (h : ∀ x ∈ op.operands, St.ev ⟨f, hp⟩ x = St.ev ⟨f', hp⟩ x) : aOpN P nu ⟨f, hp⟩ op K X = aOpN P nu ⟨f', hp⟩ op K X := by
  unfold aOpN
  split
  · rfl
  · simp only [Op.operands] at h
    rw [h _ (by simp)]
  · rename_i args ts
    simp only [Op.operands, Call.operands] at h
    split
    · rename_i x y t u ha ht
      rw [h x (by have : x ∈ args.toList := by rw [ha]; simp
                  simpa using this), h y (by have : y ∈ args.toList := by rw [ha]; simp
                                             simpa using this)]
    · rfl
  · exact aOpP_congr h
end
end Go.Proofs.YtlfngjemfpjegaaDoor.Px
