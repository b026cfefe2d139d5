/- The abstract machine (Px): what an operation does hangs on what it reads alone. -/
import Derived.Test.YtlfngjemfpjegaaDoorPxO
namespace Go.Proofs.YtlfngjemfpjegaaDoor.Px
open Go Go.RowKit
set_option linter.unusedVariables false
set_option linter.unusedSimpArgs false

def Eff.free (e : Eff) : Prop := e.set = [] ∧ e.new = [] ∧ e.rd = []
/-- The operation has one effect, and touches no object. -/
def Det (F : (Eff → Prop) → Prop) : Prop := ∀ K, F K → ∃ e : Eff, K e ∧ e.free ∧ F fun x => x = e
def DetV (F : (PV → Prop) → Prop) : Prop := ∀ K, F K → ∃ v : PV, K v ∧ F fun x => x = v

section
variable {P : Program}
theorem det_field {t : TypeId} {i : Nat} {x : PV} : Det (aField P t i x) := by
  intro K h
  unfold aField at h ⊢
  repeat' split at h
  all_goals first
    | exact h.elim
    | exact ⟨_, h.2, ⟨rfl, rfl, rfl⟩, by simp only [*, and_self, true_and, exists_eq_left']⟩
theorem det_fieldAddr {t : TypeId} {i : Nat} {x : PV} : Det (aFieldAddr P t i x) := by
  intro K h
  unfold aFieldAddr at h ⊢
  repeat' split at h
  all_goals first
    | exact h.elim
    | exact ⟨_, h.2, ⟨rfl, rfl, rfl⟩, by simp only [*, and_self, true_and, exists_eq_left']⟩
    | exact ⟨_, h, ⟨rfl, rfl, rfl⟩, by simp only [*, and_self, true_and, exists_eq_left']⟩
theorem det_indexAddr {t : TypeId} {i x : PV} : Det (aIndexAddr P t x i) := by
  intro K h
  unfold aIndexAddr at h ⊢
  repeat' split at h
  all_goals first
    | exact h.elim
    | exact ⟨_, h.2.2, ⟨rfl, rfl, rfl⟩, by simp only [*, and_self, true_and, exists_eq_left']⟩
    | exact ⟨_, h.2, ⟨rfl, rfl, rfl⟩, by simp only [*, and_self, true_and, exists_eq_left']⟩
theorem det_index {t : TypeId} {i x : PV} : Det (aIndex P t x i) := by
  intro K h
  unfold aIndex at h ⊢
  split at h
  · exact ⟨_, h.2.2, ⟨rfl, rfl, rfl⟩, by simp only [*, and_self, true_and, exists_eq_left']⟩
  · exact h.elim
theorem det_slice {t : TypeId} {x : PV} {lo hi mx : Option PV} : Det (aSlice P t x lo hi mx) := by
  intro K h
  unfold aSlice at h ⊢
  split at h
  case h_2 => exact h.elim
  split at h
  all_goals first | exact h.elim | skip
  all_goals split at h
  all_goals first
    | exact h.elim
    | exact ⟨_, h.2.2.2, ⟨rfl, rfl, rfl⟩, h.1, h.2.1, h.2.2.1, rfl⟩
    | exact ⟨_, h.2.2, ⟨rfl, rfl, rfl⟩, h.1, h.2.1, rfl⟩
    | exact ⟨_, h.2, ⟨rfl, rfl, rfl⟩, h.1, rfl⟩
theorem det_conv {a b : TypeId} {x : PV} : Det (aConv P a b x) := by
  intro K h
  unfold aConv at h ⊢
  repeat' split at h
  all_goals first
    | exact h.elim
    | (obtain ⟨h1, l, h2, h3⟩ := h; exact ⟨_, h3, ⟨rfl, rfl, rfl⟩, h1, l, h2, rfl⟩)
    | exact ⟨_, h.2, ⟨rfl, rfl, rfl⟩, by simp only [*, and_self, true_and, exists_eq_left']⟩
    | exact ⟨_, h, ⟨rfl, rfl, rfl⟩, by simp only [*, and_self, true_and, exists_eq_left']⟩
theorem det_len {t : TypeId} {x : PV} : Det (aLen P t x) := by
  intro K h
  unfold aLen at h ⊢
  repeat' split at h
  all_goals first
    | exact h.elim
    | exact ⟨_, h, ⟨rfl, rfl, rfl⟩, by simp only [*, and_self, true_and, exists_eq_left']⟩
theorem det_min {x y : PV} : Det (aMin x y) := by
  intro K h
  unfold aMin at h ⊢
  split at h
  · exact ⟨_, h, ⟨rfl, rfl, rfl⟩, rfl⟩
  · exact h.elim
theorem det_max {x y : PV} : Det (aMax x y) := by
  intro K h
  unfold aMax at h ⊢
  split at h
  · exact ⟨_, h, ⟨rfl, rfl, rfl⟩, rfl⟩
  · exact h.elim
theorem det_extract {x : PV} {i : Nat} : Det (aExtract x i) := by
  intro K h
  unfold aExtract at h ⊢
  repeat' split at h
  all_goals first
    | exact h.elim
    | exact ⟨_, h, ⟨rfl, rfl, rfl⟩, by simp only [*, and_self, true_and, exists_eq_left']⟩
theorem det_ta {to : TypeId} {ok : Bool} {x : PV} : Det (aTA P to ok x) := by
  intro K h
  unfold aTA at h ⊢
  cases ok <;> simp only [if_true, Bool.false_eq_true, if_false] at h ⊢ <;> repeat' split at h
  all_goals first
    | exact h.elim
    | exact ⟨_, h, ⟨rfl, rfl, rfl⟩, by simp only [*, and_self, true_and, exists_eq_left', if_true, if_false]⟩
    | exact ⟨_, h, ⟨rfl, rfl, rfl⟩, by simp [*]⟩
theorem det_pick {c x y : PV} : Det (aPick c x y) := by
  intro K h
  unfold aPick at h ⊢
  repeat' split at h
  all_goals first
    | exact h.elim
    | exact ⟨_, h, ⟨rfl, rfl, rfl⟩, by simp only [*, and_self, true_and, exists_eq_left']⟩
theorem det_build {t : TypeId} {ps : List (Nat × PV)} : Det (aBuild P t ps) := by
  intro K h
  unfold aBuild at h ⊢
  repeat' split at h
  all_goals first
    | exact h.elim
    | (obtain ⟨h1, cs, h2, h3⟩ := h; exact ⟨_, h3, ⟨rfl, rfl, rfl⟩, h1, cs, h2, rfl⟩)
theorem det_buildSlice {t : TypeId} {n : Nat} {ps : List (Nat × PV)} : Det (aBuildSlice P t n ps) := by
  intro K h
  unfold aBuildSlice at h ⊢
  split at h
  · split at h
    · split at h
      · obtain ⟨h1, h2, h3, h4⟩ := h
        split at h4
        · exact ⟨_, h4, ⟨rfl, rfl, rfl⟩, h1, h2, h3, rfl⟩
        · exact ⟨_, h4, ⟨rfl, rfl, rfl⟩, h1, h2, h3, rfl⟩
      · exact h.elim
    · exact h.elim
  · exact h.elim
theorem det_un {op : UnOp} {x : PV} : DetV (aUn op x) := by
  intro K h
  unfold aUn at h ⊢
  split at h
  · exact ⟨_, h, rfl⟩
  · exact ⟨_, h, rfl⟩
  · exact h.elim
theorem det_int {op : BinOp} {k : IntKind} {a b : Int} : DetV (aInt op k a b) := by
  intro K h
  cases op <;> simp only [aInt] at h ⊢ <;> first | exact h.elim | exact ⟨_, h, rfl⟩ | exact ⟨_, h.2, h.1, rfl⟩
theorem det_shift {op : BinOp} {k : IntKind} {a b : Int} : DetV (aShift op k a b) := by
  intro K h
  cases op <;> simp only [aShift] at h ⊢ <;> first | exact h.elim | exact ⟨_, h, rfl⟩ | exact ⟨_, h.2, h.1, rfl⟩
theorem det_str {op : BinOp} {a b : ByteArray} : DetV (aStr op a b) := by
  intro K h
  cases op <;> simp only [aStr] at h ⊢ <;> first | exact h.elim | exact ⟨_, h, rfl⟩ | exact ⟨_, h.2, h.1, rfl⟩
theorem det_bin {op : BinOp} {t : TypeId} {x y : PV} : DetV (aBin P op t x y) := by
  intro K h
  unfold aBin at h ⊢
  split at h
  · split at h
    · exact det_shift _ h
    · exact det_shift _ h
    · rename_i h1 h2
      obtain ⟨e, h⟩ := h
      obtain ⟨v, a, b⟩ := det_int _ h
      refine ⟨v, a, ?_⟩
      cases op <;> first | exact ⟨e, b⟩ | exact absurd rfl h1 | exact absurd rfl h2
  · exact det_str _ h
  all_goals first
    | exact h.elim
    | (obtain ⟨h1, h⟩ := h; cases op <;> simp only at h <;> first | exact h.elim | exact ⟨_, h, h1, rfl⟩)
    | (obtain ⟨ks, c, h1, h2, h⟩ := h; cases op <;> simp only at h <;> first | exact h.elim | exact ⟨_, h, ks, c, h1, h2, rfl⟩)

/-- In a region that draws its order: a call leaves no new object behind. -/
def aFunD (P : Program) (hp : List AObj) (g : FuncId) (args : List PV) (K X : Eff → Prop) : Prop :=
  isFn P g = true ∧
  ((∃ out, PSpec P g (args.map PV.bare) out ∧ (match out with | .ret r => K { v := r } | .pan r => X { v := r })) ∨
   (∃ rs out L', ISpec P g (args.map (PV.imp false rs.idxOf?)) (handed hp rs) out L' ∧ (rs.Nodup ∧ (∀ l ∈ rs, l < hp.length ∧ hp[l]? ≠ some .dead) ∧ L'.length = rs.length) ∧
      (match out with
        | .ret r => K { v := r.ren (backN hp.length rs), set := backSet (backN hp.length rs) rs L', rd := rs }
        | .pan r => X { v := r.ren (backN hp.length rs), set := backSet (backN hp.length rs) rs L', rd := rs })))
def aOpP (P : Program) (s : St) (op : Op) (K X : Eff → Prop) : Prop :=
  match op with
  | .call ⟨.value f, args, _⟩ => match s.ev f with
    | .func g cs => aFunD P s.hp g (args.toList.map s.ev ++ cs) K X
    | _ => False
  | .call ⟨.builtin .copy, _, _⟩ => False
  | .makeSlice _ _ _ => False
  | op => aOp P s op K X

theorem aFunD_aFun {hp : List AObj} {g : FuncId} {args : List PV} {K X : Eff → Prop} (h : aFunD P hp g args K X) : aFun P hp g args K X := by
  obtain ⟨h1, h⟩ := h
  rcases h with ⟨out, h2, h3⟩ | ⟨rs, out, L', h2, ⟨h3, h4, h5⟩, h6⟩
  · refine ⟨h1, .inl ⟨out, h2, ?_⟩⟩
    cases out with
    | ret r => exact fun _ => h3
    | pan r => exact h3
  · refine ⟨h1, .inr ⟨rs, out, L', h2, ⟨h3, h4, by omega⟩, ?_⟩⟩
    have e : backNew (backN hp.length rs) rs.length L' = [] := by simp [backNew, h5]
    cases out with
    | ret r => rw [e]; exact fun _ => h6
    | pan r => rw [e]; exact h6

theorem aOpP_aOp {s : St} {op : Op} {K X : Eff → Prop} (h : aOpP P s op K X) : aOp P s op K X := by
  unfold aOpP at h
  split at h
  · split at h
    · rename_i hf
      simp only [aOp, aCall, hf]
      exact aFunD_aFun h
    · exact h.elim
  · exact h.elim
  · exact h.elim
  · exact h

theorem ev_eq {f : Nat → PV} {hp hp' : List AObj} {x : Operand} : St.ev ⟨f, hp⟩ x = St.ev ⟨f, hp'⟩ x := by cases x <;> rfl

theorem aCall_congr {f f' : Nat → PV} {hp : List AObj} {c : Call} {K X : Eff → Prop} (h : ∀ x ∈ c.operands, St.ev ⟨f, hp⟩ x = St.ev ⟨f', hp⟩ x) : aCall P ⟨f, hp⟩ c K X = aCall P ⟨f', hp⟩ c K X := by
  obtain ⟨callee, args, ts⟩ := c
  unfold aCall
  cases callee with
  | builtin b =>
    simp only [Call.operands] at h
    simp only
    split <;> first | rfl | (rename_i ha ht; have ha := Array.toList_inj.1 (ha.trans (List.toList_toArray ..).symm); subst ha; simp [h]) | (rename_i ha; have ha := Array.toList_inj.1 (ha.trans (List.toList_toArray ..).symm); subst ha; simp [h])
  | value g =>
    simp only [Call.operands] at h
    have hg := h g (by simp)
    have ha : args.toList.map (St.ev ⟨f, hp⟩) = args.toList.map (St.ev ⟨f', hp⟩) := List.map_congr_left fun x hx => h x (by simp at hx ⊢; exact .inr hx)
    simp only [hg, ha]
  | invoke r m => rfl

theorem aOp_congr {f f' : Nat → PV} {hp : List AObj} {op : Op} {K X : Eff → Prop} (h : ∀ x ∈ op.operands, St.ev ⟨f, hp⟩ x = St.ev ⟨f', hp⟩ x) : aOp P ⟨f, hp⟩ op K X = aOp P ⟨f', hp⟩ op K X := by
  cases op <;> simp only [Op.operands] at h <;> simp only [aOp]
  case call c => exact aCall_congr h
  case build t ps => rw [List.map_congr_left (l := ps.toList) fun x hx => by rw [h x.2 (by simp; exact ⟨x.1, by simpa using hx⟩)]]
  case buildSlice t n ps => rw [List.map_congr_left (l := ps.toList) fun x hx => by rw [h x.2 (by simp; exact ⟨x.1, by simpa using hx⟩)]]
  case makeFunc fn first cs =>
    have : cs.toList.map (St.ev ⟨f, hp⟩) = cs.toList.map (St.ev ⟨f', hp⟩) := List.map_congr_left fun x hx => h x (by simp at hx ⊢; exact .inr hx)
    simp only [this]
  case slice t x lo hi mx => cases lo <;> cases hi <;> cases mx <;> simp_all
  all_goals first | rfl | (simp_all; done)

theorem aOpP_congr {f f' : Nat → PV} {hp : List AObj} {op : Op} {K X : Eff → Prop} (h : ∀ x ∈ op.operands, St.ev ⟨f, hp⟩ x = St.ev ⟨f', hp⟩ x) : aOpP P ⟨f, hp⟩ op K X = aOpP P ⟨f', hp⟩ op K X := by
  unfold aOpP
  split
  · rename_i g args ts
    simp only [Op.operands, Call.operands] at h
    have hg := h g (by simp)
    have ha : args.toList.map (St.ev ⟨f, hp⟩) = args.toList.map (St.ev ⟨f', hp⟩) := List.map_congr_left fun x hx => h x (by simp at hx ⊢; exact .inr hx)
    simp only [hg, ha]
  · rfl
  · rfl
  · exact aOp_congr h
end
end Go.Proofs.YtlfngjemfpjegaaDoor.Px
