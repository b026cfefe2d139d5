/- The abstract machine (Px): code, stripped of places and edges; its runs over abstract states; they are sound. -/
import Derived.Test.YtlfngjemfpjegaaDoorPxS
namespace Go.Proofs.YtlfngjemfpjegaaDoor.Px
open Go Go.RowKit
set_option linter.unusedVariables false
set_option linter.unnecessarySimpa false
set_option linter.unusedSimpArgs false

inductive XCode where
  | skip
  | reg (ops : List XO)
  /-- A region that draws its order: what each operation waits for. -/
  | dreg (ops : List XO) (deps : List (List Nat))
  | seq (x y : XCode)
  | cond (c : Operand) (x y : XCode)
  | block (id : Nat) (c : XCode)
  | loop (c : XCode)
  | exit (id : Nat)
  | ret
  /-- A place where the state may be weakened. -/
  | cut (c : XCode)

def strip : Code → Option XCode
  | .skip => some .skip
  | .region _ ops false => (ops.toList.mapM (stripOp ops)).map .reg
  | .region _ ops true => (ops.toList.mapM (stripOp ops)).map fun xs => .dreg xs (ops.toList.map depsOf)
  | .seq a b => match strip a, strip b with
    | some x, some y => some (.seq x y)
    | _, _ => none
  | .cond c a b => match strip a, strip b with
    | some x, some y => some (.cond c x y)
    | _, _ => none
  | .block id a => (strip a).map (.block id)
  | .loop a => (strip a).map .loop
  | .exit id => some (.exit id)
  | .ret => some .ret
  | _ => none
def XO.plain (x : XO) : XO := { x with own := false }
def erase : XCode → XCode
  | .reg ops => .reg (ops.map XO.plain)
  | .seq x y => .seq (erase x) (erase y)
  | .cond c x y => .cond c (erase x) (erase y)
  | .block id c => .block id (erase c)
  | .loop c => .loop (erase c)
  | .cut c => erase c
  | c => c
/-- Every slot that is set lies below N. -/
def okd (N : Nat) : XCode → Bool
  | .reg ops => ops.all fun o => match o.d with
    | some d => d < N
    | none => true
  | .dreg ops _ => ops.all fun o => match o.d with
    | some d => d < N
    | none => true
  | .seq x y => okd N x && okd N y
  | .cond _ x y => okd N x && okd N y
  | .block _ c => okd N c
  | .loop c => okd N c
  | .cut c => okd N c
  | _ => true

inductive XExit where
  | normal
  | exit (id : Nat)
  | ret
  | pan (v : PV)

/-- s may be taken for s': m objects were there when the function began. -/
def Wk (m N : Nat) (s s' : XS) : Prop :=
  ∀ D G a w, RX N D G s a w → ∃ G', RX N D G' s' a w ∧
    ∀ G0 w0, (∀ l B, G0.σ l = some B → l < m) → (∀ l e x, G0.H l e = some x → l < m) → Ev G0 w0 G w → Ev G0 w0 G' w
theorem Wk.refl (m N : Nat) (s : XS) : Wk m N s s := fun D G a w h => ⟨G, h, fun _ _ _ _ h => h⟩
theorem Wk.trans {m N : Nat} {s s' s'' : XS} (h : Wk m N s s') (k : Wk m N s' s'') : Wk m N s s'' := fun D G a w hr =>
  let ⟨G', h1, h2⟩ := h D G a w hr
  let ⟨G'', h3, h4⟩ := k D G' a w h1
  ⟨G'', h3, fun G0 w0 a1 a2 a3 => h4 G0 w0 a1 a2 (h2 G0 w0 a1 a2 a3)⟩

def aOps (P : Program) : List XO → (XExit → XS → Prop) → XS → Prop
  | [], K, s => K .normal s
  | ⟨d, none, op, ow⟩ :: r, K, s => aOpO P ow s.st op (fun e => aOps P r K (s.go d e)) (fun e => K (.pan e.v) ⟨s.l, after s.hp e⟩)
  | ⟨d, some (t, b), op, ow⟩ :: r, K, s => match look s.l t with
    | .bool c => if c = b then aOpO P ow s.st op (fun e => aOps P r K (s.go d e)) (fun e => K (.pan e.v) ⟨s.l, after s.hp e⟩) else aOps P r K (s.put d (.tuple []))
    | .tuple [] => aOps P r K (s.put d (.tuple []))
    | _ => False

def aw (P : Program) (m N : Nat) : XCode → (XExit → XS → Prop) → XS → Prop
  | .skip, K, s => K .normal s
  | .reg ops, K, s => aOps P ops K s
  | .dreg ops deps, K, s => aD P (fun tr s' => chkX deps (ops.zip tr) = true ∧ K .normal s') (fun tr e s' => chkP deps ops tr = true ∧ K (.pan e.v) ⟨[], after s'.hp e⟩) s.hp.length ops [] ⟨s.l, s.hp ++ List.replicate (ops.filter fun x => isNew x.op).length .hole⟩
  | .seq x y, K, s => aw P m N x (fun e s' => match e with
      | .normal => aw P m N y K s'
      | e => K e s') s
  | .cond c x y, K, s => match s.st.ev c with
    | .bool b => if b = true then aw P m N x K s else aw P m N y K s
    | _ => False
  | .block id c, K, s => aw P m N c (fun e s' => match e with
      | .exit i => if i = id then K .normal s' else K (.exit i) s'
      | e => K e s') s
  | .loop c, K, s => ∃ (α : Type) (sI : α → XS) (μ : α → Nat) (x0 : α), Wk m N s (sI x0) ∧
      ∀ x, aw P m N c (fun e s' => match e with
        | .normal => ∃ y, Wk m N s' (sI y) ∧ μ y < μ x
        | e => K e s') (sI x)
  | .exit id, K, s => K (.exit id) s
  | .ret, K, s => K .ret s
  | .cut c, K, s => (∀ t, (look s.l t).bd) → ∃ s', Wk m N s s' ∧ aw P m N c K s'

def ExRel (G : Gh) (w : World) : XExit → Exit → Prop
  | .normal, .normal => True
  | .exit i, .exit j => i = j
  | .ret, .ret => True
  | .pan p, .panic c => ∃ v, c = [{ v, recovered := false }] ∧ V G w p v
  | _, _ => False

section
variable {P : Program} {m N : Nat} {D : List Deferred}

/-- What the rest of a walk has to bear. -/
def Next (D : List Deferred) (m N : Nat) (G0 : Gh) (w0 : World) (K : XExit → XS → Prop) (Q : Exit → Act → World → Prop) : Prop :=
  ∀ e s ee a w G, K e s → ExRel G w e ee → RX N D G s a w → Ev G0 w0 G w → Q ee a w

theorem one_sound {s : XS} {G G0 : Gh} {a : Act} {w w0 : World} {o : Oper} {K : XExit → XS → Prop} {k : Eff → Prop} {next : Act → World → Prop} {Q : Exit → Act → World → Prop}
    {own : Bool} (h : aOpO P own s.st o.op k fun e => K (.pan e.v) ⟨s.l, after s.hp e⟩) (hd : (match o.dst with | some d => decide (d < N) | none => true) = true) (hR : RX N D G s a w) (hE : Ev G0 w0 G w)
    (hk : ∀ e a' w' G', k e → RX N D G' (s.go o.dst e) a' w' → Ev G0 w0 G' w' → next a' w') (hK : Next D m N G0 w0 K Q) : o.wp P a w next Q := by
  refine sound_opO h hR.rs (fun e v w' G' he hv hR' hE' => ?_) (fun e v w' G' he hv hR' hE' => ?_)
  · exact hk e _ w' G' he (hR.go hd hv hR' hE') (hE.trans hE')
  · exact hK _ _ _ a w' G' he ⟨v, rfl, hv⟩ (hR.go (d := none) rfl hv hR' hE') (hE.trans hE')

theorem aOps_sound {ops : Array Oper} {K : XExit → XS → Prop} {Q : Exit → Act → World → Prop} {G0 : Gh} {w0 : World} (hK : Next D m N G0 w0 K Q) :
    ∀ (xs : List XO) (is : List Nat), (is.mapM fun i => (ops[i]?).bind (stripOp ops)) = some (xs.map XO.plain) → (xs.all fun o => match o.d with | some d => decide (d < N) | none => true) = true →
      ∀ (s : XS) (G : Gh) (a : Act) (w : World), aOps P xs K s → RX N D G s a w → Ev G0 w0 G w → wpOps P ops Q is a w := by
  intro xs
  induction xs with
  | nil =>
    intro is his _ s G a w h hR hE
    have : is = [] := by
      cases is with
      | nil => rfl
      | cons i r => simp [List.mapM_cons, Option.bind_eq_some_iff] at his
    subst this
    exact hK .normal s .normal a w G h trivial hR hE
  | cons x xs ih =>
    intro is his hd s G a w h hR hE
    cases is with
    | nil => simp at his
    | cons i r =>
      rw [List.map_cons] at his
      obtain ⟨xd, xg, xop, xow⟩ := x
      generalize hx0 : XO.plain ⟨xd, xg, xop, xow⟩ = x0 at his
      generalize hxs0 : xs.map XO.plain = xs0 at his
      simp only [List.mapM_cons, Option.bind_eq_bind, Option.bind_eq_some_iff, Option.pure_def, Option.some.injEq, List.cons.injEq] at his
      obtain ⟨x', ⟨o, ho, hx⟩, xs', hxs, h1, h2⟩ := his
      subst h1; subst h2; subst hx0; subst hxs0
      simp only [XO.plain] at hx
      simp only [List.all_cons, Bool.and_eq_true] at hd
      have hi := ih r hxs hd.2
      simp only [wpOps, ho]
      have hgo : ∀ {k : Eff → Prop}, (∀ e, k e → aOps P xs K (s.go o.dst e)) → ∀ e a' w' G', k e → RX N D G' (s.go o.dst e) a' w' → Ev G0 w0 G' w' → wpOps P ops Q r a' w' :=
        fun hk e a' w' G' he h1 h2 => hi _ _ _ _ (hk e he) h1 h2
      unfold stripOp at hx
      split at hx
      · rename_i hg
        injection hx with hx
        injection hx with e1 e2 e3 e4
        subst e1; subst e2; subst e3
        rw [show Region.wanted o (yielded ops a.tmps) = true by simp [Region.wanted, hg], if_pos rfl]
        exact .inl (one_sound (m := m) h hd.1 hR hE (hgo fun _ he => he) hK)
      · rename_i j b hg
        split at hx
        · rename_i t ht
          injection hx with hx
          injection hx with e1 e2 e3 e4
          subst e1; subst e2; subst e3
          simp only [aOps] at h
          have htv := hR.rs.tm t
          have hskip : aOps P xs K (s.put o.dst (.tuple [])) → wpOps P ops Q r (a.put o.dst undef) w := fun h => hi _ _ _ _ h (put_hp (s := s) ▸ hR.go hd.1 (p := .tuple []) (v := undef) (.tuple [] #[] rfl fun i h1 => by simp at h1) (hp := s.hp) hR.rs.hp (.refl _ _)) hE
          split at h
          · rename_i c hc
            have e1 : a.tmps.getD t undef = .bool c := by
              have : s.st.tm t = .bool c := hc
              rw [this] at htv
              generalize a.tmps.getD t undef = u at htv
              cases htv; rfl
            have e2 : Region.wanted o (yielded ops a.tmps) = (some c == some b) := by simp only [Region.wanted, hg, yielded_of ht e1]
            rw [e2]
            split at h
            · rename_i hcb
              subst hcb
              rw [if_pos (by simp)]
              exact .inl (one_sound (m := m) h hd.1 hR hE (hgo fun _ he => he) hK)
            · rename_i hcb
              rw [if_neg (by simpa using hcb)]
              exact hskip h
          · rename_i hc
            have e1 : a.tmps.getD t undef = .tuple #[] := by
              have : s.st.tm t = .tuple [] := hc
              rw [this] at htv
              generalize a.tmps.getD t undef = u at htv
              cases htv with
              | tuple _ vs hl _ => simp only [List.length_nil] at hl; rw [Array.eq_empty_of_size_eq_zero hl]
            have e2 : Region.wanted o (yielded ops a.tmps) = false := by simp only [Region.wanted, hg, yielded_undef ht e1]; rfl
            rw [e2, if_neg (by simp)]
            exact hskip h
          · exact h.elim
        · cases hx

theorem strip_skip {c : Code} (h : strip c = some .skip) : c = .skip := by
  unfold strip at h
  split at h <;> first | rfl | (simp at h; done) | (split at h <;> simp at h)
theorem strip_exit {c : Code} {id : Nat} (h : strip c = some (.exit id)) : c = .exit id := by
  unfold strip at h
  split at h <;> first | (simp at h; subst h; rfl) | (simp at h; done) | (split at h <;> simp at h)
theorem strip_ret {c : Code} (h : strip c = some .ret) : c = .ret := by
  unfold strip at h
  split at h <;> first | rfl | (simp at h; done) | (split at h <;> simp at h)
theorem strip_reg {c : Code} {xs : List XO} (h : strip c = some (.reg xs)) : ∃ id ops, c = .region id ops false ∧ ops.toList.mapM (stripOp ops) = some xs := by
  unfold strip at h
  split at h <;> first | (simp at h; done) | (split at h <;> simp at h; done) | (simp at h; exact ⟨_, _, rfl, h⟩)
theorem strip_dreg {c : Code} {xs : List XO} {deps : List (List Nat)} (h : strip c = some (.dreg xs deps)) : ∃ id ops, c = .region id ops true ∧ ops.toList.mapM (stripOp ops) = some xs ∧ deps = ops.toList.map depsOf := by
  unfold strip at h
  split at h
  case h_3 => obtain ⟨y, h1, h2⟩ := Option.map_eq_some_iff.1 h; injection h2 with h2 h3; subst h2; exact ⟨_, _, rfl, h1, h3.symm⟩
  all_goals first | (simp at h; done) | (split at h <;> simp at h)
theorem strip_seq {c : Code} {x y : XCode} (h : strip c = some (.seq x y)) : ∃ a b, c = .seq a b ∧ strip a = some x ∧ strip b = some y := by
  unfold strip at h
  split at h
  case h_4 a b =>
    split at h
    · rename_i h1 h2; simp at h; obtain ⟨rfl, rfl⟩ := h; exact ⟨a, b, rfl, h1, h2⟩
    · simp at h
  all_goals first | (simp at h; done) | (split at h <;> simp at h)
theorem strip_cond {c : Code} {o : Operand} {x y : XCode} (h : strip c = some (.cond o x y)) : ∃ a b, c = .cond o a b ∧ strip a = some x ∧ strip b = some y := by
  unfold strip at h
  split at h
  case h_5 o a b =>
    split at h
    · rename_i h1 h2; simp at h; obtain ⟨rfl, rfl, rfl⟩ := h; exact ⟨a, b, rfl, h1, h2⟩
    · simp at h
  all_goals first | (simp at h; done) | (split at h <;> simp at h)
theorem strip_block {c : Code} {id : Nat} {x : XCode} (h : strip c = some (.block id x)) : ∃ a, c = .block id a ∧ strip a = some x := by
  unfold strip at h
  split at h
  case h_6 => obtain ⟨y, h1, h2⟩ := Option.map_eq_some_iff.1 h; injection h2 with h2 h3; subst h2; subst h3; exact ⟨_, rfl, h1⟩
  all_goals first | (simp at h; done) | (split at h <;> simp at h)
theorem strip_loop {c : Code} {x : XCode} (h : strip c = some (.loop x)) : ∃ a, c = .loop a ∧ strip a = some x := by
  unfold strip at h
  split at h
  case h_7 => simp at h; exact ⟨_, rfl, h⟩
  all_goals first | (simp at h; done) | (split at h <;> simp at h)

theorem range_mapM {α β : Type} (f : α → Option β) : ∀ (l pre : List α), (List.range' pre.length l.length).mapM (fun i => ((pre ++ l)[i]?).bind f) = l.mapM f
  | [], pre => rfl
  | a :: l, pre => by
    have ih := range_mapM f l (pre ++ [a])
    simp only [List.length_append, List.length_singleton, List.append_assoc, List.singleton_append] at ih
    simp only [List.length_cons, List.range'_succ, List.mapM_cons, ih]
    simp

theorem least_ex {p : Nat → Prop} : ∀ n, p n → ∃ k, p k ∧ ∀ j, p j → k ≤ j := by
  intro n
  induction n using Nat.strongRecOn with
  | _ n ih =>
    intro h
    by_cases hk : ∃ k, k < n ∧ p k
    · obtain ⟨k, hk, hp⟩ := hk
      exact ih k hk hp
    · exact ⟨n, h, fun j hj => Nat.le_of_not_lt fun hlt => hk ⟨j, hlt, hj⟩⟩
noncomputable def least (p : Nat → Prop) : Nat :=
  open Classical in if h : ∃ n, p n then Classical.choose (least_ex h.choose h.choose_spec) else 0
theorem least_spec {p : Nat → Prop} {n : Nat} (h : p n) : p (least p) ∧ least p ≤ n := by
  have he : ∃ n, p n := ⟨n, h⟩
  unfold least
  rw [dif_pos he]
  have := Classical.choose_spec (least_ex he.choose he.choose_spec)
  exact ⟨this.1, this.2 n h⟩

theorem Next.then {G0 : Gh} {w0 : World} {K K' : XExit → XS → Prop} {Q : Exit → Act → World → Prop} {next : Act → World → Prop} (hK : Next D m N G0 w0 K Q) (h' : ∀ e s, e ≠ .normal → K' e s → K e s)
    (hn : ∀ s a w G, K' .normal s → RX N D G s a w → Ev G0 w0 G w → next a w) : Next D m N G0 w0 K' (Exit.then next Q) := by
  intro e s ee a w G h hx hR hE
  cases e with
  | normal => cases ee <;> first | exact hx.elim | exact hn _ _ _ _ h hR hE
  | _ => cases ee <;> first | exact hx.elim | exact hK _ _ _ a w G (h' _ _ (by simp) h) hx hR hE

theorem RX.drawn {G : Gh} {s : XS} {a : Act} {w : World} (h : RX N D G s a w) (n : Nat) : RX N D G s a { w with drawn := n } := by
  have hk : Keeps G w G { w with drawn := n } := ⟨fun _ _ _ h => h, fun _ _ h => h, fun _ _ _ h => h, fun _ _ _ _ _ => rfl, fun _ _ _ => rfl⟩
  refine ⟨⟨fun t => (h.rs.tm t).mono hk, RH.of h.rs.hp.tab ⟨fun l hl => (h.rs.hp.obj l hl).mono hk (fun _ _ => ⟨rfl, fun _ h => h⟩) (fun _ _ _ h => ⟨h, rfl, fun _ h => h⟩) fun _ h => h, h.rs.hp.σdom, h.rs.hp.σinj, h.rs.hp.Hdom, h.rs.hp.Hdisj, h.rs.hp.Sdom, h.rs.hp.Htip⟩⟩, h.n, h.df⟩
theorem Ev.drawn {G G' : Gh} {w w' : World} (h : Ev G w G' w') (n : Nat) : Ev G w G' { w' with drawn := n } :=
  ⟨⟨fun B o u hc => h.keeps.cell B o u hc, h.keeps.σ, h.keeps.H, h.keeps.N, h.keeps.Nσ⟩, h.os, h.tape, h.output, h.size, h.other, h.Sold, h.fp, h.Nsame⟩
theorem mapM_all {α β : Type} (f : α → Option β) : ∀ (l : List α) (r : List β), l.mapM f = some r → r.length = l.length ∧ ∀ (j : Nat) (a : α) (b : β), l[j]? = some a → r[j]? = some b → f a = some b := by
  intro l r h
  obtain ⟨h1, h2⟩ := mapM_get f l r h
  refine ⟨h1, fun j a b ha hb => ?_⟩
  obtain ⟨a', ha', hf⟩ := h2 j b hb
  rw [ha] at ha'; injection ha' with ha'; subst ha'; exact hf

theorem dreg_sound {id : Nat} {ops : Array Oper} {xs : List XO} {K : XExit → XS → Prop} {Q : Exit → Act → World → Prop} {G0 : Gh} {w0 : World} (hm : P.follows .mixedOrders = true) (hK : Next D m N G0 w0 K Q)
    (hs : ops.toList.mapM (stripOp ops) = some xs) (hd : (xs.all fun o => match o.d with | some d => decide (d < N) | none => true) = true) (s : XS) (G : Gh) (a : Act) (w : World)
    (h : aw P m N (.dreg xs (ops.toList.map depsOf)) K s) (hR : RX N D G s a w) (hE : Ev G0 w0 G w) : (Code.region id ops true).wp P Q a w := by
  obtain ⟨hlen, hget⟩ := mapM_all _ _ _ hs
  have hR1 : RX N D G ⟨s.l, s.hp ++ List.replicate (xs.filter fun x => isNew x.op).length AObj.hole⟩ a { w with drawn := w.drawn + 1 } :=
    RX.drawn (s := ⟨s.l, s.hp ++ List.replicate (xs.filter fun x => isNew x.op).length AObj.hole⟩) ⟨⟨hR.rs.tm, RH.holes (show RH G s.hp w from hR.rs.hp) _⟩, hR.n, hR.df⟩ _
  obtain ⟨tr, htl, hok, hend⟩ := aD_steps xs _ _ _ h
  have hget' : ∀ (j : Nat) (z : XO × Option Eff), (xs.zip tr)[j]? = some z → xs[j]? = some z.1 ∧ tr[j]? = some z.2 := fun j z hz => by
    rw [List.getElem?_zip_eq_some] at hz; exact hz
  have hnn : ∀ z ∈ xs.zip tr, NoNew z.2 := fun z hz e he => by
    obtain ⟨j, hj, hzj⟩ := List.getElem_of_mem hz
    have h1 := hget' j z (by rw [List.getElem?_eq_getElem hj, hzj])
    have := hok j _ _ h1.1 h1.2
    rw [he] at this
    exact this.2.1
  have hdN : ∀ z ∈ xs.zip tr, (match z.1.d with | some d => decide (d < N) | none => true) = true := fun z hz => by
    obtain ⟨j, hj, hzj⟩ := List.getElem_of_mem hz
    have h1 := (hget' j z (by rw [List.getElem?_eq_getElem hj, hzj])).1
    exact List.all_eq_true.1 hd z.1 (List.mem_of_getElem? h1)
  have hstart : ∀ k, RX N D G (fold (xs.zip tr) (fun i => (Array.replicate ops.size false).getD i false) k ⟨s.l, s.hp ++ List.replicate (xs.filter fun x => isNew x.op).length AObj.hole⟩) a { w with drawn := w.drawn + 1 } := fun k => by
    refine hR1.congr (fun t => ?_) ?_
    · refine fold_slot (S' := fun i => decide (i < 0)) (fun i z hz hne => absurd ?_ hne) _ |>.trans ?_
      · simp [Array.getD_eq_getD_getElem?, Array.getElem?_replicate]; split <;> rfl
      · rw [fold_lt]; simp [fold]
    · refine List.ext_getElem? fun l => ?_
      refine (fold_obj (S' := fun i => decide (i < 0)) hnn (fun i z hz hne => absurd ?_ hne) _).trans ?_
      · simp [Array.getD_eq_getD_getElem?, Array.getElem?_replicate]; split <;> rfl
      · rw [fold_lt]; simp [fold]
  have hu0 : unl ops.size (Array.replicate ops.size false) ≤ ops.size := by
    unfold unl
    exact Nat.le_trans (List.length_filter_le _ _) (by simp)
  have hfalse : ∀ j, (Array.replicate ops.size false).getD j false = false := fun j => by
    simp [Array.getD_eq_getD_getElem?, Array.getElem?_replicate]; split <;> rfl
  have hx : ∀ (j : Nat) (z : XO × Option Eff) (o : Oper), (xs.zip tr)[j]? = some z → ops[j]? = some o → stripOp ops o = some z.1 := fun j z o hz ho =>
    hget j o z.1 (by simpa using ho) (hget' j z hz).1
  have hok' : ∀ (j : Nat) (z : XO × Option Eff), (xs.zip tr)[j]? = some z → StepOK P (nuAt s.hp.length xs j) z.1 z.2 (fold (xs.zip tr) (fun _ => true) j ⟨s.l, s.hp ++ List.replicate (xs.filter fun x => isNew x.op).length AObj.hole⟩) := fun j z hz => by
    have h1 := hget' j z hz
    exact hok j _ _ h1.1 h1.2
  have hdeps : ∀ (j : Nat) (o : Oper), ops[j]? = some o → (ops.toList.map depsOf).getD j [] = depsOf o := fun j o ho => by
    simp [List.getD_eq_getElem?_getD, ho]
  rcases hend with ⟨hfull, hchk, hfin⟩ | ⟨x, e, hxe, hpan, hchk, hfin⟩
  · have hzl : (xs.zip tr).length = xs.length := by simp [hfull]
    simp only [chkX, Bool.and_eq_true, beq_iff_eq, List.reverse_nil, List.nil_append] at hchk
    obtain ⟨⟨hcR, hcZ⟩, hcl⟩ := hchk
    refine wp_region_any hm ?_
    refine (drawn_any (P := P) (N := N) (m0 := ()) (G0 := G0) (w0 := w0) (nu := nuAt s.hp.length xs) (s := ⟨s.l, s.hp ++ List.replicate (xs.filter fun x => isNew x.op).length AObj.hole⟩) hcR hcZ (by rw [hcl]; exact Nat.le_refl _) hnn hok' (by rw [hzl, hlen]; simp) hx hdeps hdN ?_ ops.size (Array.replicate ops.size false) a _ G (by simp) hu0 ?_ (hstart _) (hE.drawn _))
    · intro a' w' G' hRX hE'
      rw [hzl] at hRX
      exact hK _ _ _ a' w' G' hfin trivial hRX hE'
    · intro j hj
      rw [hfalse] at hj; cases hj
  · have hjx : tr.length < xs.length := (List.getElem?_eq_some_iff.1 hxe).1
    have hzl : (xs.zip tr).length = tr.length := by simp; omega
    have hxo : xs.length = ops.size := by simpa using hlen
    have ho' : ops[(xs.zip tr).length]? = some (ops[tr.length]'(by omega)) := by rw [hzl]; exact Array.getElem?_eq_getElem _
    simp only [chkP, Bool.and_eq_true, beq_iff_eq, List.reverse_nil, List.nil_append, List.all_eq_true, List.mem_range, Bool.or_eq_true, decide_eq_true_eq, List.contains_iff_mem] at hchk
    obtain ⟨⟨⟨⟨hcR, hcZ⟩, hcl⟩, hlate⟩, hearly⟩ := hchk
    refine wp_region_any hm ?_
    refine (drawn_pan (P := P) (N := N) (R := reachL (ops.toList.map depsOf)) (deps := ops.toList.map depsOf) (G0 := G0) (w0 := w0) (x := x) (e := e) (nu := nuAt s.hp.length xs) (s := ⟨s.l, s.hp ++ List.replicate (xs.filter fun x => isNew x.op).length AObj.hole⟩) hcR hcZ (by simp) (by omega) hnn hok' hx hdeps hdN ho' (hget tr.length _ _ (by simpa using (Array.getElem?_eq_getElem (by omega : tr.length < ops.size))) hxe) (by rw [hzl]; exact hpan) ?_ ?_ ?_ ops.size (Array.replicate ops.size false) a _ G (by simp) hu0 (hfalse _) ?_ (hstart _) (hE.drawn _))
    · intro i hi hi'
      rw [hzl] at hi ⊢
      rcases hlate i hi' with h3 | h3
      · have := of_decide_eq_true h3; omega
      · exact h3
    · intro i z hz
      obtain ⟨h1, h2⟩ := hget' i z hz
      have hi : i < tr.length := (List.getElem?_eq_some_iff.1 h2).1
      rw [hzl]
      rcases hearly i hi with h3 | h3
      · exact .inl h3
      · rw [h1, h2, hxe] at h3
        simp only [Bool.and_eq_true, List.isEmpty_iff] at h3
        refine .inr ⟨h3.1, fun d hd hm => ?_⟩
        have h4 := h3.2
        rw [hd] at h4
        simp at h4
        exact h4 hm
    · intro a' w' G' v hv hRX hE'
      rw [hzl] at hRX
      exact hK _ _ _ a' w' G' hfin ⟨v, rfl, hv⟩ hRX hE'
    · intro j hj
      rw [hfalse] at hj; cases hj

theorem aw_sound (hm : P.follows .mixedOrders = true) {G0 : Gh} {w0 : World} (hσ : ∀ l B, G0.σ l = some B → l < m) (hH : ∀ l e x, G0.H l e = some x → l < m) :
    ∀ (x : XCode) (c : Code), strip c = some (erase x) → okd N x = true → ∀ (K : XExit → XS → Prop) (Q : Exit → Act → World → Prop), Next D m N G0 w0 K Q →
      ∀ (s : XS) (G : Gh) (a : Act) (w : World), aw P m N x K s → RX N D G s a w → Ev G0 w0 G w → c.wp P Q a w := by
  intro x
  induction x with
  | skip =>
    intro c hc _ K Q hK s G a w h hR hE
    obtain rfl := strip_skip hc
    exact wp_skip (hK _ _ _ _ _ _ h trivial hR hE)
  | exit id =>
    intro c hc _ K Q hK s G a w h hR hE
    obtain rfl := strip_exit hc
    exact wp_exit (hK _ _ _ _ _ _ h rfl hR hE)
  | ret =>
    intro c hc _ K Q hK s G a w h hR hE
    obtain rfl := strip_ret hc
    exact wp_ret (hK _ _ _ _ _ _ h trivial hR hE)
  | reg xs =>
    intro c hc hd K Q hK s G a w h hR hE
    obtain ⟨id, ops, rfl, hs⟩ := strip_reg hc
    refine wp_region (aOps_sound hK xs (List.range ops.size) ?_ hd s G a w h hR hE)
    rw [← hs]
    have := range_mapM (stripOp ops) ops.toList []
    simpa [List.range_eq_range'] using this
  | dreg xs deps =>
    intro c hc hd K Q hK s G a w h hR hE
    obtain ⟨id, ops, rfl, hs, rfl⟩ := strip_dreg hc
    exact dreg_sound hm hK hs hd s G a w h hR hE
  | seq x y ihx ihy =>
    intro c hc hd K Q hK s G a w h hR hE
    obtain ⟨a1, b1, rfl, h1, h2⟩ := strip_seq hc
    simp only [okd, Bool.and_eq_true] at hd
    refine wp_seq (ihx a1 h1 hd.1 _ _ (hK.then (fun e s hne h => ?_) fun s a w G h hR hE => ihy b1 h2 hd.2 K Q hK s G a w h hR hE) s G a w h hR hE)
    cases e <;> first | exact h | exact absurd rfl hne
  | cond o x y ihx ihy =>
    intro c hc hd K Q hK s G a w h hR hE
    obtain ⟨a1, b1, rfl, h1, h2⟩ := strip_cond hc
    simp only [okd, Bool.and_eq_true] at hd
    simp only [aw] at h
    have ho := hR.rs.ev o
    split at h
    · rename_i b hb
      rw [hb] at ho
      have e1 : a.eval o = .bool b := by generalize a.eval o = u at ho; cases ho; rfl
      refine wp_cond e1 ?_
      split at h
      · rename_i hbt; subst hbt; exact ihx a1 h1 hd.1 K Q hK s G a w h hR hE
      · rename_i hbt; rw [if_neg hbt]; exact ihy b1 h2 hd.2 K Q hK s G a w h hR hE
    · exact h.elim
  | block id x ih =>
    intro c hc hd K Q hK s G a w h hR hE
    obtain ⟨a1, rfl, h1⟩ := strip_block hc
    refine wp_block (ih a1 h1 hd _ _ (fun e s ee a w G h hx hR hE => ?_) s G a w h hR hE)
    cases e with
    | exit i =>
      cases ee <;> first | exact hx.elim | skip
      obtain rfl := hx
      simp only [Exit.inBlock]
      simp only at h
      split at h
      · rename_i hi; rw [if_pos hi]; exact hK _ _ _ _ _ _ h trivial hR hE
      · rename_i hi; rw [if_neg hi]; exact hK _ _ _ _ _ _ h rfl hR hE
    | _ => cases ee <;> first | exact hx.elim | exact hK _ _ _ a w G h hx hR hE
  | loop x ih =>
    intro c hc hd K Q hK s G a w h hR hE
    obtain ⟨a1, rfl, h1⟩ := strip_loop hc
    obtain ⟨α, sI, μ, x0, hw, hround⟩ := h
    let I : Act → World → Nat → Prop := fun a w n => ∃ x G, μ x = n ∧ RX N D G (sI x) a w ∧ Ev G0 w0 G w
    have hI0 : ∃ n, I a w n := by
      obtain ⟨G', h1, h2⟩ := hw D G a w hR
      exact ⟨_, x0, G', rfl, h1, h2 G0 w0 hσ hH hE⟩
    refine wp_loop (fun a w => ∃ n, I a w n) (fun a w => least (I a w)) hI0 fun a w hI => ?_
    obtain ⟨n, hn⟩ := hI
    obtain ⟨y, G1, hy, hRy, hEy⟩ := (least_spec hn).1
    refine ih a1 h1 hd _ _ (hK.then (fun e s hne h => ?_) fun s a' w' G h hR hE => ?_) _ G1 a w (hround y) hRy hEy
    · cases e <;> first | exact h | exact absurd rfl hne
    · obtain ⟨z, hz, hlt⟩ := h
      obtain ⟨G', h3, h4⟩ := hz D G a' w' hR
      have hI : I a' w' (μ z) := ⟨z, G', rfl, h3, h4 G0 w0 hσ hH hE⟩
      exact ⟨⟨_, hI⟩, Nat.lt_of_le_of_lt (least_spec hI).2 (by rw [← hy]; exact hlt)⟩
  | cut x ih =>
    intro c hc hd K Q hK s G a w h hR hE
    obtain ⟨s', hw, h⟩ := h fun t => (hR.rs.tm t).bd
    obtain ⟨G', h1, h2⟩ := hw D G a w hR
    exact ih c hc hd K Q hK s' G' a w h h1 (h2 G0 w0 hσ hH hE)
end
end Go.Proofs.YtlfngjemfpjegaaDoor.Px
