/- The abstract machine (Px): states; regions that draw their order. -/
import Derived.Test.YtlfngjemfpjegaaDoorPxR
import Derived.Orders
namespace Go.Proofs.YtlfngjemfpjegaaDoor.Px
open Go Go.RowKit
set_option linter.unusedVariables false
set_option linter.unusedSimpArgs false

structure XO where
  d : Option Nat
  g : Option (Nat × Bool)
  op : Op
  /-- What is made or grown is an object of one's own. -/
  own : Bool

structure XS where
  l : List (Nat × PV)
  hp : List AObj
def look : List (Nat × PV) → Nat → PV
  | [], _ => .bad
  | (d, v) :: r, t => bif t == d then v else look r t
theorem look_if {d t : Nat} {v : PV} {r : List (Nat × PV)} : look ((d, v) :: r) t = if t = d then v else look r t := by
  by_cases h : t = d
  · simp [look, h]
  · have : (t == d) = false := by simpa using h
    simp [look, h, this]
def XS.st (s : XS) : St := ⟨look s.l, s.hp⟩
def XS.put (s : XS) (d : Option Nat) (v : PV) : XS :=
  match d with
  | some d => { s with l := (d, v) :: s.l }
  | none => s
def XS.go (s : XS) (d : Option Nat) (e : Eff) : XS := { (s.put d e.v) with hp := after s.hp e }

/-- The abstract state and the frame's: N slots at least; nothing deferred. -/
structure RX (N : Nat) (D : List Deferred) (G : Gh) (s : XS) (a : Act) (w : World) : Prop where
  rs : RS G s.st a w
  n : N ≤ a.tmps.size
  df : a.defers = D

def stripOp (ops : Array Oper) (o : Oper) : Option XO :=
  match o.guard with
  | none => some ⟨o.dst, none, o.op, false⟩
  | some (j, b) => match (ops[j]?).bind (·.dst) with
    | some t => some ⟨o.dst, some (t, b), o.op, false⟩
    | none => none

section
variable {P : Program} {m N : Nat} {D : List Deferred}
theorem RX.go {G G' : Gh} {s : XS} {a : Act} {w w' : World} {d : Option Nat} {p : PV} {v : Value} {hp : List AObj} (h : RX N D G s a w) (hd : (match d with | some d => decide (d < N) | none => true) = true)
    (hv : V G' w' p v) (hR : RH G' hp w') (hE : Ev G w G' w') : RX N D G' { (s.put d p) with hp := hp } (a.put d v) w' := by
  cases d with
  | none => exact ⟨⟨fun t => V.mono hE.keeps (h.rs.tm t), hR⟩, h.n, h.df⟩
  | some d =>
    have hd' : d < a.tmps.size := Nat.lt_of_lt_of_le (by simpa using hd) h.n
    refine ⟨⟨fun t => ?_, hR⟩, by simpa [Act.put] using h.n, h.df⟩
    simp only [XS.st, XS.put, look_if, Act.put]
    rw [Array.getD_eq_getD_getElem?, Array.getElem?_setIfInBounds]
    by_cases ht : d = t
    · subst ht
      simpa [hd'] using hv
    · rw [if_neg ht, if_neg (Ne.symm ht)]
      have := V.mono hE.keeps (h.rs.tm t)
      simpa [Array.getD_eq_getD_getElem?, XS.st] using this

theorem put_hp {s : XS} {d : Option Nat} {p : PV} : { (s.put d p) with hp := s.hp } = s.put d p := by cases d <;> rfl

theorem yielded_of {ops : Array Oper} {tmps : Array Value} {j t : Nat} (h : (ops[j]?).bind (·.dst) = some t) {b : Bool} (hv : tmps.getD t undef = .bool b) : yielded ops tmps j = some b := by
  rw [Array.getD_eq_getD_getElem?] at hv
  cases hg : tmps[t]? with
  | none => rw [hg] at hv; simp [undef] at hv
  | some x =>
    rw [hg] at hv
    simp only [Option.getD_some] at hv
    simp only [yielded, h, Option.bind_some, hg, hv]
theorem yielded_undef {ops : Array Oper} {tmps : Array Value} {j t : Nat} (h : (ops[j]?).bind (·.dst) = some t) (hv : tmps.getD t undef = .tuple #[]) : yielded ops tmps j = none := by
  rw [Array.getD_eq_getD_getElem?] at hv
  cases hg : tmps[t]? with
  | none => simp only [yielded, h, Option.bind_some, hg]
  | some x =>
    rw [hg] at hv
    simp only [Option.getD_some] at hv
    simp only [yielded, h, Option.bind_some, hg, hv]

end

/-! ### The run in the text's order -/
def aD (P : Program) (fin : List (Option Eff) → XS → Prop) (pan : List (Option Eff) → Eff → XS → Prop) : Nat → List XO → List (Option Eff) → XS → Prop
  | _, [], acc, s => fin acc.reverse s
  | nu, ⟨d, none, op, _⟩ :: r, acc, s => aOpN P nu s.st op (fun e => aD P fin pan (if isNew op then nu + 1 else nu) r (some e :: acc) (s.go d e)) (fun e => pan acc.reverse e s)
  | nu, ⟨d, some (t, b), op, _⟩ :: r, acc, s => match look s.l t with
    | .bool c => if c = b then aOpN P nu s.st op (fun e => aD P fin pan (if isNew op then nu + 1 else nu) r (some e :: acc) (s.go d e)) (fun e => pan acc.reverse e s)
        else aD P fin pan (if isNew op then nu + 1 else nu) r (none :: acc) (s.put d (.tuple []))
    | .tuple [] => aD P fin pan (if isNew op then nu + 1 else nu) r (none :: acc) (s.put d (.tuple []))
    | _ => False

def stepX (x : XO) (o : Option Eff) (s : XS) : XS :=
  match o with
  | some e => s.go x.d e
  | none => s.put x.d (.tuple [])
/-- The state behind those of the first k operations that are listed. -/
def fold (xs : List (XO × Option Eff)) (S : Nat → Bool) : Nat → XS → XS
  | 0, s => s
  | k + 1, s => match xs[k]? with
    | some x => if S k then stepX x.1 x.2 (fold xs S k s) else fold xs S k s
    | none => fold xs S k s
def nuAt (nu : Nat) (xs : List XO) (j : Nat) : Nat := nu + ((xs.take j).filter fun x => isNew x.op).length

def StepOK (P : Program) (nu : Nat) (x : XO) (o : Option Eff) (s : XS) : Prop :=
  match o with
  | some e => (∀ t b, x.g = some (t, b) → look s.l t = .bool b) ∧ e.new = [] ∧ ∀ hp', Same s.hp hp' e → aOpN P nu ⟨look s.l, hp'⟩ x.op (fun y => y = e) none_
  | none => ∃ t b, x.g = some (t, b) ∧ (look s.l t = .tuple [] ∨ look s.l t = .bool !b)

theorem fold_cons (x : XO × Option Eff) (xs : List (XO × Option Eff)) (s : XS) : ∀ k, fold (x :: xs) (fun _ => true) (k + 1) s = fold xs (fun _ => true) k (stepX x.1 x.2 s)
  | 0 => by simp [fold]
  | k + 1 => by
    rw [fold, fold_cons x xs s k]
    simp only [List.getElem?_cons_succ, fold]

def PanOK (P : Program) (nu : Nat) (x : XO) (e : Eff) (s : XS) : Prop :=
  (∀ t b, x.g = some (t, b) → look s.l t = .bool b) ∧ e.new = [] ∧ ∀ hp', Same s.hp hp' e → aOpN P nu ⟨look s.l, hp'⟩ x.op none_ (fun y => y = e)

theorem aD_steps {P : Program} {fin : List (Option Eff) → XS → Prop} {pan : List (Option Eff) → Eff → XS → Prop} : ∀ (xs : List XO) (nu : Nat) (acc : List (Option Eff)) (s : XS), aD P fin pan nu xs acc s →
    ∃ tr : List (Option Eff), tr.length ≤ xs.length ∧
      (∀ j x o, xs[j]? = some x → tr[j]? = some o → StepOK P (nuAt nu xs j) x o (fold (xs.zip tr) (fun _ => true) j s)) ∧
      ((tr.length = xs.length ∧ fin (acc.reverse ++ tr) (fold (xs.zip tr) (fun _ => true) xs.length s)) ∨
       (∃ x e, xs[tr.length]? = some x ∧ PanOK P (nuAt nu xs tr.length) x e (fold (xs.zip tr) (fun _ => true) tr.length s) ∧ pan (acc.reverse ++ tr) e (fold (xs.zip tr) (fun _ => true) tr.length s))) := by
  intro xs
  induction xs with
  | nil => intro nu acc s h; exact ⟨[], Nat.le_refl _, fun j x o hx => by simp at hx, .inl ⟨rfl, by simpa [fold, aD] using h⟩⟩
  | cons x xs ih =>
    intro nu acc s h
    have hnu : ∀ j, nuAt nu (x :: xs) (j + 1) = nuAt (if isNew x.op then nu + 1 else nu) xs j := fun j => by
      simp only [nuAt, List.take_succ_cons, List.filter_cons]
      split <;> simp <;> omega
    have key : ∀ o, StepOK P nu x o s → aD P fin pan (if isNew x.op then nu + 1 else nu) xs (o :: acc) (stepX x o s) → ∃ tr : List (Option Eff), tr.length ≤ (x :: xs).length ∧
      (∀ j y o, (x :: xs)[j]? = some y → tr[j]? = some o → StepOK P (nuAt nu (x :: xs) j) y o (fold ((x :: xs).zip tr) (fun _ => true) j s)) ∧
      ((tr.length = (x :: xs).length ∧ fin (acc.reverse ++ tr) (fold ((x :: xs).zip tr) (fun _ => true) (x :: xs).length s)) ∨
       (∃ y e, (x :: xs)[tr.length]? = some y ∧ PanOK P (nuAt nu (x :: xs) tr.length) y e (fold ((x :: xs).zip tr) (fun _ => true) tr.length s) ∧ pan (acc.reverse ++ tr) e (fold ((x :: xs).zip tr) (fun _ => true) tr.length s))) := by
      intro o ho hr
      obtain ⟨tr, h1, h2, h3⟩ := ih _ _ _ hr
      refine ⟨o :: tr, by simp; exact h1, fun j y o' hy ho' => ?_, ?_⟩
      · cases j with
        | zero =>
          simp only [List.getElem?_cons_zero, Option.some.injEq] at hy ho'
          subst hy; subst ho'
          simpa [nuAt, fold] using ho
        | succ j =>
          simp only [List.getElem?_cons_succ] at hy ho'
          have := h2 j y o' hy ho'
          rw [List.zip_cons_cons, fold_cons, hnu]
          exact this
      · rcases h3 with ⟨h4, h5⟩ | ⟨y, e, h4, h5, h6⟩
        · refine .inl ⟨by simp [h4], ?_⟩
          rw [List.zip_cons_cons, List.length_cons, fold_cons]
          simpa using h5
        · refine .inr ⟨y, e, by simpa using h4, ?_, ?_⟩
          · rw [List.length_cons, hnu, List.zip_cons_cons, fold_cons]; exact h5
          · rw [List.length_cons, List.zip_cons_cons, fold_cons]; simpa using h6
    obtain ⟨d, g, op, ow⟩ := x
    have hop : ∀ {s : XS}, s = s → (∀ t b, g = some (t, b) → look s.l t = .bool b) → aOpN P nu s.st op (fun e => aD P fin pan (if isNew op then nu + 1 else nu) xs (some e :: acc) (s.go d e)) (fun e => pan acc.reverse e s) →
        (∃ e, StepOK P nu ⟨d, g, op, ow⟩ (some e) s ∧ aD P fin pan (if isNew op then nu + 1 else nu) xs (some e :: acc) (s.go d e)) ∨ (∃ e, PanOK P nu ⟨d, g, op, ow⟩ e s ∧ pan acc.reverse e s) := fun _ hg h => by
      rcases aOpN_local h with ⟨e, hk, hn, hl⟩ | ⟨e, hk, hn, hl⟩
      · exact .inl ⟨e, ⟨hg, hn, hl⟩, hk⟩
      · exact .inr ⟨e, ⟨hg, hn, hl⟩, hk⟩
    have hpan : ∀ e, PanOK P nu ⟨d, g, op, ow⟩ e s → pan acc.reverse e s → ∃ tr : List (Option Eff), tr.length ≤ ((⟨d, g, op, ow⟩ : XO) :: xs).length ∧
      (∀ j y o, ((⟨d, g, op, ow⟩ : XO) :: xs)[j]? = some y → tr[j]? = some o → StepOK P (nuAt nu (⟨d, g, op, ow⟩ :: xs) j) y o (fold (((⟨d, g, op, ow⟩ : XO) :: xs).zip tr) (fun _ => true) j s)) ∧
      ((tr.length = ((⟨d, g, op, ow⟩ : XO) :: xs).length ∧ fin (acc.reverse ++ tr) (fold (((⟨d, g, op, ow⟩ : XO) :: xs).zip tr) (fun _ => true) ((⟨d, g, op, ow⟩ : XO) :: xs).length s)) ∨
       (∃ y e, ((⟨d, g, op, ow⟩ : XO) :: xs)[tr.length]? = some y ∧ PanOK P (nuAt nu (⟨d, g, op, ow⟩ :: xs) tr.length) y e (fold (((⟨d, g, op, ow⟩ : XO) :: xs).zip tr) (fun _ => true) tr.length s) ∧ pan (acc.reverse ++ tr) e (fold (((⟨d, g, op, ow⟩ : XO) :: xs).zip tr) (fun _ => true) tr.length s))) := fun e h1 h2 =>
      ⟨[], by simp, fun j y o _ ho => by simp at ho, .inr ⟨_, e, rfl, by simpa [nuAt, fold] using h1, by simpa [fold] using h2⟩⟩
    cases g with
    | none =>
      rcases hop rfl (fun t b h => by cases h) h with ⟨e, h1, h2⟩ | ⟨e, h1, h2⟩
      · exact key _ h1 h2
      · exact hpan e h1 h2
    | some tb =>
      obtain ⟨t, b⟩ := tb
      simp only [aD] at h
      split at h
      · rename_i c hc
        split at h
        · rename_i hcb
          subst hcb
          rcases hop rfl (fun t' b' h => by injection h with h; injection h with h3 h4; subst h3; subst h4; exact hc) h with ⟨e, h1, h2⟩ | ⟨e, h1, h2⟩
          · exact key _ h1 h2
          · exact hpan e h1 h2
        · rename_i hcb
          exact key none ⟨t, b, rfl, .inr (by rw [hc]; cases b <;> cases c <;> simp_all)⟩ h
      · rename_i hc
        exact key none ⟨t, b, rfl, .inl hc⟩ h
      · exact h.elim

/-! ### States behind some of the operations -/
def valX (o : Option Eff) : PV :=
  match o with
  | some e => e.v
  | none => .tuple []
def setX (o : Option Eff) : List (Nat × AObj) :=
  match o with
  | some e => e.set
  | none => []
def rdX (o : Option Eff) : List Nat :=
  match o with
  | some e => e.rd
  | none => []
def NoNew (o : Option Eff) : Prop := ∀ e, o = some e → e.new = []

theorem look_step (x : XO) (o : Option Eff) (s : XS) (t : Nat) : look (stepX x o s).l t = if x.d = some t then valX o else look s.l t := by
  obtain ⟨d, g, op, ow⟩ := x
  cases d with
  | none => cases o <;> simp [stepX, XS.go, XS.put]
  | some d =>
    have : (d = t) = (t = d) := propext ⟨Eq.symm, Eq.symm⟩
    cases o <;> simp [stepX, XS.go, XS.put, look_if, valX, this]
theorem hp_step (x : XO) {o : Option Eff} (s : XS) (h : NoNew o) : (stepX x o s).hp = setAll s.hp (setX o) := by
  cases o with
  | none =>
    obtain ⟨d, g, op, ow⟩ := x
    cases d <;> simp [stepX, XS.put, setX, setAll]
  | some e => simp [stepX, XS.go, after, setX, h e rfl]

theorem setAll_get {l : Nat} : ∀ (st : List (Nat × AObj)) {hp hp' : List AObj}, hp.length = hp'.length → hp[l]? = hp'[l]? → (setAll hp st)[l]? = (setAll hp' st)[l]?
  | [], _, _, _, h => h
  | (i, o) :: st, hp, hp', hl, h => by
    simp only [setAll]
    refine setAll_get st (by simpa using hl) ?_
    rw [List.getElem?_set, List.getElem?_set, hl, h]
theorem setAll_mem {l : Nat} : ∀ (st : List (Nat × AObj)) {hp hp' : List AObj}, hp.length = hp'.length → l ∈ st.map (·.1) → (setAll hp st)[l]? = (setAll hp' st)[l]?
  | [], _, _, _, h => by simp at h
  | (i, o) :: st, hp, hp', hl, h => by
    simp only [setAll]
    by_cases hi : i = l
    · subst hi
      refine setAll_get st (by simpa using hl) ?_
      rw [List.getElem?_set, List.getElem?_set, hl]
      simp
    · refine setAll_mem st (by simpa using hl) ?_
      simp only [List.map_cons, List.mem_cons] at h
      exact h.resolve_left fun e => hi e.symm

variable {zs : List (XO × Option Eff)} {s : XS}
theorem fold_len (hn : ∀ z ∈ zs, NoNew z.2) (S : Nat → Bool) : ∀ k, (fold zs S k s).hp.length = s.hp.length
  | 0 => rfl
  | k + 1 => by
    have ih := fold_len hn S k
    simp only [fold]
    split
    · rename_i z hz
      split
      · rw [hp_step _ _ (hn z (List.mem_of_getElem? hz)), setAll_length, ih]
      · exact ih
    · exact ih
theorem fold_slot {S S' : Nat → Bool} {t : Nat} (h : ∀ i z, zs[i]? = some z → S i ≠ S' i → z.1.d ≠ some t) : ∀ k, look (fold zs S k s).l t = look (fold zs S' k s).l t
  | 0 => rfl
  | k + 1 => by
    have ih := fold_slot h k
    simp only [fold]
    split
    · rename_i z hz
      have hk := h k z hz
      cases h1 : S k <;> cases h2 : S' k <;> simp only [h1, h2, if_true, if_false, Bool.false_eq_true] at hk ⊢
      · exact ih
      · rw [look_step, if_neg (hk (by simp))]; exact ih
      · rw [look_step, if_neg (hk (by simp))]; exact ih
      · rw [look_step, look_step, ih]
    · exact ih
theorem fold_obj (hn : ∀ z ∈ zs, NoNew z.2) {S S' : Nat → Bool} {l : Nat} (h : ∀ i z, zs[i]? = some z → S i ≠ S' i → l ∉ (setX z.2).map (·.1)) : ∀ k, (fold zs S k s).hp[l]? = (fold zs S' k s).hp[l]?
  | 0 => rfl
  | k + 1 => by
    have ih := fold_obj hn h k
    simp only [fold]
    split
    · rename_i z hz
      have hk := h k z hz
      have hz' := hn z (List.mem_of_getElem? hz)
      have hoth : l ∉ (setX z.2).map (·.1) → ∀ hp, (setAll hp (setX z.2))[l]? = hp[l]? := fun hl hp => setAll_other _ _ _ fun x hx e => hl (List.mem_map.2 ⟨x, hx, e⟩)
      cases h1 : S k <;> cases h2 : S' k <;> simp only [h1, h2, if_true, if_false, Bool.false_eq_true] at hk ⊢
      · exact ih
      · rw [hp_step _ _ hz', hoth (hk (by simp))]; exact ih
      · rw [hp_step _ _ hz', hoth (hk (by simp))]; exact ih
      · rw [hp_step _ _ hz', hp_step _ _ hz']
        exact setAll_get _ (by rw [fold_len hn, fold_len hn]) ih
    · exact ih
theorem fold_lt (j : Nat) : ∀ k, fold zs (fun i => decide (i < j)) k s = fold zs (fun _ => true) (min k j) s
  | 0 => by simp [fold]
  | k + 1 => by
    have ih := fold_lt j k
    simp only [fold]
    by_cases h : k < j
    · rw [show min (k + 1) j = min k j + 1 by omega, show min k j = k by omega]
      rw [show min k j = k by omega] at ih
      simp only [fold, ih, h, decide_true]
    · rw [show min (k + 1) j = min k j by omega]
      simp only [h, decide_false, Bool.false_eq_true, if_false]
      split <;> exact ih

/-! ### One more operation is listed -/
theorem fold_addS {S : Nat → Bool} {j : Nat} {z : XO × Option Eff} {t : Nat} (hz : zs[j]? = some z) (hS : S j = false) (hd : ∀ i y, zs[i]? = some y → j < i → S i = true → y.1.d ≠ z.1.d ∨ z.1.d = none) :
    ∀ k, look (fold zs (fun i => S i || decide (i = j)) k s).l t = if j < k ∧ z.1.d = some t then valX z.2 else look (fold zs S k s).l t
  | 0 => by simp [fold]
  | k + 1 => by
    have ih := fold_addS (t := t) hz hS hd k
    simp only [fold]
    by_cases hkj : k = j
    · subst hkj
      simp only [hz, hS, decide_true, Bool.or_true, if_true, Bool.false_eq_true, if_false]
      rw [look_step, ih]
      by_cases hd' : z.1.d = some t
      · simp [hd']
      · simp [hd']
    · cases hy : zs[k]? with
      | none =>
        have : j < k + 1 ↔ j < k := by omega
        simp only [ih, this]
      | some y =>
        have : j < k + 1 ↔ j < k := by omega
        simp only [hkj, decide_false, Bool.or_false, this]
        cases hk : S k
        · simpa using ih
        · simp only [if_true]
          rw [look_step, look_step, ih]
          by_cases hyt : y.1.d = some t
          · simp only [if_pos hyt]
            rw [if_neg]
            rintro ⟨h1, h2⟩
            rcases hd k y hy h1 hk with h3 | h3
            · exact h3 (by rw [hyt, h2])
            · rw [h3] at h2; cases h2
          · simp only [if_neg hyt]
theorem fold_addO (hn : ∀ z ∈ zs, NoNew z.2) {S : Nat → Bool} {j : Nat} {z : XO × Option Eff} {l : Nat} (hz : zs[j]? = some z) (hS : S j = false)
    (hd : ∀ i y, zs[i]? = some y → j < i → S i = true → l ∈ (setX z.2).map (·.1) → l ∉ (setX y.2).map (·.1)) :
    ∀ k, (fold zs (fun i => S i || decide (i = j)) k s).hp[l]? = if j < k ∧ l ∈ (setX z.2).map (·.1) then (setAll (fold zs S k s).hp (setX z.2))[l]? else (fold zs S k s).hp[l]?
  | 0 => by simp [fold]
  | k + 1 => by
    have ih := fold_addO hn (l := l) hz hS hd k
    have hzn := hn z (List.mem_of_getElem? hz)
    simp only [fold]
    by_cases hkj : k = j
    · subst hkj
      simp only [hz, hS, decide_true, Bool.or_true, if_true, Bool.false_eq_true, if_false]
      rw [hp_step _ _ hzn]
      have ih' : (fold zs (fun i => S i || decide (i = k)) k s).hp[l]? = (fold zs S k s).hp[l]? := by rw [ih]; simp
      by_cases hl : l ∈ (setX z.2).map (·.1)
      · rw [if_pos ⟨by omega, hl⟩]
        exact setAll_get _ (by rw [fold_len hn, fold_len hn]) ih'
      · rw [if_neg (fun h => hl h.2), setAll_other _ _ _ fun x hx e => hl (List.mem_map.2 ⟨x, hx, e⟩)]
        exact ih'
    · have hjk : j < k + 1 ↔ j < k := by omega
      cases hy : zs[k]? with
      | none => simp only [ih, hjk]
      | some y =>
        have hyn := hn y (List.mem_of_getElem? hy)
        simp only [hkj, decide_false, Bool.or_false, hjk]
        cases hk : S k
        · simpa using ih
        · simp only [if_true]
          rw [hp_step _ _ hyn, hp_step _ _ hyn]
          by_cases hl : l ∈ (setX y.2).map (·.1)
          · have e1 : ¬ (j < k ∧ l ∈ (setX z.2).map (·.1)) := fun h => hd k y hy h.1 hk h.2 hl
            rw [if_neg e1]
            exact setAll_mem _ (by rw [fold_len hn, fold_len hn]) hl
          · have e2 : ∀ hp : List AObj, (setAll hp (setX y.2))[l]? = hp[l]? := fun hp => setAll_other _ _ _ fun x hx e => hl (List.mem_map.2 ⟨x, hx, e⟩)
            rw [e2, e2, ih]
            split
            · rename_i h
              refine setAll_get _ ?_ (e2 _).symm
              rw [setAll_length]
            · rfl

/-! ### Operations that the edges leave unordered must not touch each other -/
def readsX (x : XO) : List Nat :=
  (x.op.operands.toList.filterMap fun o => match o with
    | .tmp t => some t
    | _ => none) ++ (match x.g with
    | some (t, _) => [t]
    | none => [])
def apartX (y z : XO × Option Eff) : Bool :=
  (match y.1.d with
    | some d => !(readsX z.1).contains d && !(z.1.d == some d)
    | none => true) &&
  (match z.1.d with
    | some d => !(readsX y.1).contains d
    | none => true) &&
  (setX y.2).all (fun p => !(rdX z.2).contains p.1 && !((setX z.2).map (·.1)).contains p.1) &&
  (setX z.2).all (fun p => !(rdX y.2).contains p.1)
def reachL (deps : List (List Nat)) : List (List Nat) := deps.foldl (fun R ds => R ++ [ds ++ ds.flatMap fun d => R.getD d []]) []
def chkR (deps R : List (List Nat)) : Bool :=
  (List.range deps.length).all fun j => (deps.getD j []).all (fun d => d < j) && (R.getD j []).all fun i => (deps.getD j []).contains i || (deps.getD j []).any fun d => (R.getD d []).contains i
def chkZ (R : List (List Nat)) (zs : List (XO × Option Eff)) : Bool :=
  (List.range zs.length).all fun j => (List.range j).all fun i => (R.getD j []).contains i || (match zs[i]?, zs[j]? with
    | some y, some z => apartX y z
    | _, _ => true)
def chkX (deps : List (List Nat)) (zs : List (XO × Option Eff)) : Bool := chkR deps (reachL deps) && chkZ (reachL deps) zs && deps.length == zs.length

theorem chkR_down {deps R : List (List Nat)} (h : chkR deps R = true) {S : Nat → Bool} (hS : ∀ j, S j = true → ∀ d ∈ deps.getD j [], S d = true) : ∀ j, j < deps.length → (∀ d ∈ deps.getD j [], S d = true) → ∀ i ∈ R.getD j [], S i = true := by
  intro j
  induction j using Nat.strongRecOn with
  | _ j ih =>
    intro hj hd i hi
    have hc := List.all_eq_true.1 h j (List.mem_range.2 hj)
    simp only [Bool.and_eq_true, List.all_eq_true, Bool.or_eq_true, List.any_eq_true, decide_eq_true_eq, List.contains_iff_mem] at hc
    rcases hc.2 i hi with h1 | ⟨d, h1, h2⟩
    · exact hd i h1
    · have hlt := hc.1 d h1
      exact ih d hlt (by omega) (hS d (hd d h1)) i h2
theorem chkZ_get {R : List (List Nat)} (h : chkZ R zs = true) {i j : Nat} {y z : XO × Option Eff} (hy : zs[i]? = some y) (hz : zs[j]? = some z) (hij : i < j) : i ∈ R.getD j [] ∨ apartX y z = true := by
  have hj : j < zs.length := (List.getElem?_eq_some_iff.1 hz).1
  have h1 := List.all_eq_true.1 (List.all_eq_true.1 h j (List.mem_range.2 hj)) i (List.mem_range.2 hij)
  simp only [hy, hz, Bool.or_eq_true, List.contains_iff_mem] at h1
  exact h1
structure Apart (y z : XO × Option Eff) : Prop where
  w1 : ∀ d, y.1.d = some d → d ∉ readsX z.1
  w2 : ∀ d, z.1.d = some d → d ∉ readsX y.1
  ww : ∀ d, y.1.d = some d → z.1.d ≠ some d
  s1 : ∀ l, l ∈ (setX y.2).map (·.1) → l ∉ rdX z.2
  s2 : ∀ l, l ∈ (setX z.2).map (·.1) → l ∉ rdX y.2
  ss : ∀ l, l ∈ (setX y.2).map (·.1) → l ∉ (setX z.2).map (·.1)
theorem Apart.of {y z : XO × Option Eff} (h : apartX y z = true) : Apart y z := by
  simp only [apartX, Bool.and_eq_true] at h
  obtain ⟨⟨⟨h1, h2⟩, h3⟩, h4⟩ := h
  refine ⟨fun d hd => ?_, fun d hd => ?_, fun d hd => ?_, fun l hl => ?_, fun l hl => ?_, fun l hl => ?_⟩
  · rw [hd] at h1; simp at h1; exact h1.1
  · rw [hd] at h2; simpa using h2
  · rw [hd] at h1; simp at h1; exact h1.2
  · obtain ⟨p, hp, rfl⟩ := List.mem_map.1 hl
    have := List.all_eq_true.1 h3 p hp
    simp at this; exact this.1
  · obtain ⟨p, hp, rfl⟩ := List.mem_map.1 hl
    have := List.all_eq_true.1 h4 p hp
    simpa using this
  · obtain ⟨p, hp, rfl⟩ := List.mem_map.1 hl
    have := List.all_eq_true.1 h3 p hp
    simp only [Bool.and_eq_true, Bool.not_eq_true'] at this
    intro hm
    have h9 := this.2
    rw [List.contains_iff_mem.2 hm] at h9
    cases h9
theorem Apart.symm {y z : XO × Option Eff} (h : Apart y z) : Apart z y := ⟨h.w2, h.w1, fun d h1 h2 => h.ww d h2 h1, h.s2, h.s1, fun l h1 h2 => h.ss l h2 h1⟩

theorem RX.congr {N : Nat} {D : List Deferred} {G : Gh} {s s' : XS} {a : Act} {w : World} (h : RX N D G s a w) (hl : ∀ t, look s'.l t = look s.l t) (hh : s'.hp = s.hp) : RX N D G s' a w :=
  ⟨⟨fun t => by rw [show s'.st.tm t = s.st.tm t from hl t]; exact h.rs.tm t, by rw [show s'.st.hp = s.st.hp from hh]; exact h.rs.hp⟩, h.n, h.df⟩

section
variable {P : Program} {N : Nat} {D : List Deferred} {ops : Array Oper} {Q : Exit → Act → World → Prop} {R deps : List (List Nat)} {nu : Nat → Nat} {S : Nat → Bool} {j : Nat} {z : XO × Option Eff}

theorem unordered (hR : chkR deps R = true) (hZ : chkZ R zs = true) (hlen : zs.length ≤ deps.length) (hS : ∀ j, S j = true → ∀ d ∈ deps.getD j [], S d = true) (hz : zs[j]? = some z) (hj : S j = false) (hd : ∀ d ∈ deps.getD j [], S d = true)
    {i : Nat} {y : XO × Option Eff} (hy : zs[i]? = some y) (hne : S i ≠ decide (i < j)) : Apart y z := by
  have hjl : j < zs.length := (List.getElem?_eq_some_iff.1 hz).1
  have hil : i < zs.length := (List.getElem?_eq_some_iff.1 hy).1
  rcases Nat.lt_trichotomy i j with h | h | h
  · have hi : S i = false := by simpa [h] using hne
    rcases chkZ_get hZ hy hz h with h1 | h1
    · have := chkR_down hR hS j (by omega) hd i h1
      rw [hi] at this; cases this
    · exact .of h1
  · subst h; rw [hj] at hne; simp at hne
  · have hi : S i = true := by
      have : decide (i < j) = false := by simpa using Nat.le_of_lt h
      rw [this] at hne; simpa using hne
    rcases chkZ_get hZ hz hy h with h1 | h1
    · have := chkR_down hR hS i (by omega) (hS i hi) j h1
      rw [hj] at this; cases this
    · exact (Apart.of h1).symm

theorem drawn_step {o' : Oper} {K : Act → World → Prop} {G G0 : Gh} {a : Act} {w w0 : World} (hR : chkR deps R = true) (hZ : chkZ R zs = true) (hlen : zs.length ≤ deps.length) (hS : ∀ j, S j = true → ∀ d ∈ deps.getD j [], S d = true)
    (hz : zs[j]? = some z) (hj : S j = false) (hd : ∀ d ∈ deps.getD j [], S d = true) (hn : ∀ z ∈ zs, NoNew z.2) (hok : StepOK P (nu j) z.1 z.2 (fold zs (fun _ => true) j s))
    (ho : ops[j]? = some o') (hx : stripOp ops o' = some z.1) (hdN : (match z.1.d with | some d => decide (d < N) | none => true) = true)
    (hRX : RX N D G (fold zs S zs.length s) a w) (hE : Ev G0 w0 G w)
    (hK : ∀ a' w' G', RX N D G' (fold zs (fun i => S i || decide (i = j)) zs.length s) a' w' → Ev G0 w0 G' w' → K a' w') : wpOp P ops Q j K a w := by
  have hjl : j < zs.length := (List.getElem?_eq_some_iff.1 hz).1
  have hun := fun {i : Nat} {y : XO × Option Eff} => unordered (i := i) (y := y) hR hZ hlen hS hz hj hd
  have hmin : min zs.length j = j := by omega
  have hread : ∀ t ∈ readsX z.1, look (fold zs S zs.length s).l t = look (fold zs (fun _ => true) j s).l t := fun t ht => by
    rw [fold_slot (S' := fun i => decide (i < j)) (fun i y hy hne hyd => (hun hy hne).w1 t hyd ht), fold_lt, hmin]
  have hobj : ∀ l, l ∈ rdX z.2 ∨ l ∈ (setX z.2).map (·.1) → (fold zs S zs.length s).hp[l]? = (fold zs (fun _ => true) j s).hp[l]? := fun l hl => by
    rw [fold_obj hn (S' := fun i => decide (i < j)) (fun i y hy hne hl' => ?_), fold_lt, hmin]
    rcases hl with hl | hl
    · exact (hun hy hne).s1 l hl' hl
    · exact (hun hy hne).ss l hl' hl
  have hlater : ∀ i y, zs[i]? = some y → j < i → S i = true → Apart y z := fun i y hy hji hi => hun hy (by rw [hi]; simp; omega)
  have hnext : ∀ {G' : Gh} {a' : Act} {w' : World}, RX N D G' (stepX z.1 z.2 (fold zs S zs.length s)) a' w' → RX N D G' (fold zs (fun i => S i || decide (i = j)) zs.length s) a' w' := fun h => by
    refine h.congr (fun t => ?_) (List.ext_getElem? fun l => ?_)
    · rw [fold_addS hz hj (fun i y hy h1 h2 => ?_), look_step]
      · simp only [hjl, true_and]
      · cases hzd : z.1.d with
        | none => exact .inr rfl
        | some d => exact .inl fun e => (hlater i y hy h1 h2).ww d e hzd
    · rw [fold_addO hn hz hj (fun i y hy h1 h2 h3 h4 => (hlater i y hy h1 h2).ss l h4 h3), hp_step _ _ (hn z (List.mem_of_getElem? hz))]
      simp only [hjl, true_and]
      split
      · rfl
      · rename_i hl
        exact (setAll_other _ _ _ fun x hx e => hl (List.mem_map.2 ⟨x, hx, e⟩)).symm
  obtain ⟨⟨d, g, op, ow⟩, o⟩ := z
  have hst : o'.dst = d ∧ o'.op = op ∧ ((o'.guard = none ∧ g = none) ∨ ∃ k b t, o'.guard = some (k, b) ∧ (ops[k]?).bind (·.dst) = some t ∧ g = some (t, b)) := by
    unfold stripOp at hx
    split at hx
    · rename_i hg; injection hx with hx; injection hx with h1 h2 h3 h4; exact ⟨h1, h3, .inl ⟨hg, h2.symm⟩⟩
    · rename_i k b hg
      split at hx
      · rename_i t ht; injection hx with hx; injection hx with h1 h2 h3 h4; exact ⟨h1, h3, .inr ⟨k, b, t, hg, ht, h2.symm⟩⟩
      · cases hx
  obtain ⟨rfl, rfl, hg⟩ := hst
  simp only [wpOp, ho]
  have hguard : ∀ t b, g = some (t, b) → look (fold zs S zs.length s).l t = look (fold zs (fun _ => true) j s).l t := fun t b hgt => hread t (by simp [readsX, hgt])
  cases o with
  | some e =>
    obtain ⟨hok1, hok2, hok3⟩ := hok
    have hw : Region.wanted o' (yielded ops a.tmps) = true := by
      rcases hg with ⟨hg, _⟩ | ⟨k, b, t, hg, ht, hgt⟩
      · simp [Region.wanted, hg]
      · have h1 := hok1 t b hgt
        rw [← hguard t b hgt] at h1
        have htv := hRX.rs.tm t
        rw [show (fold zs S zs.length s).st.tm t = .bool b from h1] at htv
        have e1 : a.tmps.getD t undef = .bool b := by
          generalize a.tmps.getD t undef = u at htv
          cases htv; rfl
        simp [Region.wanted, hg, yielded_of ht e1]
    rw [hw, if_pos rfl]
    have h1 := hok3 (fold zs S zs.length s).hp ⟨by rw [fold_len hn, fold_len hn], fun l hl => hobj l (hl.imp id id)⟩
    rw [aOpN_congr (f' := look (fold zs S zs.length s).l) (fun x hx => ?_)] at h1
    · refine .inl (sound_opN (s := (fold zs S zs.length s).st) h1 hRX.rs (fun e' v w' G' he hv hR' hE' => ?_) fun e' v w' G' he => he.elim)
      subst he
      exact hK _ _ G' (hnext (hRX.go hdN hv hR' hE')) (hE.trans hE')
    · cases x with
      | tmp t => exact (hread t (by simp only [readsX]; exact List.mem_append_left _ (List.mem_filterMap.2 ⟨.tmp t, by simpa using hx, rfl⟩))).symm
      | _ => rfl
  | none =>
    obtain ⟨t, b, hgt, hb⟩ := hok
    have hw : Region.wanted o' (yielded ops a.tmps) = false := by
      rcases hg with ⟨_, hg⟩ | ⟨k, b', t', hg, ht, hgt'⟩
      · simp only at hgt; rw [hg] at hgt; cases hgt
      · simp only at hgt
        rw [hgt'] at hgt
        injection hgt with hgt
        injection hgt with h1 h2
        subst h1; subst h2
        have htv := hRX.rs.tm t'
        rw [← hguard t' b' hgt'] at hb
        rcases hb with hb | hb
        · rw [show (fold zs S zs.length s).st.tm t' = .tuple [] from hb] at htv
          have e1 : a.tmps.getD t' undef = .tuple #[] := by
            generalize a.tmps.getD t' undef = u at htv
            cases htv with
            | tuple _ vs hl _ => simp only [List.length_nil] at hl; rw [Array.eq_empty_of_size_eq_zero hl]
          simp only [Region.wanted, hg, yielded_undef ht e1]; rfl
        · rw [show (fold zs S zs.length s).st.tm t' = .bool !b' from hb] at htv
          have e1 : a.tmps.getD t' undef = .bool !b' := by
            generalize a.tmps.getD t' undef = u at htv
            cases htv; rfl
          simp only [Region.wanted, hg, yielded_of ht e1]
          cases b' <;> rfl
    rw [hw, if_neg (by simp)]
    have h1 := hRX.go (p := .tuple []) (v := undef) hdN (.tuple [] #[] rfl fun i h1 => by simp at h1) (hp := (fold zs S zs.length s).hp) hRX.rs.hp (.refl _ _)
    rw [put_hp] at h1
    exact hK _ _ G (hnext h1) hE

theorem filt_le {p q : Nat → Bool} (h : ∀ x, q x = true → p x = true) : ∀ l : List Nat, (l.filter q).length ≤ (l.filter p).length
  | [] => Nat.le_refl _
  | a :: l => by
    have ih := filt_le h l
    simp only [List.filter_cons]
    cases hq : q a
    · cases hp : p a <;> simp <;> omega
    · simp [h a hq]; omega
theorem filt_lt {p q : Nat → Bool} (h : ∀ x, q x = true → p x = true) {j : Nat} (hp : p j = true) (hq : q j = false) : ∀ l : List Nat, j ∈ l → (l.filter q).length < (l.filter p).length
  | [], hj => by simp at hj
  | a :: l, hj => by
    rcases List.mem_cons.1 hj with rfl | hj
    · have := filt_le h l
      simp [List.filter_cons, hp, hq]; omega
    · have ih := filt_lt h hp hq l hj
      simp only [List.filter_cons]
      cases hqa : q a
      · cases hpa : p a <;> simp <;> omega
      · simp [h a hqa]; omega
def unl (n : Nat) (listed : Array Bool) : Nat := ((List.range n).filter fun i => !listed.getD i false).length

def depsOf (o : Oper) : List Nat := (o.after.toList.filter fun e => Region.binds .any e).map (·.on)

theorem drawn_any {m0 : Unit} {G0 : Gh} {w0 : World} (hR : chkR deps R = true) (hZ : chkZ R zs = true) (hlen : zs.length ≤ deps.length) (hn : ∀ z ∈ zs, NoNew z.2)
    (hok : ∀ (j : Nat) (z : XO × Option Eff), zs[j]? = some z → StepOK P (nu j) z.1 z.2 (fold zs (fun _ => true) j s)) (hsz : zs.length = ops.size) (hx : ∀ (j : Nat) (z : XO × Option Eff) (o : Oper), zs[j]? = some z → ops[j]? = some o → stripOp ops o = some z.1)
    (hdeps : ∀ (j : Nat) (o : Oper), ops[j]? = some o → deps.getD j [] = depsOf o) (hdN : ∀ z ∈ zs, (match z.1.d with | some d => decide (d < N) | none => true) = true)
    (hfin : ∀ a w G, RX N D G (fold zs (fun _ => true) zs.length s) a w → Ev G0 w0 G w → Q .normal a w) :
    ∀ (fuel : Nat) (listed : Array Bool) (a : Act) (w : World) (G : Gh), listed.size = ops.size → unl ops.size listed ≤ fuel →
      (∀ j, listed.getD j false = true → ∀ d ∈ deps.getD j [], listed.getD d false = true) → RX N D G (fold zs (fun i => listed.getD i false) zs.length s) a w → Ev G0 w0 G w → wpAny P .any ops Q fuel listed a w := by
  have hall : ∀ (listed : Array Bool) (a : Act) (w : World) (G : Gh), (∀ i, i < ops.size → listed.getD i false = true) → RX N D G (fold zs (fun i => listed.getD i false) zs.length s) a w → Ev G0 w0 G w → Q .normal a w := fun listed a w G h hRX hE => by
    refine hfin a w G (hRX.congr (fun t => ?_) (List.ext_getElem? fun l => ?_)) hE
    · exact fold_slot (fun i z hz hne => absurd (h i (by rw [← hsz]; exact (List.getElem?_eq_some_iff.1 hz).1)) (fun e => hne e.symm)) _
    · exact fold_obj hn (fun i z hz hne => absurd (h i (by rw [← hsz]; exact (List.getElem?_eq_some_iff.1 hz).1)) (fun e => hne e.symm)) _
  have hready : ∀ listed : Array Bool, listed.size = ops.size → Region.ready .any ops listed = [] → ∀ i, i < ops.size → listed.getD i false = true := fun listed hls hr i => by
    induction i using Nat.strongRecOn with
    | _ i ih =>
      intro hi
      cases hl : listed.getD i false with
      | true => rfl
      | false =>
        exfalso
        have ho : ops[i]? = some ops[i] := Array.getElem?_eq_getElem hi
        have : i ∈ Region.ready .any ops listed := mem_ready.2 ⟨by
            have : i < listed.size := by omega
            simp [Array.getD_eq_getD_getElem?, Array.getElem?_eq_getElem this] at hl ⊢
            exact hl, _, ho, fun e he hb => by
            have hc := List.all_eq_true.1 hR i (List.mem_range.2 (by omega))
            simp only [Bool.and_eq_true, List.all_eq_true, decide_eq_true_eq] at hc
            have hm : e.on ∈ deps.getD i [] := by
              rw [hdeps i _ ho]
              exact List.mem_map.2 ⟨e, List.mem_filter.2 ⟨by simpa using he, hb⟩, rfl⟩
            have hlt := hc.1 _ hm
            exact ih _ hlt (by omega)⟩
        rw [hr] at this
        cases this
  intro fuel
  induction fuel with
  | zero =>
    intro listed a w G hls hu hcl hRX hE
    have hfull : ∀ i, i < ops.size → listed.getD i false = true := fun i hi => by
      cases hl : listed.getD i false with
      | true => rfl
      | false =>
        exfalso
        have hm : i ∈ (List.range ops.size).filter fun i => !listed.getD i false := List.mem_filter.2 ⟨List.mem_range.2 hi, by simp [hl]⟩
        have := List.length_pos_of_mem hm
        unfold unl at hu
        omega
    refine ⟨List.eq_nil_iff_forall_not_mem.2 fun i hi => ?_, hall listed a w G hfull hRX hE⟩
    obtain ⟨h1, o, ho, _⟩ := mem_ready.1 hi
    have hlt := (Array.getElem?_eq_some_iff.1 ho).1
    have h2 := hfull i hlt
    have : i < listed.size := by omega
    simp [Array.getD_eq_getD_getElem?, Array.getElem?_eq_getElem this] at h1 h2
    rw [h1] at h2; cases h2
  | succ fuel ih =>
    intro listed a w G hls hu hcl hRX hE
    refine ⟨fun hr => hall listed a w G (hready listed hls hr) hRX hE, fun j hj => ?_⟩
    obtain ⟨h1, o, ho, hdep⟩ := mem_ready.1 hj
    have hjl : j < ops.size := (Array.getElem?_eq_some_iff.1 ho).1
    have hjs : j < listed.size := by omega
    have hSj : listed.getD j false = false := by
      simp [Array.getD_eq_getD_getElem?, Array.getElem?_eq_getElem hjs] at h1 ⊢
      exact h1
    have hz : zs[j]? = some (zs[j]'(by omega)) := List.getElem?_eq_getElem _
    have hS' : (fun i => (listed.setIfInBounds j true).getD i false) = fun i => listed.getD i false || decide (i = j) := funext fun i => by
      by_cases hij : i = j
      · subst hij; simp [Array.getD_eq_getD_getElem?, hjs]
      · rw [getD_set_ne false (fun e => hij e.symm)]; simp [hij]
    have hdj : ∀ d ∈ deps.getD j [], listed.getD d false = true := fun d hd => by
      rw [hdeps j o ho] at hd
      obtain ⟨e, he, rfl⟩ := List.mem_map.1 hd
      obtain ⟨h3, h4⟩ := List.mem_filter.1 he
      exact hdep e (by simpa using h3) h4
    refine drawn_step hR hZ hlen hcl hz hSj hdj hn (hok j _ hz) ho (hx j _ o hz ho) (hdN _ (List.mem_of_getElem? hz)) hRX hE fun a' w' G' hRX' hE' => ih _ a' w' G' (by simpa using hls) ?_ ?_ (by rw [hS']; exact hRX') hE'
    · have := filt_lt (p := fun i => !listed.getD i false) (q := fun i => !(listed.setIfInBounds j true).getD i false) (j := j) (fun x hx => by
          have hx' := congrFun hS' x
          try simp only at hx'
          rw [hx'] at hx
          revert hx
          cases listed.getD x false <;> simp) (by simp [hSj]) (by have := congrFun hS' j; (try simp only at this); rw [this]; simp) (List.range ops.size) (List.mem_range.2 hjl)
      unfold unl at hu ⊢
      omega
    · intro i hi d hd
      have e1 := congrFun hS' i
      have e2 := congrFun hS' d
      try simp only at e1 e2
      rw [e1, Bool.or_eq_true] at hi
      rw [e2, Bool.or_eq_true]
      rcases hi with hi | hi
      · exact .inl (hcl i hi d hd)
      · have : i = j := by simpa using hi
        subst this
        exact .inl (hdj d hd)

/-- A panic: what must come later waits for it; what need not come earlier has turned no object. -/
def chkP (deps : List (List Nat)) (xs : List XO) (tr : List (Option Eff)) : Bool :=
  chkR deps (reachL deps) && chkZ (reachL deps) (xs.zip tr) && deps.length == xs.length &&
  ((List.range deps.length).all fun i => decide (i ≤ tr.length) || ((reachL deps).getD i []).contains tr.length) &&
  ((List.range tr.length).all fun i => ((reachL deps).getD tr.length []).contains i || (match xs[i]?, tr[i]?, xs[tr.length]? with
    | some y, some o, some x => (setX o).isEmpty && (match y.d with
      | some d => !(readsX x).contains d
      | none => true)
    | _, _, _ => false))

theorem drawn_pan {G0 : Gh} {w0 : World} {x : XO} {e : Eff} {o' : Oper} (hR : chkR deps R = true) (hZ : chkZ R zs = true) (hlen : deps.length = ops.size) (hlt : zs.length < ops.size) (hn : ∀ z ∈ zs, NoNew z.2)
    (hok : ∀ (j : Nat) (z : XO × Option Eff), zs[j]? = some z → StepOK P (nu j) z.1 z.2 (fold zs (fun _ => true) j s)) (hx : ∀ (j : Nat) (z : XO × Option Eff) (o : Oper), zs[j]? = some z → ops[j]? = some o → stripOp ops o = some z.1)
    (hdeps : ∀ (j : Nat) (o : Oper), ops[j]? = some o → deps.getD j [] = depsOf o) (hdN : ∀ z ∈ zs, (match z.1.d with | some d => decide (d < N) | none => true) = true)
    (ho' : ops[zs.length]? = some o') (hxo : stripOp ops o' = some x) (hpan : PanOK P (nu zs.length) x e (fold zs (fun _ => true) zs.length s))
    (hlate : ∀ i, zs.length < i → i < deps.length → zs.length ∈ R.getD i []) (hearly : ∀ i z, zs[i]? = some z → i ∈ R.getD zs.length [] ∨ (setX z.2 = [] ∧ ∀ d, z.1.d = some d → d ∉ readsX x))
    (hfin : ∀ a w G v, V G w e.v v → RX N D G ⟨[], after (fold zs (fun _ => true) zs.length s).hp e⟩ a w → Ev G0 w0 G w → Q (.panic [{ v, recovered := false }]) a w) :
    ∀ (fuel : Nat) (listed : Array Bool) (a : Act) (w : World) (G : Gh), listed.size = ops.size → unl ops.size listed ≤ fuel → listed.getD zs.length false = false →
      (∀ j, listed.getD j false = true → ∀ d ∈ deps.getD j [], listed.getD d false = true) → RX N D G (fold zs (fun i => listed.getD i false) zs.length s) a w → Ev G0 w0 G w → wpAny P .any ops Q fuel listed a w := by
  have hready : ∀ listed : Array Bool, listed.size = ops.size → Region.ready .any ops listed = [] → ∀ i, i < ops.size → listed.getD i false = true := fun listed hls hr i => by
    induction i using Nat.strongRecOn with
    | _ i ih =>
      intro hi
      cases hl : listed.getD i false with
      | true => rfl
      | false =>
        exfalso
        have ho : ops[i]? = some ops[i] := Array.getElem?_eq_getElem hi
        have : i ∈ Region.ready .any ops listed := mem_ready.2 ⟨by
            have : i < listed.size := by omega
            simp [Array.getD_eq_getD_getElem?, Array.getElem?_eq_getElem this] at hl ⊢
            exact hl, _, ho, fun e he hb => by
            have hc := List.all_eq_true.1 hR i (List.mem_range.2 (by omega))
            simp only [Bool.and_eq_true, List.all_eq_true, decide_eq_true_eq] at hc
            have hm : e.on ∈ deps.getD i [] := by
              rw [hdeps i _ ho]
              exact List.mem_map.2 ⟨e, List.mem_filter.2 ⟨by simpa using he, hb⟩, rfl⟩
            have hlt := hc.1 _ hm
            exact ih _ hlt (by omega)⟩
        rw [hr] at this
        cases this
  intro fuel
  induction fuel with
  | zero =>
    intro listed a w G hls hu hj hcl hRX hE
    exfalso
    have hm : zs.length ∈ (List.range ops.size).filter fun i => !listed.getD i false := List.mem_filter.2 ⟨List.mem_range.2 hlt, by simp only [hj]; rfl⟩
    have := List.length_pos_of_mem hm
    unfold unl at hu
    omega
  | succ fuel ih =>
    intro listed a w G hls hu hj hcl hRX hE
    refine ⟨fun hr => ?_, fun j hjr => ?_⟩
    · have := hready listed hls hr zs.length hlt
      rw [hj] at this; cases this
    obtain ⟨h1, o, ho, hdep⟩ := mem_ready.1 hjr
    have hjl : j < ops.size := (Array.getElem?_eq_some_iff.1 ho).1
    have hjs : j < listed.size := by omega
    have hSj : listed.getD j false = false := by
      simp [Array.getD_eq_getD_getElem?, Array.getElem?_eq_getElem hjs] at h1 ⊢
      exact h1
    have hdj : ∀ d ∈ deps.getD j [], listed.getD d false = true := fun d hd => by
      rw [hdeps j o ho] at hd
      obtain ⟨e, he, rfl⟩ := List.mem_map.1 hd
      obtain ⟨h3, h4⟩ := List.mem_filter.1 he
      exact hdep e (by simpa using h3) h4
    rcases Nat.lt_trichotomy j zs.length with hlt' | heq | hgt
    · have hz : zs[j]? = some (zs[j]'hlt') := List.getElem?_eq_getElem _
      have hS' : (fun i => (listed.setIfInBounds j true).getD i false) = fun i => listed.getD i false || decide (i = j) := funext fun i => by
        by_cases hij : i = j
        · subst hij; simp [Array.getD_eq_getD_getElem?, hjs]
        · rw [getD_set_ne false (fun e => hij e.symm)]; simp [hij]
      refine drawn_step hR hZ (by omega) hcl hz hSj hdj hn (hok j _ hz) ho (hx j _ o hz ho) (hdN _ (List.mem_of_getElem? hz)) hRX hE fun a' w' G' hRX' hE' => ih _ a' w' G' (by simpa using hls) ?_ ?_ ?_ (by rw [hS']; exact hRX') hE'
      · have := filt_lt (p := fun i => !listed.getD i false) (q := fun i => !(listed.setIfInBounds j true).getD i false) (j := j) (fun x hx => by
            have hx' := congrFun hS' x
            try simp only at hx'
            rw [hx'] at hx
            revert hx
            cases listed.getD x false <;> simp) (by simp [hSj]) (by have := congrFun hS' j; (try simp only at this); rw [this]; simp) (List.range ops.size) (List.mem_range.2 hjl)
        unfold unl at hu ⊢
        omega
      · have e1 := congrFun hS' zs.length
        try simp only at e1
        rw [e1, hj]
        simp; omega
      · intro i hi d hd
        have e1 := congrFun hS' i
        have e2 := congrFun hS' d
        try simp only at e1 e2
        rw [e1, Bool.or_eq_true] at hi
        rw [e2, Bool.or_eq_true]
        rcases hi with hi | hi
        · exact .inl (hcl i hi d hd)
        · have : i = j := by simpa using hi
          subst this
          exact .inl (hdj d hd)
    · subst heq
      have hdown := chkR_down hR hcl zs.length (by omega) hdj
      have hin : ∀ i z, zs[i]? = some z → listed.getD i false ≠ true → setX z.2 = [] ∧ ∀ d, z.1.d = some d → d ∉ readsX x := fun i z hz hne => (hearly i z hz).resolve_left fun h => hne (hdown i h)
      have hhp : (fold zs (fun i => listed.getD i false) zs.length s).hp = (fold zs (fun _ => true) zs.length s).hp := List.ext_getElem? fun l => fold_obj hn (fun i z hz hne => by rw [(hin i z hz hne).1]; simp) _
      have hrd : ∀ t ∈ readsX x, look (fold zs (fun i => listed.getD i false) zs.length s).l t = look (fold zs (fun _ => true) zs.length s).l t := fun t ht => fold_slot (fun i z hz hne hd => (hin i z hz hne).2 t hd ht) _
      obtain ⟨hg0, hnew, hl⟩ := hpan
      rw [ho] at ho'
      injection ho' with ho'
      subst ho'
      obtain ⟨d, g, op, ow⟩ := x
      have hst : o.op = op ∧ ((o.guard = none ∧ g = none) ∨ ∃ k b t, o.guard = some (k, b) ∧ (ops[k]?).bind (·.dst) = some t ∧ g = some (t, b)) := by
        unfold stripOp at hxo
        split at hxo
        · rename_i hg; injection hxo with hxo; injection hxo with h1 h2 h3 h4; exact ⟨h3, .inl ⟨hg, h2.symm⟩⟩
        · rename_i k b hg
          split at hxo
          · rename_i t ht; injection hxo with hxo; injection hxo with h1 h2 h3 h4; exact ⟨h3, .inr ⟨k, b, t, hg, ht, h2.symm⟩⟩
          · cases hxo
      obtain ⟨rfl, hg⟩ := hst
      simp only [wpOp, ho]
      have hw : Region.wanted o (yielded ops a.tmps) = true := by
        rcases hg with ⟨hg, _⟩ | ⟨k, b, t, hg, ht, hgt⟩
        · simp [Region.wanted, hg]
        · have h1 := hg0 t b hgt
          rw [← hrd t (by simp [readsX, hgt])] at h1
          have htv := hRX.rs.tm t
          rw [show (fold zs (fun i => listed.getD i false) zs.length s).st.tm t = .bool b from h1] at htv
          have e1 : a.tmps.getD t undef = .bool b := by
            generalize a.tmps.getD t undef = u at htv
            cases htv; rfl
          simp [Region.wanted, hg, yielded_of ht e1]
      rw [hw, if_pos rfl]
      have h1 := hl (fold zs (fun i => listed.getD i false) zs.length s).hp ⟨by rw [hhp], fun l _ => by rw [hhp]⟩
      rw [aOpN_congr (f' := look (fold zs (fun i => listed.getD i false) zs.length s).l) (fun x hx => ?_)] at h1
      · refine .inl (sound_opN (s := (fold zs (fun i => listed.getD i false) zs.length s).st) h1 hRX.rs (fun e' v w' G' he => he.elim) fun e' v w' G' he hv hR' hE' => ?_)
        subst he
        refine hfin a w' G' v hv ⟨⟨fun t => .bad _, ?_⟩, hRX.n, hRX.df⟩ (hE.trans hE')
        have hR'' : RH G' (after (fold zs (fun i => listed.getD i false) zs.length s).hp e') w' := hR'
        rw [hhp] at hR''
        exact hR''
      · cases x with
        | tmp t => exact (hrd t (by simp only [readsX]; exact List.mem_append_left _ (List.mem_filterMap.2 ⟨.tmp t, by simpa using hx, rfl⟩))).symm
        | _ => rfl
    · exfalso
      have hdown := chkR_down hR hcl j (by omega) hdj _ (hlate j hgt (by omega))
      rw [hj] at hdown; cases hdown
end
end Go.Proofs.YtlfngjemfpjegaaDoor.Px
