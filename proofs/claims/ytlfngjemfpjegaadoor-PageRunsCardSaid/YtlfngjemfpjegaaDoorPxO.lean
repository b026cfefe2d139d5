/- The abstract machine (Px): one operation, whatever it is. -/
import Derived.Test.YtlfngjemfpjegaaDoorPxN
namespace Go.Proofs.YtlfngjemfpjegaaDoor.Px
open Go Go.RowKit
set_option linter.unusedVariables false
set_option linter.unusedSimpArgs false

/-- A function with a body in Go. -/
def isFn (P : Program) (f : FuncId) : Bool :=
  match P.funcs[f]? with
  | some fn => fn.body.isSome && fn.name != "runtime.NumGoroutine"
  | none => false

def aPick (c a b : PV) (K : Eff → Prop) : Prop :=
  match c with
  | .bool x => match a, b with
    | .bool y, .bool z => K { v := .bool (bif x then y else z) }
    | y, z => K { v := bif x then y else z }
  | _ => False

/-- A call of a Go function: what it reaches is told by a spec. -/
def aFun (P : Program) (hp : List AObj) (g : FuncId) (args : List PV) (K X : Eff → Prop) : Prop :=
  isFn P g = true ∧
  ((∃ out, PSpec P g (args.map PV.bare) out ∧ (match out with | .ret r => r.bd → K { v := r } | .pan r => X { v := r })) ∨
   (∃ rs out L', ISpec P g (args.map (PV.imp false rs.idxOf?)) (handed hp rs) out L' ∧ (rs.Nodup ∧ (∀ l ∈ rs, l < hp.length ∧ hp[l]? ≠ some .dead) ∧ rs.length ≤ L'.length) ∧
      (match out with
        | .ret r => r.bd → K { v := r.ren (backN hp.length rs), set := backSet (backN hp.length rs) rs L', new := backNew (backN hp.length rs) rs.length L', rd := rs }
        | .pan r => X { v := r.ren (backN hp.length rs), set := backSet (backN hp.length rs) rs L', new := backNew (backN hp.length rs) rs.length L', rd := rs })))

def aCall (P : Program) (s : St) (c : Call) (K X : Eff → Prop) : Prop :=
  match c.callee with
  | .builtin b => match b, c.args.toList, c.argTypes.toList with
    | .len, [x], [t] => aLen P t (s.ev x) K
    | .append, [x, y], [t1, t2] => aAppend P s.hp t1 t2 (s.ev x) (s.ev y) K
    | .copy, [x, y], [t1, _] => aCopy P s.hp t1 (s.ev x) (s.ev y) K
    | .min, [x, y], _ => aMin (s.ev x) (s.ev y) K
    | .max, [x, y], _ => aMax (s.ev x) (s.ev y) K
    | _, _, _ => False
  | .value f => match s.ev f with
    | .func g cs => aFun P s.hp g (c.args.toList.map s.ev ++ cs) K X
    | _ => False
  | _ => False

def aOp (P : Program) (s : St) (op : Op) (K X : Eff → Prop) : Prop :=
  match op with
  | .move x => K { v := s.ev x }
  | .assign x => K { v := s.ev x }
  | .pick c a b => aPick (s.ev c) (s.ev a) (s.ev b) K
  | .alloc t => aAlloc P s.hp t K
  | .box _ x => aBox s.hp (s.ev x) K
  | .build t parts => aBuild P t (parts.toList.map fun x => (x.1, s.ev x.2)) K
  | .buildSlice t n parts => aBuildSlice P t n (parts.toList.map fun x => (x.1, s.ev x.2)) K
  | .makeSlice t x y => aMake P s.hp t (s.ev x) (s.ev y) K
  | .load t a => aLoad P s.hp t (s.ev a) K
  | .store t a v => aStore P s.hp t (s.ev a) (s.ev v) K
  | .nilCheck x => (match s.ev x with | .ptr _ _ => True | .view _ => True | .func _ _ => True | _ => False) ∧ K { v := s.ev x }
  | .binOp op t x y _ => aBin P op t (s.ev x) (s.ev y) fun v => K { v := v }
  | .unOp op _ x => aUn op (s.ev x) fun v => K { v := v }
  | .convert src dst x => aConv P src dst (s.ev x) K
  | .makeInterface t x => (match (tinf P t).map (·.kd) with | Option.some TK.iface => False | Option.some _ => True | Option.none => False) ∧ K { v := .iface t (s.ev x) }
  | .makeFunc fn first cs => match fn with
    | .func f => first.size = 0 ∧ K { v := .func f (cs.toList.map s.ev) }
    | _ => False
  | .slice t x lo hi mx => aSlice P t (s.ev x) (lo.map s.ev) (hi.map s.ev) (mx.map s.ev) K
  | .fieldAddr t x i => aFieldAddr P t i (s.ev x) K
  | .field t x i => aField P t i (s.ev x) K
  | .indexAddr t x i => aIndexAddr P t (s.ev x) (s.ev i) K
  | .index t x i => aIndex P t (s.ev x) (s.ev i) K
  | .extract x i => aExtract (s.ev x) i K
  | .typeAssert x _ to ok => aTA P to ok (s.ev x) K
  | .call c => aCall P s c K X
  | .panic x => match s.ev x with
    | .iface t v => X { v := .iface t v }
    | _ => False
  | _ => False

/-- What is made or grown is an object of one's own. -/
def aOwn (P : Program) (s : St) (op : Op) (K : Eff → Prop) : Prop :=
  match op with
  | .buildSlice t n parts => aBuildO P s.hp t n (parts.toList.map fun x => (x.1, s.ev x.2)) K
  | .call ⟨.builtin .append, args, ts⟩ => match args.toList, ts.toList with
    | [x, y], [t1, t2] => aAppO P s.hp t1 t2 (s.ev x) (s.ev y) K
    | _, _ => False
  | _ => False
def aOpO (P : Program) (own : Bool) (s : St) (op : Op) (K X : Eff → Prop) : Prop := if own then aOwn P s op K else aOp P s op K X

/-- The state and the model's: slots and objects. -/
structure RS (G : Gh) (s : St) (a : Act) (w : World) : Prop where
  tm : ∀ t, V G w (s.tm t) (a.tmps.getD t undef)
  hp : RH G s.hp w

section
variable {P : Program} {s : St} {G : Gh} {w : World} {a : Act}

theorem RS.ev (h : RS G s a w) (x : Operand) : V G w (s.ev x) (a.eval x) := by
  cases x with
  | tmp t => exact h.tm t
  | const v => exact ofConst_V _ _ _
  | global g => exact .bad _
  | func f => exact .func f [] #[] rfl fun i h => by simp at h

/-- What goes on behind an operation: K's effects, or X's. -/
def Goes (hp : List AObj) (G : Gh) (w : World) (K : Eff → Prop) (f : Value → World → Prop) : Prop :=
  ∀ e v w' G', K e → V G' w' e.v v → RH G' (after hp e) w' → Ev G w G' w' → f v w'

theorem Ok.wp {K : Eff → Prop} {m : Sem Value} {o : Oper} {next : Act → World → Prop} {Q : Exit → Act → World → Prop} (h : Ok P s.hp G w K m) (hm : execOp a.eval o = (do pure (.value (← m))))
    (hK : Goes s.hp G w K fun v w' => next (a.put o.dst v) w') : o.wp P a w next Q := by
  obtain ⟨e, v, w', G', hk, hr, hv, hR, hE⟩ := h
  unfold Oper.wp
  rw [hm]
  simp only [Sem.run_bind, hr, Result.andThen_ok, Sem.run_pure, Oper.upon]
  exact hK e v w' G' hk hv hR hE

theorem PL.of_ev (h : RS G s a w) (parts : Array (Nat × Operand)) : PL G w (parts.toList.map fun x => (x.1, s.ev x.2)) (parts.map fun (i, x) => (i, a.eval x)).toList :=
  ⟨by simp, fun i h1 h2 => by simp; exact h.ev _⟩
theorem VL.of_ev (h : RS G s a w) (xs : List Operand) : VL G w (xs.map s.ev) (xs.map a.eval) :=
  ⟨by simp, fun i h1 h2 => by simp; exact h.ev _⟩
theorem VL.bare {ps : List PV} {us : List Value} (h : VL G w ps us) : VL { G with σ := fun _ => none, H := fun _ _ => none } w (ps.map PV.bare) us :=
  ⟨by simpa using h.1, fun i h1 h2 => by simpa using (h.2 i (by simpa using h1) h2).bare⟩
theorem VL.imp {rs : List Nat} {ps : List PV} {us : List Value} (h : VL G w ps us) : VL (G.sub rs) w (ps.map (PV.imp false rs.idxOf?)) us :=
  ⟨by simpa using h.1, fun i h1 h2 => by simpa using sub_V (h.2 i (by simpa using h1) h2)⟩

theorem rh_none {hp : List AObj} (h : RH G hp w) : RH { G with σ := fun _ => none, H := fun _ _ => none } [] w :=
  RH.of (h.tab.sub fun B hB => by rcases hB with ⟨i, h⟩ | ⟨i, e, o, h⟩ <;> cases h) ⟨fun l hl => by simp at hl, fun l B h => by simp at h, fun l l' B _ _ h => by simp at h, fun l e B o h => by simp at h, fun l l' e e' B o o' h => by simp at h, h.Sdom, fun l t h => by simp at h⟩

/-- Behind a call that reaches no object: the caller's objects are as they were. -/
theorem RH.behind {hp : List AObj} {G' : Gh} {w' : World} (hR : RH G hp w) (hR' : RH G' [] w') (hE : Ev { G with σ := fun _ => none, H := fun _ _ => none } w G' w') :
    RH { G' with σ := G.σ, H := G.H } hp w' ∧ Ev G w { G' with σ := G.σ, H := G.H } w' ∧ Keeps G' w' { G' with σ := G.σ, H := G.H } w' := by
  have hnf : ∀ B, ¬ (Gh.Fp { G with σ := fun _ => none, H := fun _ _ => none } B) := fun B h => by
    rcases h with ⟨l, h⟩ | ⟨l, e, o, h⟩ <;> cases h
  have hsame : ∀ B, B < w.heap.size → w'.heap[B]? = w.heap[B]? := fun B hB => hE.other B hB (hnf B)
  have hold : ∀ B, B < w.heap.size → ∀ o, G'.S B o → G.S B o := fun B hB o h => hE.Sold B hB (hnf B) o h
  have hσ' : ∀ l B, G'.σ l = some B → False := fun l B h => by have := (hR'.σdom l B h).1; simp at this
  have hH' : ∀ l e x, G'.H l e = some x → False := fun l e x h => by have := (hR'.Hdom l e x.1 x.2 h).1; simp at this
  have hk : Keeps G w { G' with σ := G.σ, H := G.H } w' := ⟨fun B o u h => hE.keeps.cell B o u h, fun _ _ h => h, fun _ _ _ h => h, fun l e B o h => hE.Nsame B (hR.Hdom _ _ _ _ h).2.1, fun l B h => hE.Nsame B (hR.σdom _ _ h).2⟩
  refine (fun a b => ⟨(andTab hR.tab ⟨a, b.1⟩).1, b⟩ : ∀ (a : RH0 { G' with σ := G.σ, H := G.H } hp w') (b : Ev G w { G' with σ := G.σ, H := G.H } w' ∧ Keeps G' w' { G' with σ := G.σ, H := G.H } w'), _ ∧ _ ∧ _) ⟨fun l hl => ?_, fun l B h => ⟨(hR.σdom _ _ h).1, Nat.lt_of_lt_of_le (hR.σdom _ _ h).2 hE.size⟩, hR.σinj, fun l e B o h => ⟨(hR.Hdom _ _ _ _ h).1, Nat.lt_of_lt_of_le (hR.Hdom _ _ _ _ h).2.1 hE.size, (hR.Hdom _ _ _ _ h).2.2⟩, hR.Hdisj, hR'.Sdom, hR.Htip⟩
    ⟨⟨hk, hE.os, hE.tape, hE.output, hE.size, fun B hB _ => hsame B hB, fun B hB _ o h => hold B hB o h, fun B h => .inl h, hE.Nsame⟩, ⟨fun B o u h => h, fun l B h => (hσ' l B h).elim, fun l e x h => (hH' l e x h).elim, fun _ _ _ _ _ => rfl, fun _ _ _ => rfl⟩⟩
  refine (hR.obj l hl).mono hk (fun B hB => ⟨hsame B (hR.σdom _ _ hB).2, fun x hx => hold B (hR.σdom _ _ hB).2 x hx⟩) (fun e B x hx => ?_) (fun B h => h)
  have hB := (hR.Hdom _ _ _ _ hx).2.1
  exact ⟨hx, hsame B hB, fun y hy => hold B hB y hy⟩

theorem sound_fun {g : FuncId} {args : List PV} {us : Array Value} {K X : Eff → Prop} {next : Value → World → Prop} {Q : List PanicEntry → World → Prop} (h : aFun P s.hp g args K X) (hv : VL G w args us.toList) (hR : RH G s.hp w)
    (hK : Goes s.hp G w K next) (hX : Goes s.hp G w X fun v w' => Q [{ v, recovered := false }] w') :
    Calls P g us w fun
      | .returned v, w' => next v w'
      | .panicked c, w' => Q c w'
      | .outgrown, _ => False := by
  obtain ⟨_, h⟩ := h
  rcases h with ⟨out, hs, h⟩ | ⟨rs, out, L', hs, ⟨hn, hlt, hlen⟩, h⟩
  · refine (hs { G with σ := fun _ => none, H := fun _ _ => none } w us (rh_none hR) hv.bare).mono fun e w' ⟨G', ho, hR', hE⟩ => ?_
    obtain ⟨hR2, hE2, hk2⟩ := hR.behind hR' hE
    cases out with
    | ret r =>
      cases e with
      | returned v => exact hK _ v w' _ (h (V.bd ho)) (V.mono hk2 ho) (by simpa [after, setAll] using hR2) hE2
      | _ => exact ho.elim
    | pan r =>
      cases e with
      | panicked c =>
        obtain ⟨v, rfl, hV⟩ := ho
        exact hX _ v w' _ h (V.mono hk2 hV) (by simpa [after, setAll] using hR2) hE2
      | _ => exact ho.elim
  · refine (hs (G.sub rs) w us (hR.sub hn fun l hl => (hlt l hl).1) hv.imp).mono fun e w' ⟨G', ho, hR', hE⟩ => ?_
    obtain ⟨hR2, hE2⟩ := hR.back hn (fun l hl => (hlt l hl).1) hR' hE hlen fun l hl => (hlt l hl).2
    cases out with
    | ret r =>
      cases e with
      | returned v => exact hK _ v w' _ (h (V.bd ho)) (back_V hn (fun l hl => (hlt l hl).1) ho) hR2 hE2
      | _ => exact ho.elim
    | pan r =>
      cases e with
      | panicked c =>
        obtain ⟨v, rfl, hV⟩ := ho
        exact hX _ v w' _ h (back_V hn (fun l hl => (hlt l hl).1) hV) hR2 hE2
      | _ => exact ho.elim

theorem run_callFunc {g : FuncId} {us : Array Value} (h : isFn P g = true) : (callFunc g us).run P w = .ok (.enter g us) w := by
  unfold isFn at h
  split at h
  · rename_i fn hfn
    simp only [Bool.and_eq_true, bne_iff_ne, ne_eq] at h
    obtain ⟨b, hb⟩ := Option.isSome_iff_exists.1 h.1
    simp [callFunc, hfn, h.2, hb]
  · cases h

theorem opt_ev (h : RS G s a w) {x : Option Operand} : (∀ p, x.map s.ev = some p → ∃ u, x.map a.eval = some u ∧ V G w p u) ∧ (x.map s.ev = none → x.map a.eval = none) := by
  cases x with
  | none => exact ⟨fun p hp => by simp at hp, fun _ => rfl⟩
  | some x => exact ⟨fun p hp => by simp at hp; subst hp; exact ⟨_, rfl, h.ev x⟩, fun h => by simp at h⟩

theorem sound_op {o : Oper} {K X : Eff → Prop} {next : Act → World → Prop} {Q : Exit → Act → World → Prop} (h : aOp P s o.op K X) (hR : RS G s a w)
    (hK : Goes s.hp G w K fun v w' => next (a.put o.dst v) w') (hX : Goes s.hp G w X fun v w' => Q (.panic [{ v, recovered := false }]) a w') : o.wp P a w next Q := by
  obtain ⟨dst, op, type, pos, aft, guard⟩ := o
  cases op <;> simp only [aOp] at h
  case move x => exact Ok.wp (m := pure (a.eval x)) (.val [] h (by simp) (hR.ev x) hR.hp) (by simp [execOp]) hK
  case assign x => exact Ok.wp (m := pure (a.eval x)) (.val [] h (by simp) (hR.ev x) hR.hp) (by simp [execOp]) hK
  case pick c x y =>
    have hc := hR.ev c
    unfold aPick at h
    split at h
    · rename_i b hb
      rw [hb] at hc
      have ec : a.eval c = .bool b := by generalize a.eval c = u at hc; cases hc; rfl
      have hx := hR.ev x
      have hy := hR.ev y
      have hp : ∃ p, K { v := p } ∧ V G w p (if b then a.eval x else a.eval y) := by
        split at h
        · rename_i bx by_ hbx hby
          rw [hbx] at hx; rw [hby] at hy
          refine ⟨_, h, ?_⟩
          cases b
          · exact hy
          · exact hx
        · refine ⟨_, h, ?_⟩
          cases b
          · exact hy
          · exact hx
      obtain ⟨p, hk, hv⟩ := hp
      exact Ok.wp (m := pure (if b then a.eval x else a.eval y)) (.val [] hk (by simp) hv hR.hp) (by simp [execOp, ec, asBool]) hK
    · exact h.elim
  case alloc t => exact Ok.wp (sound_alloc h hR.hp) rfl hK
  case box t x => exact Ok.wp (sound_box h (hR.ev x) hR.hp) rfl hK
  case build t parts => exact Ok.wp (sound_build h (PL.of_ev hR parts) hR.hp) rfl hK
  case buildSlice t n parts => exact Ok.wp (sound_buildSlice h (PL.of_ev hR parts) hR.hp) rfl hK
  case makeSlice t x y => exact Ok.wp (sound_make h (hR.ev x) (hR.ev y) hR.hp) rfl hK
  case load t x => exact Ok.wp (sound_load h (hR.ev x) hR.hp) rfl hK
  case store t x v =>
    obtain ⟨e, w', G', hk, hr, he, hR', hE⟩ := sound_store h (hR.ev x) (hR.ev v) hR.hp
    unfold Oper.wp
    simp only [execOp, Sem.run_bind, hr, Result.andThen_ok, Sem.run_pure, Oper.upon]
    exact hK e undef w' G' hk (by rw [he]; exact .bad _) hR' hE
  case nilCheck x =>
    obtain ⟨h1, hk⟩ := h
    have hx := hR.ev x
    refine Ok.wp (m := pure (a.eval x)) (.val [] hk (by simp) hx hR.hp) ?_ hK
    simp only [execOp]
    split at h1
    · rename_i he; rw [he] at hx; generalize a.eval x = u at hx; cases hx; rfl
    · rename_i he; rw [he] at hx; generalize a.eval x = u at hx; cases hx; rfl
    · rename_i he; rw [he] at hx; generalize a.eval x = u at hx; cases hx; rfl
    · exact h1.elim
  case binOp op t x y yt =>
    obtain ⟨r, rv, hk, hr, hv⟩ := sound_bin (P := P) op t x y _ _ _ _ _ h (hR.ev x) (hR.ev y)
    exact Ok.wp (m := mBin op t x y (a.eval x) (a.eval y)) (.val [] hk hr hv hR.hp) rfl hK
  case unOp op t x =>
    obtain ⟨r, rv, hk, hr, hv⟩ := sound_un (P := P) op _ _ _ h (hR.ev x)
    exact Ok.wp (.val [] hk hr hv hR.hp) rfl hK
  case convert src dst' x => exact Ok.wp (sound_conv h (hR.ev x) hR.hp) rfl hK
  case makeInterface t x =>
    obtain ⟨h1, hk⟩ := h
    refine Ok.wp (m := Instr.makeInterface t (a.eval x)) (.val [] hk (v := .iface t (a.eval x)) ?_ (.iface _ _ _ (hR.ev x)) hR.hp) rfl hK
    cases hti : tinf P t with
    | none => rw [hti] at h1; exact h1.elim
    | some ti =>
      obtain ⟨inf, d, z, hT⟩ := tinf_of hti
      rw [hti] at h1
      have hne : ∀ ms, d ≠ .interface ms := fun ms e => by
        have := hT.kd
        rw [e] at this
        simp only [kdOf] at this
        simp only [Option.map_some, this] at h1
      simp only [Instr.makeInterface, Sem.run_bind, run_underlying hT.und, Result.andThen_ok]
      cases d <;> first | rfl | exact absurd rfl (hne _)
  case makeFunc fn first cs =>
    split at h
    · rename_i f
      obtain ⟨h0, hk⟩ := h
      have he : first = #[] := Array.eq_empty_of_size_eq_zero h0
      subst he
      have hvl := VL.of_ev hR cs.toList
      refine Ok.wp (m := pure (.func (.func f) #[] (cs.map a.eval))) (.val [] hk (v := .func (.func f) #[] (cs.map a.eval)) rfl (.func f _ _ (by simp) fun i h1 h2 => ?_) hR.hp) (by simp [execOp, Instr.makeFunc]) hK
      have := hvl.2 i h1 (by simpa using h2)
      simpa using this
    · exact h.elim
  case slice t x lo hi mx =>
    exact Ok.wp (sound_slice h (hR.ev x) (opt_ev hR).1 (opt_ev hR).2 (opt_ev hR).1 (opt_ev hR).2 (opt_ev hR).1 (opt_ev hR).2 hR.hp) rfl hK
  case fieldAddr t x i => exact Ok.wp (sound_fieldAddr h (hR.ev x) hR.hp) rfl hK
  case field t x i => exact Ok.wp (sound_field h (hR.ev x) hR.hp) rfl hK
  case indexAddr t x i => exact Ok.wp (sound_indexAddr h (hR.ev x) (hR.ev i) hR.hp) rfl hK
  case index t x i => exact Ok.wp (sound_index h (hR.ev x) (hR.ev i) hR.hp) rfl hK
  case extract x i => exact Ok.wp (sound_extract h (hR.ev x) hR.hp) rfl hK
  case typeAssert x xT to ok => exact Ok.wp (sound_ta (xT := xT) h (hR.ev x) hR.hp) rfl hK
  case call c =>
    obtain ⟨callee, args, argTypes⟩ := c
    unfold aCall at h
    cases callee with
    | builtin b =>
      simp only at h
      split at h
      · rename_i ha ht
        have ha := Array.toList_inj.1 (ha.trans (List.toList_toArray ..).symm)
        have ht := Array.toList_inj.1 (ht.trans (List.toList_toArray ..).symm)
        subst ha ht
        exact Ok.wp (sound_len h (hR.ev _) hR.hp) (by simp [execOp, resolve, invoke, builtin]; rfl) hK
      · rename_i ha ht
        have ha := Array.toList_inj.1 (ha.trans (List.toList_toArray ..).symm)
        have ht := Array.toList_inj.1 (ht.trans (List.toList_toArray ..).symm)
        subst ha ht
        exact Ok.wp (sound_append h (hR.ev _) (hR.ev _) hR.hp) (by simp [execOp, resolve, invoke, builtin]; rfl) hK
      · rename_i ha ht
        have ha := Array.toList_inj.1 (ha.trans (List.toList_toArray ..).symm)
        have ht := Array.toList_inj.1 (ht.trans (List.toList_toArray ..).symm)
        subst ha ht
        exact Ok.wp (sound_copy h (hR.ev _) (hR.ev _) hR.hp) (by simp [execOp, resolve, invoke, builtin]; rfl) hK
      · rename_i ha
        have ha := Array.toList_inj.1 (ha.trans (List.toList_toArray ..).symm)
        subst ha
        exact Ok.wp (sound_min h (hR.ev _) (hR.ev _) hR.hp) (by simp [execOp, resolve, invoke, builtin]; rfl) hK
      · rename_i ha
        have ha := Array.toList_inj.1 (ha.trans (List.toList_toArray ..).symm)
        subst ha
        exact Ok.wp (sound_max h (hR.ev _) (hR.ev _) hR.hp) (by simp [execOp, resolve, invoke, builtin]; rfl) hK
      · exact h.elim
    | value f =>
      simp only at h
      have hf := hR.ev f
      split at h
      · rename_i g cs he
        rw [he] at hf
        have hcs : ∃ vs, a.eval f = .func (.func g) #[] vs ∧ VL G w cs vs.toList := by
          generalize a.eval f = u at hf
          cases hf with
          | func _ _ vs hl hv => exact ⟨vs, rfl, by simpa using hl, fun i h1 h2 => by simpa using hv i h1 (by simpa using h2)⟩
        obtain ⟨vs, hvs, hcs⟩ := hcs
        have hargs : VL G w (args.toList.map s.ev ++ cs) (args.map a.eval ++ vs).toList := by
          have := (VL.of_ev hR args.toList).append hcs
          simpa using this
        have hc := sound_fun (next := fun v w' => next (a.put dst v) w') (Q := fun c w' => Q (.panic c) a w') h hargs hR.hp hK hX
        unfold Oper.wp
        have hr : (execOp a.eval ⟨dst, .call ⟨.value f, args, argTypes⟩, type, pos, aft, guard⟩).run P w = .ok (.enter g (args.map a.eval ++ vs)) w := by
          simp [execOp, resolve, hvs, Deferred.ofValue, invoke, run_callFunc h.1]
        rw [hr]
        simp only [Oper.upon]
        exact hc.mono fun e w' he => by cases e <;> first | exact he | exact he.elim
      · exact h.elim
    | invoke r m => exact h.elim
  case panic x =>
    have hx := hR.ev x
    split at h
    · rename_i t v he
      rw [he] at hx
      unfold Oper.wp
      have : ∃ u, a.eval x = .iface t u := by
        generalize a.eval x = u at hx
        cases hx with
        | iface _ _ u _ => exact ⟨u, rfl⟩
      obtain ⟨u, hu⟩ := this
      rw [hu] at hx
      have hr : (execOp a.eval ⟨dst, .panic x, type, pos, aft, guard⟩).run P w = .halt (.panic (.iface t u)) w := by
        simp [execOp, hu, Instr.panic]
      rw [hr]
      simp only [Oper.upon]
      exact hX _ _ _ _ h hx (by simpa [after, setAll] using hR.hp) (.refl _ _)
    · exact h.elim

theorem sound_own {o : Oper} {K : Eff → Prop} {next : Act → World → Prop} {Q : Exit → Act → World → Prop} (h : aOwn P s o.op K) (hR : RS G s a w)
    (hK : Goes s.hp G w K fun v w' => next (a.put o.dst v) w') : o.wp P a w next Q := by
  obtain ⟨dst, op, type, pos, aft, guard⟩ := o
  unfold aOwn at h
  split at h
  · rename_i t n parts heq
    simp only at heq
    subst heq
    exact Ok.wp (sound_buildO h (PL.of_ev hR parts) hR.hp) rfl hK
  · rename_i args ts heq
    simp only at heq
    subst heq
    split at h
    · rename_i ha ht
      have ha := Array.toList_inj.1 (ha.trans (List.toList_toArray ..).symm)
      have ht := Array.toList_inj.1 (ht.trans (List.toList_toArray ..).symm)
      subst ha ht
      exact Ok.wp (sound_appO h (hR.ev _) (hR.ev _) hR.hp) (by simp [execOp, resolve, invoke, builtin]; rfl) hK
    · exact h.elim
  · exact h.elim

theorem sound_opO {own : Bool} {o : Oper} {K X : Eff → Prop} {next : Act → World → Prop} {Q : Exit → Act → World → Prop} (h : aOpO P own s o.op K X) (hR : RS G s a w)
    (hK : Goes s.hp G w K fun v w' => next (a.put o.dst v) w') (hX : Goes s.hp G w X fun v w' => Q (.panic [{ v, recovered := false }]) a w') : o.wp P a w next Q := by
  unfold aOpO at h
  split at h
  · exact sound_own h hR hK
  · exact sound_op h hR hK hX
end
end Go.Proofs.YtlfngjemfpjegaaDoor.Px
