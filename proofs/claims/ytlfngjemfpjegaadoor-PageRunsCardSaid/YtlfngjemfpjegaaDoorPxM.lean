/- The abstract machine (Px): what a function does (ISpec); handing values and objects over to it, and back. -/
import Derived.Test.YtlfngjemfpjegaaDoorPxL
namespace Go.Proofs.YtlfngjemfpjegaaDoor.Px
open Go Go.RowKit
set_option linter.unusedVariables false
set_option linter.unusedSimpArgs false

def SK.imp (k : Bool) (f : Nat → Option Nat) : SK → SK
  | .exact => if k then .exact else .dead
  | .dead => .dead
  | .tail l e => match f l with
    | some i => .tail i e
    | none => .dead
mutual
/-- Handed over: object l is the callee's f l; what isn't handed over can't be reached. k: what is known of a slice's room is kept. -/
def PV.imp (k : Bool) (f : Nat → Option Nat) : PV → PV
  | .bad => .bad
  | .bool b => .bool b
  | .int k' n => .int k' n
  | .str s => .str s
  | .nilptr => .nilptr
  | .ptr l o => match f l with
    | some i => .ptr i o
    | none => .bad
  | .view v => .view (v.imp k f)
  | .nil0 => if k then .nil0 else .slice .dead []
  | .slice c es => .slice (c.imp k f) (PV.impL k f es)
  | .mslice l o n s => match f l with
    | some i => .mslice i o n s
    | none => .bad
  | .map l => match f l with
    | some i => .map i
    | none => .bad
  | .nilmap => .nilmap
  | .func g cs => .func g (PV.impL k f cs)
  | .nilfunc => .nilfunc
  | .iface t v => .iface t (v.imp k f)
  | .niliface => .niliface
  | .agg cs => .agg (PV.impL k f cs)
  | .tuple cs => .tuple (PV.impL k f cs)
def PV.impL (k : Bool) (f : Nat → Option Nat) : List PV → List PV
  | [] => []
  | v :: r => v.imp k f :: PV.impL k f r
end
theorem PV.impL_map (k : Bool) (f : Nat → Option Nat) : ∀ l : List PV, PV.impL k f l = l.map (PV.imp k f)
  | [] => rfl
  | v :: r => by rw [PV.impL, PV.impL_map k f r, List.map_cons]
theorem imp_cells_of {k : Bool} {f : Nat → Option Nat} (v : PV) : (v.imp k f).cells = v.cells.map (PV.imp k f) := by
  cases v with
  | ptr l o => simp only [PV.imp, PV.cells, List.map_cons, List.map_nil]; cases f l <;> rfl
  | mslice l o n s => simp only [PV.imp, PV.cells, List.map_cons, List.map_nil]; cases f l <;> rfl
  | map l => simp only [PV.imp, PV.cells, List.map_cons, List.map_nil]; cases f l <;> rfl
  | nil0 => cases k <;> simp [PV.imp, PV.cells]
  | agg cs => simp [PV.imp, PV.cells, PV.impL_map]
  | _ => simp [PV.imp, PV.cells]

theorem V.imp {G G1 : Gh} {w : World} {k : Bool} {f : Nat → Option Nat} (hS : G1.S = G.S) (hσ : ∀ l i B, f l = some i → G.σ l = some B → G1.σ i = some B) (hH : ∀ l i e x, f l = some i → G.H l e = some x → G1.H i e = some x) (hN : G1.N = G.N)
    {p : PV} {u : Value} (h : V G w p u) : V G1 w (p.imp k f) u := by
  have hcell : ∀ B o x, G.cell w B o x → G1.cell w B o x := fun B o x h => ⟨by rw [hS]; exact h.1, h.2⟩
  induction h with
  | bad u => simp only [PV.imp]; exact .bad u
  | bool b => simp only [PV.imp]; exact .bool b
  | int k n => simp only [PV.imp]; exact .int k n
  | str s hm => simp only [PV.imp]; exact .str s hm
  | nilptr => simp only [PV.imp]; exact .nilptr
  | ptr l off B h =>
    simp only [PV.imp]
    cases hf : f l with
    | none => exact .bad _
    | some i => exact .ptr i off B (hσ l i B hf h)
  | view v B o u hs hv ih =>
    simp only [PV.imp]
    refine .view _ B o u (fun j h => hcell _ _ _ (hs j (by simpa [imp_cells_of] using h))) (fun j h => ?_)
    have := ih j (by simpa [imp_cells_of] using h)
    simpa [imp_cells_of] using this
  | nil0 a =>
    simp only [PV.imp]
    split
    · exact .nil0 a
    · exact .slice .dead [] a 0 0 0 0 0 (fun _ => undef) rfl (Nat.le_refl _) (Nat.zero_le _) (fun i h => by simp at h) (fun h => by omega) (fun j h => by simp at h) (fun i j h => by simp at h) (fun h => by cases h) (fun _ _ h => by cases h)
  | slice c es a B o s n cap u hn hle hm hsz ha hs hv he ht ih =>
    simp only [PV.imp, PV.impL_map]
    refine .slice _ _ a B o s n cap u (by simpa using hn) hle hm (fun i h => ?_) ha (fun j h => hcell _ _ _ (hs j h)) (fun i j h h' => ?_) (fun h => he ?_) (fun l e h => ?_)
    · simp only [List.getElem_map, imp_cells_of, List.length_map]
      exact hsz i (by simpa using h)
    · have h1 : i < es.length := by simpa using h
      have h2 : j < es[i].cells.length := by simpa [imp_cells_of] using h'
      have := ih i j h1 h2
      simpa [imp_cells_of] using this
    · cases c with
      | exact => rfl
      | dead => cases h
      | tail l e => simp only [SK.imp] at h; split at h <;> cases h
    · cases c with
      | exact => simp only [SK.imp] at h; split at h <;> cases h
      | dead => cases h
      | tail l' e' =>
        simp only [SK.imp] at h
        split at h
        · rename_i i hi
          injection h with h1 h2
          subst h1; subst h2
          refine (ht l' e' rfl).imp id fun x => ⟨x.1, x.2.1, hH _ _ _ _ hi x.2.2.1, by rw [hN]; exact x.2.2.2⟩
        · cases h
  | mslice l off n s B cap a h hle hm ha hN0 =>
    simp only [PV.imp]
    cases hf : f l with
    | none => exact .bad _
    | some i => exact .mslice i off n s B cap a (hσ l i B hf h) hle hm ha (by rw [hN]; exact hN0)
  | map l B h =>
    simp only [PV.imp]
    cases hf : f l with
    | none => exact .bad _
    | some i => exact .map i B (hσ l i B hf h)
  | nilmap => simp only [PV.imp]; exact .nilmap
  | func g cs vs hl hv ih =>
    simp only [PV.imp, PV.impL_map]
    exact .func g _ vs (by simpa using hl) fun i h h' => by simpa using ih i (by simpa using h) h'
  | nilfunc => simp only [PV.imp]; exact .nilfunc
  | iface t v u h ih => simp only [PV.imp]; exact .iface t _ u ih
  | niliface => simp only [PV.imp]; exact .niliface
  | agg cs vs hl h1 hv ih =>
    simp only [PV.imp, PV.impL_map]
    exact .agg _ vs (by simpa using hl) h1 fun i h h' => by simpa using ih i (by simpa using h) h'
  | tuple cs vs hl hv ih =>
    simp only [PV.imp, PV.impL_map]
    exact .tuple _ vs (by simpa using hl) fun i h h' => by simpa using ih i (by simpa using h) h'

def AObj.imp (f : Nat → Option Nat) : AObj → AObj
  | .dead => .dead
  | .hole => .hole
  | .cells cs => .cells (PV.impL true f cs)
  | .tip t => .tip t
  | .map es c => .map (es.map fun x => (x.1.imp true f, x.2.1.imp true f, x.2.2)) c
def AObj.ren (ρ : Nat → Nat) : AObj → AObj
  | .dead => .dead
  | .hole => .hole
  | .cells cs => .cells (PV.renL ρ cs)
  | .tip t => .tip t
  | .map es c => .map (es.map fun x => (x.1.ren ρ, x.2.1.ren ρ, x.2.2)) c

/-- How a call ends. -/
inductive Out where
  | ret (v : PV)
  | pan (v : PV)
def OutRel (G : Gh) (w : World) : Out → Ending → Prop
  | .ret p, .returned v => V G w p v
  | .pan p, .panicked c => ∃ v, c = [{ v, recovered := false }] ∧ V G w p v
  | _, _ => False
def Out.ren (ρ : Nat → Nat) : Out → Out
  | .ret v => .ret (v.ren ρ)
  | .pan v => .pan (v.ren ρ)

/-- What a call does: with these values and these objects (numbered from 0) it ends so, and leaves these objects. -/
def ISpec (P : Program) (f : FuncId) (args : List PV) (L : List AObj) (out : Out) (L' : List AObj) : Prop :=
  ∀ (G : Gh) (w : World) (cargs : Array Value), RH G L w → VL G w args cargs.toList →
    Calls P f cargs w fun e w' => ∃ G', OutRel G' w' out e ∧ RH G' L' w' ∧ Ev G w G' w'
/-- A call that reaches no object and leaves none. -/
def PSpec (P : Program) (f : FuncId) (args : List PV) (out : Out) : Prop := ISpec P f args [] out []

section
variable {P : Program} {hp : List AObj} {G : Gh} {w : World}

/-- The callee's ghost: object i is the caller's rs[i]. -/
def Gh.sub (G : Gh) (rs : List Nat) : Gh :=
  { S := G.S, N := G.N, σ := fun i => (rs[i]?).bind G.σ, H := fun i e => (rs[i]?).bind fun l => G.H l e }

theorem idx_of {rs : List Nat} {l i : Nat} (h : rs.idxOf? l = some i) : rs[i]? = some l := by
  obtain ⟨h1, h2⟩ := List.findIdx?_eq_some_iff_getElem.1 h
  rw [List.getElem?_eq_getElem h1]
  have := h2.1
  simpa using this

theorem sub_V {rs : List Nat} {k : Bool} {p : PV} {u : Value} (h : V G w p u) : V (G.sub rs) w (p.imp k rs.idxOf?) u :=
  V.imp (G := G) (G1 := G.sub rs) (f := rs.idxOf?) rfl (fun l i B hi hB => by simp [Gh.sub, idx_of hi, hB]) (fun l i e x hi hx => by simp [Gh.sub, idx_of hi, hx]) rfl h

/-- The objects that are handed over, as the callee sees them. -/
def handed (hp : List AObj) (rs : List Nat) : List AObj := rs.map fun l => (hp.getD l .dead).imp rs.idxOf?

theorem nodup_get {rs : List Nat} (hn : rs.Nodup) {i j l : Nat} (hi : rs[i]? = some l) (hj : rs[j]? = some l) : i = j := by
  obtain ⟨h1, h2⟩ := List.getElem?_eq_some_iff.1 hi
  obtain ⟨h3, h4⟩ := List.getElem?_eq_some_iff.1 hj
  exact (List.getElem_inj hn).1 (h2.trans h4.symm)

theorem sub_σ {rs : List Nat} {i B : Nat} (h : (G.sub rs).σ i = some B) : ∃ l, rs[i]? = some l ∧ G.σ l = some B := by
  simp only [Gh.sub, Option.bind_eq_some_iff] at h
  exact h
theorem sub_H {rs : List Nat} {i e : Nat} {x : Nat × Nat} (h : (G.sub rs).H i e = some x) : ∃ l, rs[i]? = some l ∧ G.H l e = some x := by
  simp only [Gh.sub, Option.bind_eq_some_iff] at h
  exact h

theorem ORel.sub {rs : List Nat} (hn : rs.Nodup) {l i : Nat} (hi : rs[i]? = some l) {o : AObj} (h : ORel G w l o) : ORel (G.sub rs) w i (o.imp rs.idxOf?) := by
  have e : ∀ x, (rs[i]?).bind x = (x l : Option Nat) := fun x => by rw [hi]; rfl
  cases o with
  | dead => trivial
  | hole => exact ⟨by simp [Gh.sub, hi, h.1], fun e => by simp [Gh.sub, hi, h.2]⟩
  | cells cs =>
    obtain ⟨B, arr, ty, fr, h1, h2, h3, h4, h5, h6⟩ := h
    refine ⟨B, arr, ty, fr, by simp [Gh.sub, hi, h1], h2, h3, h4, ⟨h5.1, by simpa [PV.impL_map] using h5.2⟩, fun j hj hj' => ?_⟩
    have := h6 j (by simpa [PV.impL_map] using hj) hj'
    simp only [PV.impL_map, List.getElem_map]
    exact ⟨sub_V this.1, this.2⟩
  | tip t =>
    intro B o ho
    obtain ⟨l', hl', hx⟩ := sub_H ho
    rw [hi] at hl'
    injection hl' with hl'
    subst hl'
    exact h B o hx
  | map es c =>
    obtain ⟨B, ces, h1, h2, h3, h4, h5⟩ := h
    refine ⟨B, ces, by simp [Gh.sub, hi, h1], h2, h3, by simpa using h4, fun j hj hj' => ?_⟩
    have := h5 j (by simpa using hj) hj'
    simp only [List.getElem_map]
    exact ⟨sub_V this.1, sub_V this.2.1, this.2.2⟩

theorem RH.sub {rs : List Nat} (hR : RH G hp w) (hn : rs.Nodup) (hlt : ∀ l ∈ rs, l < hp.length) : RH (G.sub rs) (handed hp rs) w := by
  have hmem : ∀ {i l : Nat}, rs[i]? = some l → l < hp.length := fun h => hlt _ (List.mem_of_getElem? h)
  have hlen : (handed hp rs).length = rs.length := by simp [handed]
  have hfp : ∀ B, (G.sub rs).Fp B → G.Fp B := fun B h => by
    rcases h with ⟨i, h⟩ | ⟨i, e, o, h⟩
    · obtain ⟨l, hl, hB⟩ := sub_σ h; exact .inl ⟨l, hB⟩
    · obtain ⟨l, hl, hB⟩ := sub_H h; exact .inr ⟨l, e, o, hB⟩
  refine RH.of (hR.tab.sub hfp) ⟨fun i hi => ?_, fun i B h => ?_, fun i j B d d' h h' => ?_, fun i e B o h => ?_, fun i j e e' B o o' h h' => ?_, hR.Sdom, fun i t ht e x hx => ?_⟩
  · have hi' : i < rs.length := by rw [← hlen]; exact hi
    have hl := hmem (List.getElem?_eq_getElem hi')
    have e1 : (handed hp rs)[i] = (hp[rs[i]]).imp rs.idxOf? := by
      simp only [handed, List.getElem_map]
      rw [List.getD_eq_getElem?_getD, List.getElem?_eq_getElem hl, Option.getD_some]
    rw [e1]
    exact (hR.obj _ hl).sub hn (List.getElem?_eq_getElem hi')
  · obtain ⟨l, hl, hB⟩ := sub_σ h
    exact ⟨by rw [hlen]; exact (List.getElem?_eq_some_iff.1 hl).1, (hR.σdom _ _ hB).2⟩
  · obtain ⟨l, hl, hB⟩ := sub_σ h
    obtain ⟨l', hl', hB'⟩ := sub_σ h'
    have hlive : ∀ {i l : Nat}, rs[i]? = some l → (handed hp rs)[i]? ≠ some .dead → hp[l]? ≠ some .dead := fun {i l} hl hd h0 => hd (by
      simp [handed, hl, List.getD_eq_getElem?_getD, h0, AObj.imp])
    obtain rfl := hR.σinj _ _ _ (hlive hl d) (hlive hl' d') hB hB'
    exact nodup_get hn hl hl'
  · obtain ⟨l, hl, hx⟩ := sub_H h
    have := hR.Hdom _ _ _ _ hx
    refine ⟨by rw [hlen]; exact (List.getElem?_eq_some_iff.1 hl).1, this.2.1, fun j hj => ?_⟩
    obtain ⟨l', _, hB'⟩ := sub_σ hj
    exact this.2.2 l' hB'
  · obtain ⟨l, hl, hx⟩ := sub_H h
    obtain ⟨l', hl', hx'⟩ := sub_H h'
    obtain rfl := hR.Hdisj _ _ _ _ _ _ _ hx hx'
    exact nodup_get hn hl hl'
  · obtain ⟨l, hl, hx⟩ := sub_H hx
    have h1 := hmem hl
    have h2 : (handed hp rs)[i]? = some ((hp.getD l .dead).imp rs.idxOf?) := by simp [handed, hl]
    rw [h2] at ht
    injection ht with ht
    rw [List.getD_eq_getElem?_getD, List.getElem?_eq_getElem h1, Option.getD_some] at ht
    cases ho : hp[l] with
    | tip t' =>
      rw [ho] at ht
      simp only [AObj.imp, AObj.tip.injEq] at ht
      subst ht
      exact hR.Htip l t' (by rw [List.getElem?_eq_getElem h1, ho]) e x hx
    | dead => rw [ho] at ht; cases ht
    | hole => rw [ho] at ht; cases ht
    | cells cs => rw [ho] at ht; cases ht
    | map es c => rw [ho] at ht; cases ht
end
end Go.Proofs.YtlfngjemfpjegaaDoor.Px
