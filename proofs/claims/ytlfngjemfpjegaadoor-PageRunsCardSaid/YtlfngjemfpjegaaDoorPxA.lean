/- The values of the abstract machine (Px), what they stand for in a world, and that this stays as the world goes on. -/
import Derived.Calls
import Derived.Orders
import Derived.Below
import Derived.KernelRfl
import Derived.Laws.Sem
import Derived.Lib.ItoaNum
namespace Go.Proofs.YtlfngjemfpjegaaDoor.Px
open Go
set_option linter.unusedVariables false
set_option linter.unusedSimpArgs false

/-- What is known of a slice's room: none behind its length; nothing; or: the tail number l, at the place e, may be appended to. -/
inductive SK where
  | exact
  | dead
  | tail (l e : Nat)
  deriving DecidableEq

/-- Abstract values: slices hold what they hold; pointers lead to objects by number, or to a value that is never written any more. -/
inductive PV where
  | bad
  | bool (b : Bool)
  | int (k : IntKind) (n : Int)
  | str (s : ByteArray)
  | nilptr
  | ptr (l off : Nat)
  | view (v : PV)
  | nil0
  | slice (c : SK) (es : List PV)
  | mslice (l off n s : Nat)
  | map (l : Nat)
  | nilmap
  | func (f : FuncId) (cs : List PV)
  | nilfunc
  | iface (t : TypeId) (v : PV)
  | niliface
  | agg (cs : List PV)
  | tuple (vs : List PV)

def PV.cells : PV → List PV
  | .agg cs => cs
  | v => [v]
def PV.size (v : PV) : Nat := v.cells.length
def PV.isAgg : PV → Bool
  | .agg _ => true
  | _ => false

/-- An object of the abstract heap. -/
inductive AObj where
  | dead
  /-- A number that no object has yet. -/
  | hole
  | cells (cs : List PV)
  | tip (t : Nat)
  | map (es : List (PV × PV × Nat)) (clock : Nat)

/-- Ghost: which cells are never written any more; the objects' blocks; the tails' places. -/
structure Gh where
  S : Nat → Nat → Prop
  σ : Nat → Option Nat
  H : Nat → Nat → Option (Nat × Nat)
  N : Nat → Nat

/-- A cell that holds a value for good. -/
def Gh.cell (G : Gh) (w : World) (B o : Nat) (u : Value) : Prop := G.S B o ∧ w.cell? ⟨B, o, none⟩ = some u ∧ u.oneCell' = true

inductive V (G : Gh) (w : World) : PV → Value → Prop where
  | bad (u : Value) : V G w .bad u
  | bool (b : Bool) : V G w (.bool b) (.bool b)
  | int (k : IntKind) (n : Int) : V G w (.int k n) (.int k n)
  | str (s : ByteArray) (hm : s.size ≤ 9223372036854775807) : V G w (.str s) (.string s)
  | nilptr : V G w .nilptr (.pointer none)
  | ptr (l off B : Nat) (h : G.σ l = some B) : V G w (.ptr l off) (.pointer (some ⟨B, off, none⟩))
  | view (v : PV) (B o : Nat) (u : Nat → Value)
      (hs : ∀ j, j < v.cells.length → G.cell w B (o + j) (u j))
      (hv : ∀ j (h : j < v.cells.length), V G w v.cells[j] (u j)) : V G w (.view v) (.pointer (some ⟨B, o, none⟩))
  | nil0 (a : Option Addr) : V G w .nil0 (.slice a 0 0)
  | slice (c : SK) (es : List PV) (a : Option Addr) (B o s n cap : Nat) (u : Nat → Value)
      (hn : n = es.length) (hle : n ≤ cap) (hm : n ≤ 9223372036854775807)
      (hsz : ∀ i (h : i < es.length), es[i].cells.length = s)
      (ha : 0 < n → a = some ⟨B, o, none⟩)
      (hs : ∀ j, j < n * s → G.cell w B (o + j) (u j))
      (hv : ∀ i j (h : i < es.length) (h' : j < es[i].cells.length), V G w es[i].cells[j] (u (i * s + j)))
      (he : c = .exact → cap = n)
      (ht : ∀ l e, c = .tail l e → cap = n ∨ (0 < n ∧ a = some ⟨B, o, none⟩ ∧ G.H l e = some (B, o + n * s) ∧ o + cap * s ≤ G.N B)) :
      V G w (.slice c es) (.slice a n cap)
  | mslice (l off n s B cap : Nat) (a : Option Addr) (h : G.σ l = some B) (hle : n ≤ cap) (hm : n ≤ 9223372036854775807) (ha : 0 < cap → a = some ⟨B, off, none⟩) (hN : off + cap * s ≤ G.N B) : V G w (.mslice l off n s) (.slice a n cap)
  | map (l B : Nat) (h : G.σ l = some B) : V G w (.map l) (.map (some B))
  | nilmap : V G w .nilmap (.map none)
  | func (f : FuncId) (cs : List PV) (vs : Array Value) (hl : vs.size = cs.length)
      (hv : ∀ i (h : i < cs.length) (h' : i < vs.size), V G w cs[i] vs[i]) : V G w (.func f cs) (.func (.func f) #[] vs)
  | nilfunc : V G w .nilfunc .nilFunc
  | iface (t : TypeId) (v : PV) (u : Value) (h : V G w v u) : V G w (.iface t v) (.iface t u)
  | niliface : V G w .niliface .nilIface
  | agg (cs : List PV) (vs : Array Value) (hl : vs.size = cs.length) (h1 : ∀ i (h' : i < vs.size), vs[i].oneCell' = true)
      (hv : ∀ i (h : i < cs.length) (h' : i < vs.size), V G w cs[i] vs[i]) : V G w (.agg cs) (.agg vs)
  | tuple (cs : List PV) (vs : Array Value) (hl : vs.size = cs.length)
      (hv : ∀ i (h : i < cs.length) (h' : i < vs.size), V G w cs[i] vs[i]) : V G w (.tuple cs) (.tuple vs)

/-- What a ghost and a world keep of an earlier one, as far as values go. -/
structure Keeps (G : Gh) (w : World) (G' : Gh) (w' : World) : Prop where
  cell : ∀ B o u, G.cell w B o u → G'.cell w' B o u
  σ : ∀ l B, G.σ l = some B → G'.σ l = some B
  H : ∀ l e x, G.H l e = some x → G'.H l e = some x
  N : ∀ l e B o, G.H l e = some (B, o) → G'.N B = G.N B
  Nσ : ∀ l B, G.σ l = some B → G'.N B = G.N B

theorem Keeps.refl (G : Gh) (w : World) : Keeps G w G w := ⟨fun _ _ _ h => h, fun _ _ h => h, fun _ _ _ h => h, fun _ _ _ _ _ => rfl, fun _ _ _ => rfl⟩
theorem Keeps.trans {G G' G'' : Gh} {w w' w'' : World} (h : Keeps G w G' w') (k : Keeps G' w' G'' w'') : Keeps G w G'' w'' :=
  ⟨fun _ _ _ x => k.cell _ _ _ (h.cell _ _ _ x), fun _ _ x => k.σ _ _ (h.σ _ _ x), fun _ _ _ x => k.H _ _ _ (h.H _ _ _ x), fun l e B o x => (k.N l e B o (h.H _ _ _ x)).trans (h.N l e B o x), fun l B x => (k.Nσ l B (h.σ _ _ x)).trans (h.Nσ l B x)⟩

theorem V.mono {G G' : Gh} {w w' : World} (k : Keeps G w G' w') {p : PV} {u : Value} (h : V G w p u) : V G' w' p u := by
  induction h with
  | bad u => exact .bad u
  | bool b => exact .bool b
  | int k n => exact .int k n
  | str s hm => exact .str s hm
  | nilptr => exact .nilptr
  | ptr l off B h => exact .ptr l off B (k.σ _ _ h)
  | view v B o u hs hv ih => exact .view v B o u (fun j h => k.cell _ _ _ (hs j h)) ih
  | nil0 a => exact .nil0 a
  | slice c es a B o s n cap u hn hle hm hsz ha hs hv he ht ih =>
    exact .slice c es a B o s n cap u hn hle hm hsz ha (fun j h => k.cell _ _ _ (hs j h)) ih he
      (fun l e hc => (ht l e hc).imp id fun x => ⟨x.1, x.2.1, k.H _ _ _ x.2.2.1, by rw [k.N _ _ _ _ x.2.2.1]; exact x.2.2.2⟩)
  | mslice l off n s B cap a h hle hm ha hN => exact .mslice l off n s B cap a (k.σ _ _ h) hle hm ha (by rw [k.Nσ _ _ h]; exact hN)
  | map l B h => exact .map l B (k.σ _ _ h)
  | nilmap => exact .nilmap
  | func f cs vs hl hv ih => exact .func f cs vs hl ih
  | nilfunc => exact .nilfunc
  | iface t v u h ih => exact .iface t v u ih
  | niliface => exact .niliface
  | agg cs vs hl h1 hv ih => exact .agg cs vs hl h1 ih
  | tuple cs vs hl hv ih => exact .tuple cs vs hl ih

mutual
/-- Sealed: no tail may be appended to, no pointer leads to an object. -/
def PV.bare : PV → PV
  | .bad => .bad
  | .bool b => .bool b
  | .int k n => .int k n
  | .str s => .str s
  | .nilptr => .nilptr
  | .ptr _ _ => .bad
  | .view v => .view v.bare
  | .nil0 => .slice .dead []
  | .slice _ es => .slice .dead (PV.bareL es)
  | .mslice _ _ _ _ => .bad
  | .map _ => .bad
  | .nilmap => .nilmap
  | .func f cs => .func f (PV.bareL cs)
  | .nilfunc => .nilfunc
  | .iface t v => .iface t v.bare
  | .niliface => .niliface
  | .agg cs => .agg (PV.bareL cs)
  | .tuple cs => .tuple (PV.bareL cs)
def PV.bareL : List PV → List PV
  | [] => []
  | v :: r => v.bare :: PV.bareL r
end
theorem PV.bareL_map : ∀ l : List PV, PV.bareL l = l.map PV.bare
  | [] => rfl
  | v :: r => by rw [PV.bareL, PV.bareL_map r, List.map_cons]

theorem PV.bare_cells (v : PV) : v.bare.cells = v.cells.map PV.bare := by
  cases v <;> simp [PV.bare, PV.cells, PV.bareL_map]

theorem V.bare {G : Gh} {w : World} {p : PV} {u : Value} (h : V G w p u) : V { G with σ := fun _ => none, H := fun _ _ => none } w p.bare u := by
  induction h with
  | bad u => exact .bad u
  | bool b => exact .bool b
  | int k n => exact .int k n
  | str s hm => exact .str s hm
  | nilptr => exact .nilptr
  | ptr l off B h => exact .bad _
  | view v B o u hs hv ih =>
    simp only [PV.bare]
    refine .view _ B o u (fun j h => hs j (by simpa [PV.bare_cells] using h)) (fun j h => ?_)
    have := ih j (by simpa [PV.bare_cells] using h)
    simpa [PV.bare_cells] using this
  | nil0 a =>
    simp only [PV.bare]
    exact .slice .dead [] a 0 0 0 0 0 (fun _ => undef) rfl (Nat.le_refl _) (Nat.zero_le _) (fun i h => by simp at h) (fun h => by omega) (fun j h => by simp at h) (fun i j h => by simp at h) (fun h => by cases h) (fun _ _ h => by cases h)
  | slice c es a B o s n cap u hn hle hm hsz ha hs hv he ht ih =>
    simp only [PV.bare, PV.bareL_map]
    refine .slice .dead _ a B o s n cap u (by simpa using hn) hle hm (fun i h => ?_) ha hs (fun i j h h' => ?_) (fun h => by cases h) (fun _ _ h => by cases h)
    · simp only [List.getElem_map, PV.bare_cells, List.length_map]
      exact hsz i (by simpa using h)
    · have h1 : i < es.length := by simpa using h
      have h2 : j < es[i].cells.length := by simpa [PV.bare_cells] using h'
      have := ih i j h1 h2
      simpa [PV.bare_cells] using this
  | mslice l off n s B cap a h hle hm ha hN => exact .bad _
  | map l B h => exact .bad _
  | nilmap => exact .nilmap
  | func f cs vs hl hv ih =>
    simp only [PV.bare, PV.bareL_map]
    exact .func f _ vs (by simpa using hl) fun i h h' => by simpa using ih i (by simpa using h) h'
  | nilfunc => exact .nilfunc
  | iface t v u h ih => exact .iface t _ u ih
  | niliface => exact .niliface
  | agg cs vs hl h1 hv ih =>
    simp only [PV.bare, PV.bareL_map]
    exact .agg _ vs (by simpa using hl) h1 fun i h h' => by simpa using ih i (by simpa using h) h'
  | tuple cs vs hl hv ih =>
    simp only [PV.bare, PV.bareL_map]
    exact .tuple _ vs (by simpa using hl) fun i h h' => by simpa using ih i (by simpa using h) h'

def SK.ren (ρ : Nat → Nat) : SK → SK
  | .tail l e => .tail (ρ l) e
  | .exact => .exact
  | .dead => .dead
mutual
/-- Renamed: object i is called ρ i. -/
def PV.ren (ρ : Nat → Nat) : PV → PV
  | .bad => .bad
  | .bool b => .bool b
  | .int k n => .int k n
  | .str s => .str s
  | .nilptr => .nilptr
  | .ptr l o => .ptr (ρ l) o
  | .view v => .view (v.ren ρ)
  | .nil0 => .nil0
  | .slice c es => .slice (c.ren ρ) (PV.renL ρ es)
  | .mslice l off n s => .mslice (ρ l) off n s
  | .map l => .map (ρ l)
  | .nilmap => .nilmap
  | .func f cs => .func f (PV.renL ρ cs)
  | .nilfunc => .nilfunc
  | .iface t v => .iface t (v.ren ρ)
  | .niliface => .niliface
  | .agg cs => .agg (PV.renL ρ cs)
  | .tuple cs => .tuple (PV.renL ρ cs)
def PV.renL (ρ : Nat → Nat) : List PV → List PV
  | [] => []
  | v :: r => v.ren ρ :: PV.renL ρ r
end
theorem PV.renL_map (ρ : Nat → Nat) : ∀ l : List PV, PV.renL ρ l = l.map (PV.ren ρ)
  | [] => rfl
  | v :: r => by rw [PV.renL, PV.renL_map ρ r, List.map_cons]

theorem PV.ren_cells (ρ : Nat → Nat) (v : PV) : (v.ren ρ).cells = v.cells.map (PV.ren ρ) := by
  cases v <;> simp [PV.ren, PV.cells, PV.renL_map]

/-- A value of a callee (whose object i is the caller's ρ i) is, renamed, one of the caller's. -/
theorem V.ren {G : Gh} {w : World} (ρ : Nat → Nat) (G1 : Gh) (hS : G1.S = G.S) (hσ : ∀ l B, G1.σ l = some B → G.σ (ρ l) = some B) (hH : ∀ l e x, G1.H l e = some x → G.H (ρ l) e = some x) (hN : G1.N = G.N)
    {p : PV} {u : Value} (h : V G1 w p u) : V G w (p.ren ρ) u := by
  have hcell : ∀ B o x, G1.cell w B o x → G.cell w B o x := fun B o x h => ⟨by rw [← hS]; exact h.1, h.2⟩
  induction h with
  | bad u => exact .bad u
  | bool b => exact .bool b
  | int k n => exact .int k n
  | str s hm => exact .str s hm
  | nilptr => exact .nilptr
  | ptr l off B h => exact .ptr _ off B (hσ _ _ h)
  | view v B o u hs hv ih =>
    simp only [PV.ren]
    refine .view _ B o u (fun j h => hcell _ _ _ (hs j (by simpa [PV.ren_cells] using h))) (fun j h => ?_)
    have := ih j (by simpa [PV.ren_cells] using h)
    simpa [PV.ren_cells] using this
  | nil0 a => exact .nil0 a
  | slice c es a B o s n cap u hn hle hm hsz ha hs hv he ht ih =>
    simp only [PV.ren, PV.renL_map]
    refine .slice _ _ a B o s n cap u (by simpa using hn) hle hm (fun i h => ?_) ha (fun j h => hcell _ _ _ (hs j h)) (fun i j h h' => ?_) (fun h => he ?_) (fun l e h => ?_)
    · simp only [List.getElem_map, PV.ren_cells, List.length_map]
      exact hsz i (by simpa using h)
    · have h1 : i < es.length := by simpa using h
      have h2 : j < es[i].cells.length := by simpa [PV.ren_cells] using h'
      have := ih i j h1 h2
      simpa [PV.ren_cells] using this
    · cases c <;> simp [SK.ren] at h ⊢
    · cases c with
      | tail l' e' =>
        simp only [SK.ren, SK.tail.injEq] at h
        obtain ⟨rfl, rfl⟩ := h
        exact (ht l' e' rfl).imp id fun x => ⟨x.1, x.2.1, hH _ _ _ x.2.2.1, by rw [← hN]; exact x.2.2.2⟩
      | _ => simp [SK.ren] at h
  | mslice l off n s B cap a h hle hm ha hN => exact .mslice _ off n s B cap a (hσ _ _ h) hle hm ha (by rw [← ‹G1.N = G.N›]; exact hN)
  | map l B h => exact .map _ B (hσ _ _ h)
  | nilmap => exact .nilmap
  | func f cs vs hl hv ih =>
    simp only [PV.ren, PV.renL_map]
    exact .func f _ vs (by simpa using hl) fun i h h' => by simpa using ih i (by simpa using h) h'
  | nilfunc => exact .nilfunc
  | iface t v u h ih => exact .iface t _ u ih
  | niliface => exact .niliface
  | agg cs vs hl h1 hv ih =>
    simp only [PV.ren, PV.renL_map]
    exact .agg _ vs (by simpa using hl) h1 fun i h h' => by simpa using ih i (by simpa using h) h'
  | tuple cs vs hl hv ih =>
    simp only [PV.ren, PV.renL_map]
    exact .tuple _ vs (by simpa using hl) fun i h h' => by simpa using ih i (by simpa using h) h'
mutual
/-- Every length within is one that a machine can count. -/
def PV.bd : PV → Prop
  | .str s => s.size ≤ 9223372036854775807
  | .view v => v.bd
  | .slice _ es => es.length ≤ 9223372036854775807 ∧ PV.bdL es
  | .mslice _ _ n _ => n ≤ 9223372036854775807
  | .func _ cs => PV.bdL cs
  | .iface _ v => v.bd
  | .agg cs => PV.bdL cs
  | .tuple cs => PV.bdL cs
  | _ => True
def PV.bdL : List PV → Prop
  | [] => True
  | v :: r => v.bd ∧ PV.bdL r
end
theorem PV.bdL_iff : ∀ l : List PV, PV.bdL l ↔ ∀ i (h : i < l.length), l[i].bd
  | [] => by simp [PV.bdL]
  | v :: r => by
    rw [PV.bdL, PV.bdL_iff r]
    constructor
    · rintro ⟨h, k⟩ i hi
      cases i with
      | zero => exact h
      | succ i => exact k i (by simpa using hi)
    · intro h
      exact ⟨h 0 (by simp), fun i hi => h (i + 1) (by simpa using hi)⟩
theorem PV.bd_cells (v : PV) : v.bd ↔ ∀ i (h : i < v.cells.length), v.cells[i].bd := by
  cases v with
  | agg cs => simp only [PV.bd, PV.cells]; exact PV.bdL_iff cs
  | _ =>
    simp only [PV.cells, List.length_singleton]
    refine ⟨fun h i hi => ?_, fun h => h 0 (by omega)⟩
    have : i = 0 := by omega
    subst this
    exact h
theorem V.bd {G : Gh} {w : World} {p : PV} {u : Value} (h : V G w p u) : p.bd := by
  induction h with
  | str s hm => exact hm
  | view v B o u hs hv ih => exact (PV.bd_cells v).2 ih
  | slice c es a B o s n cap u hn hle hm hsz ha hs hv he ht ih =>
    exact ⟨hn ▸ hm, (PV.bdL_iff es).2 fun i hi => (PV.bd_cells _).2 fun j hj => ih i j hi hj⟩
  | mslice l off n s B cap a h hle hm ha hN => exact hm
  | func f cs vs hl hv ih => exact (PV.bdL_iff cs).2 fun i hi => ih i hi (by omega)
  | iface t v u h ih => exact ih
  | agg cs vs hl h1 hv ih => exact (PV.bdL_iff cs).2 fun i hi => ih i hi (by omega)
  | tuple cs vs hl hv ih => exact (PV.bdL_iff cs).2 fun i hi => ih i hi (by omega)
  | _ => trivial
end Go.Proofs.YtlfngjemfpjegaaDoor.Px
