/- The abstract machine (Px): its heap, how it stands to a world's, and how both go on. -/
import Derived.Test.YtlfngjemfpjegaaDoorPxA
namespace Go.Proofs.YtlfngjemfpjegaaDoor.Px
open Go Go.RowKit
set_option linter.unusedVariables false
set_option linter.unusedSimpArgs false

/-- Constants as abstract values. -/
def ofConst : Value → PV
  | .bool b => .bool b
  | .int k n => .int k n
  | .string s => if s.size ≤ 9223372036854775807 then .str s else .bad
  | .pointer none => .nilptr
  | .slice none 0 0 => .nil0
  | .map none => .nilmap
  | .nilFunc => .nilfunc
  | .nilIface => .niliface
  | .agg cs => if cs.all (·.oneCell') then .agg (cs.toList.map fun
      | .bool b => .bool b
      | .int k n => .int k n
      | .string s => if s.size ≤ 9223372036854775807 then .str s else .bad
      | .pointer none => .nilptr
      | .slice none 0 0 => .nil0
      | .map none => .nilmap
      | .nilFunc => .nilfunc
      | .nilIface => .niliface
      | _ => .bad) else .bad
  | _ => .bad

theorem ofConst_V (G : Gh) (w : World) (v : Value) : V G w (ofConst v) v := by
  unfold ofConst
  split
  · exact .bool _
  · exact .int _ _
  · split
    · exact .str _ ‹_›
    · exact .bad _
  · exact .nilptr
  · exact .nil0 _
  · exact .nilmap
  · exact .nilfunc
  · exact .niliface
  · rename_i cs
    split
    case isFalse => exact .bad _
    rename_i hall
    refine .agg _ _ (by simp) (fun i h' => by simpa using (Array.all_eq_true.1 hall) i h') fun i h h' => ?_
    simp only [List.getElem_map, Array.getElem_toList]
    split
    all_goals first | (rename_i he; rw [he]; split; exact .str _ ‹_›; exact .bad _) | (rename_i he; rw [he]; constructor) | (rename_i b he; rw [he]; constructor) | (rename_i k n he; rw [he]; constructor) | constructor
  · exact .bad _

structure St where
  tm : Nat → PV
  hp : List AObj

def St.put (s : St) (d : Option Nat) (v : PV) : St :=
  match d with
  | some t => { s with tm := fun i => if i = t then v else s.tm i }
  | none => s

def St.ev (s : St) : Operand → PV
  | .tmp t => s.tm t
  | .const v => ofConst v
  | .global _ => .bad
  | .func f => .func f []

/-- How an object lies in a world. -/
def ORel (G : Gh) (w : World) (l : Nat) : AObj → Prop
  | .dead => True
  | .hole => G.σ l = none ∧ ∀ e, G.H l e = none
  | .cells cs => ∃ B arr ty fr, G.σ l = some B ∧ (∀ o, ¬ G.S B o) ∧ w.heap[B]? = some (.cells arr ty fr) ∧ fr.2 ≤ fr.1 ∧ (arr.size = G.N B ∧ cs.length ≤ arr.size) ∧
      ∀ i (h : i < cs.length) (h' : i < arr.size), V G w cs[i] arr[i] ∧ arr[i].oneCell' = true
  | .tip t => ∀ B o, G.H l t = some (B, o) → (∃ arr ty fr, w.heap[B]? = some (.cells arr ty fr) ∧ (fr.2 ≤ fr.1 ∨ fr.2 ≤ o) ∧ arr.size = G.N B) ∧ ∀ o', o ≤ o' → ¬ G.S B o'
  | .map es clock => ∃ B ces, G.σ l = some B ∧ (∀ o, ¬ G.S B o) ∧ w.heap[B]? = some (.map ces clock) ∧ ces.size = es.length ∧
      ∀ i (h : i < es.length) (h' : i < ces.size), V G w es[i].1 ces[i].key ∧ V G w es[i].2.1 ces[i].val ∧ ces[i].born = es[i].2.2

/-- The blocks that the ghost's objects and tails lie in. -/
def Gh.Fp (G : Gh) (B : Nat) : Prop := (∃ l, G.σ l = some B) ∨ ∃ l e o, G.H l e = some (B, o)

/-- The tables that the program lays and never writes. -/
def TAB : List (Nat × Array Value) := [(0, (Go.Lib.pow10Tab.map (Value.int .u64)).toArray)]
def Tabs (G : Gh) (w : World) : Prop := ∀ x ∈ TAB, x.1 < w.heap.size ∧ ¬ G.Fp x.1 ∧ ∃ ty fr, w.heap[x.1]? = some (.cells x.2 ty fr)

structure RH0 (G : Gh) (hp : List AObj) (w : World) : Prop where
  obj : ∀ l (h : l < hp.length), ORel G w l hp[l]
  σdom : ∀ l B, G.σ l = some B → l < hp.length ∧ B < w.heap.size
  σinj : ∀ l l' B, hp[l]? ≠ some .dead → hp[l']? ≠ some .dead → G.σ l = some B → G.σ l' = some B → l = l'
  Hdom : ∀ l e B o, G.H l e = some (B, o) → l < hp.length ∧ B < w.heap.size ∧ ∀ l', G.σ l' ≠ some B
  Hdisj : ∀ l l' e e' B o o', G.H l e = some (B, o) → G.H l' e' = some (B, o') → l = l'
  Sdom : ∀ B o, G.S B o → B < w.heap.size
  Htip : ∀ l t, hp[l]? = some (.tip t) → ∀ e x, G.H l e = some x → e ≤ t
structure RH (G : Gh) (hp : List AObj) (w : World) : Prop extends RH0 G hp w where
  tab : Tabs G w

structure Ev (G : Gh) (w : World) (G' : Gh) (w' : World) : Prop where
  keeps : Keeps G w G' w'
  os : w'.os = w.os
  tape : w'.tape = w.tape
  output : w'.output = w.output
  size : w.heap.size ≤ w'.heap.size
  other : ∀ B, B < w.heap.size → ¬ G.Fp B → w'.heap[B]? = w.heap[B]?
  Sold : ∀ B, B < w.heap.size → ¬ G.Fp B → ∀ o, G'.S B o → G.S B o
  fp : ∀ B, G'.Fp B → G.Fp B ∨ w.heap.size ≤ B
  Nsame : ∀ B, B < w.heap.size → G'.N B = G.N B

theorem Ev.tab {G G' : Gh} {w w' : World} (h : Ev G w G' w') (k : Tabs G w) : Tabs G' w' := fun x hx => by
  obtain ⟨k1, k2, ty, fr, k3⟩ := k x hx
  refine ⟨Nat.lt_of_lt_of_le k1 h.size, fun hf => ?_, ty, fr, (h.other _ k1 k2).trans k3⟩
  rcases h.fp _ hf with h1 | h1
  · exact k2 h1
  · omega
theorem Tabs.sub {G G' : Gh} {w : World} (k : Tabs G w) (h : ∀ B, G'.Fp B → G.Fp B) : Tabs G' w := fun x hx => ⟨(k x hx).1, fun hf => (k x hx).2.1 (h _ hf), (k x hx).2.2⟩
theorem RH.of {G : Gh} {w : World} {hp : List AObj} (k : Tabs G w) (h : RH0 G hp w) : RH G hp w := ⟨h, k⟩
theorem andTab {G G' : Gh} {w w' : World} {hp' : List AObj} (k : Tabs G w) (h : RH0 G' hp' w' ∧ Ev G w G' w') : RH G' hp' w' ∧ Ev G w G' w' := ⟨⟨h.1, h.2.tab k⟩, h.2⟩
theorem Ev.refl (G : Gh) (w : World) : Ev G w G w := ⟨.refl _ _, rfl, rfl, rfl, Nat.le_refl _, fun _ _ _ => rfl, fun _ _ _ _ h => h, fun _ h => .inl h, fun _ _ => rfl⟩
theorem Keeps.fp {G G' : Gh} {w w' : World} (h : Keeps G w G' w') {B : Nat} (hf : G.Fp B) : G'.Fp B := by
  rcases hf with ⟨l, hl⟩ | ⟨l, e, o, hl⟩
  · exact .inl ⟨l, h.σ _ _ hl⟩
  · exact .inr ⟨l, e, o, h.H _ _ _ hl⟩
theorem Ev.trans {G G' G'' : Gh} {w w' w'' : World} (h : Ev G w G' w') (k : Ev G' w' G'' w'') : Ev G w G'' w'' := by
  have hb : ∀ B, B < w.heap.size → ¬ G.Fp B → ¬ G'.Fp B := fun B hB hn hf => by
    rcases h.fp B hf with h1 | h1
    · exact hn h1
    · omega
  refine ⟨h.keeps.trans k.keeps, k.os.trans h.os, k.tape.trans h.tape, k.output.trans h.output, Nat.le_trans h.size k.size, ?_, ?_, ?_, fun B hB => (k.Nsame B (Nat.lt_of_lt_of_le hB h.size)).trans (h.Nsame B hB)⟩
  · intro B hB hn
    exact (k.other B (Nat.lt_of_lt_of_le hB h.size) (hb B hB hn)).trans (h.other B hB hn)
  · intro B hB hn o ho
    exact h.Sold B hB hn o (k.Sold B (Nat.lt_of_lt_of_le hB h.size) (hb B hB hn) o ho)
  · intro B hf
    rcases k.fp B hf with h1 | h1
    · exact h.fp B h1
    · exact .inr (Nat.le_trans h.size h1)

theorem ORel.mono {G G' : Gh} {w w' : World} (k : Keeps G w G' w') {l : Nat} {o : AObj} (h : ORel G w l o)
    (hσ : ∀ B, G.σ l = some B → w'.heap[B]? = w.heap[B]? ∧ ∀ x, G'.S B x → G.S B x)
    (hH : ∀ e B x, G'.H l e = some (B, x) → G.H l e = some (B, x) ∧ w'.heap[B]? = w.heap[B]? ∧ ∀ x, G'.S B x → G.S B x) (hn : ∀ B, G'.σ l = some B → G.σ l = some B) : ORel G' w' l o := by
  cases o with
  | dead => trivial
  | hole =>
    refine ⟨?_, fun e => ?_⟩
    · cases hs : G'.σ l with
      | none => rfl
      | some B => rw [h.1] at hn; exact absurd (hn B hs) (by simp)
    · cases hs : G'.H l e with
      | none => rfl
      | some x => have := (hH e x.1 x.2 hs).1; rw [h.2] at this; cases this
  | cells cs =>
    obtain ⟨B, arr, ty, fr, h1, h2, h3, h4, h5, h6⟩ := h
    obtain ⟨e1, e2⟩ := hσ B h1
    exact ⟨B, arr, ty, fr, k.σ _ _ h1, fun o ho => h2 o (e2 o ho), e1.trans h3, h4, ⟨h5.1.trans (k.Nσ _ _ h1).symm, h5.2⟩, fun i hi hi' => ⟨(h6 i hi hi').1.mono k, (h6 i hi hi').2⟩⟩
  | tip t =>
    intro B x hx
    obtain ⟨g1, g2, g3⟩ := hH t B x hx
    obtain ⟨⟨arr, ty, fr, h3, h4, h6⟩, h5⟩ := h B x g1
    exact ⟨⟨arr, ty, fr, g2.trans h3, h4, by rw [k.N _ _ _ _ g1]; exact h6⟩, fun o' ho' hs => h5 o' ho' (g3 o' hs)⟩
  | map es clock =>
    obtain ⟨B, ces, h1, h2, h3, h4, h5⟩ := h
    obtain ⟨e1, e2⟩ := hσ B h1
    exact ⟨B, ces, k.σ _ _ h1, fun o ho => h2 o (e2 o ho), e1.trans h3, h4, fun i hi hi' => ⟨(h5 i hi hi').1.mono k, (h5 i hi hi').2.1.mono k, (h5 i hi hi').2.2⟩⟩

theorem cell_of_heap {w w' : World} {B : Nat} (h : w'.heap[B]? = w.heap[B]?) (o : Nat) : w'.cell? ⟨B, o, none⟩ = w.cell? ⟨B, o, none⟩ := by
  simp only [World.cell?, h]

/-- The world has new blocks, cells of which may be stable; nothing old has turned. -/
theorem RH.extend {G : Gh} {hp : List AObj} {w w' : World} (hR : RH G hp w) (hb : Below w.heap.size w w') (S' : Nat → Nat → Prop)
    (h1 : ∀ B o, G.S B o → S' B o) (h2 : ∀ B o, S' B o → G.S B o ∨ (w.heap.size ≤ B ∧ B < w'.heap.size)) :
    RH { G with S := S' } hp w' ∧ Ev G w { G with S := S' } w' := by
  have hk : Keeps G w { G with S := S' } w' := ⟨fun B o u ⟨hS, hc, h1c⟩ => ⟨h1 _ _ hS, by rw [cell_of_heap (hb.block B (hR.Sdom _ _ hS))]; exact hc, h1c⟩, fun _ _ h => h, fun _ _ _ h => h, fun _ _ _ _ _ => rfl, fun _ _ _ => rfl⟩
  have hold : ∀ B, B < w.heap.size → ∀ o, S' B o → G.S B o := fun B hB o hS => (h2 B o hS).resolve_right (by omega)
  have hev : Ev G w { G with S := S' } w' := ⟨hk, hb.os, hb.tape, hb.output, hb.size, fun B hB _ => hb.block B hB, fun B hB _ o ho => hold B hB o ho, fun B h => .inl h, fun _ _ => rfl⟩
  refine andTab hR.tab ⟨⟨fun l hl => ?_, fun l B h => ?_, hR.σinj, fun l e B o h => ?_, hR.Hdisj, fun B o h => ?_, hR.Htip⟩, hev⟩
  · refine (hR.obj l hl).mono hk (fun B hB => ⟨hb.block B (hR.σdom _ _ hB).2, fun x hx => hold B (hR.σdom _ _ hB).2 x hx⟩) (fun e B x hx => ?_) (fun B h => h)
    have hB := (hR.Hdom _ _ _ _ hx).2.1
    exact ⟨hx, hb.block B hB, fun y hy => hold B hB y hy⟩
  · exact ⟨(hR.σdom _ _ h).1, Nat.lt_of_lt_of_le (hR.σdom _ _ h).2 hb.size⟩
  · exact ⟨(hR.Hdom _ _ _ _ h).1, Nat.lt_of_lt_of_le (hR.Hdom _ _ _ _ h).2.1 hb.size, (hR.Hdom _ _ _ _ h).2.2⟩
  · rcases h2 B o h with h | h
    · exact Nat.lt_of_lt_of_le (hR.Sdom _ _ h) hb.size
    · exact h.2

theorem below_alloc' (w : World) (o : Obj) : Below w.heap.size w (w.alloc o) := (Below.refl _ _).alloc (Nat.le_refl _) o
theorem heap_alloc_self (w : World) (o : Obj) : (w.alloc o).heap[w.heap.size]? = some o := by
  show (w.heap.push o)[w.heap.size]? = some o
  simp

/-- The ghost with a new object (number n) in block B. -/
def Gh.addσ (G : Gh) (n B sz : Nat) : Gh := { G with σ := fun l => if l = n then some B else G.σ l, N := fun b => if b = B then sz else G.N b }

/-- An object is dropped. -/
theorem RH.kill {G : Gh} {hp : List AObj} {w : World} (hR : RH G hp w) (l : Nat) : RH G (hp.set l .dead) w := by
  refine ⟨⟨fun l' hl' => ?_, fun l' B h => by simpa using hR.σdom l' B h, fun l1 l2 B h1 h2 => hR.σinj l1 l2 B (fun h => h1 ?_) (fun h => h2 ?_), fun l' e B o h => by simpa using hR.Hdom l' e B o h, hR.Hdisj, hR.Sdom, fun l' t ht e x hx => ?_⟩, hR.tab⟩
  · have hl'' : l' < hp.length := by simpa using hl'
    rw [List.getElem_set]
    split
    · trivial
    · exact hR.obj l' hl''
  · rw [List.getElem?_set]; split
    · split
      · rfl
      · rw [List.getElem?_eq_none (by omega)] at h; cases h
    · exact h
  · rw [List.getElem?_set]; split
    · split
      · rfl
      · rw [List.getElem?_eq_none (by omega)] at h; cases h
    · exact h
  · rw [List.getElem?_set] at ht
    split at ht
    · split at ht <;> cases ht
    · exact hR.Htip l' t ht e x hx

/-- A new object of cells, in a new block. -/
theorem RH.newObj {G : Gh} {hp : List AObj} {w w' : World} (hR : RH G hp w) (hb : Below w.heap.size w w') (cs : List PV) (arr : Array Value) (ty : TypeId) (hw : w'.heap[w.heap.size]? = some (.cells arr ty (0, 0))) (hl : cs.length ≤ arr.size)
    (hv : ∀ i (h : i < cs.length) (h' : i < arr.size), V G w cs[i] arr[i] ∧ arr[i].oneCell' = true) :
    RH (G.addσ hp.length w.heap.size arr.size) (hp ++ [.cells cs]) w' ∧ Ev G w (G.addσ hp.length w.heap.size arr.size) w' ∧
      (G.addσ hp.length w.heap.size arr.size).σ hp.length = some w.heap.size := by
  have hlt0 : w.heap.size < w'.heap.size := (Array.getElem?_eq_some_iff.1 hw).1
  have hne : ∀ l B, G.σ l = some B → l ≠ hp.length := fun l B h e => by have := (hR.σdom _ _ h).1; omega
  have hN : ∀ B, B < w.heap.size → (G.addσ hp.length w.heap.size arr.size).N B = G.N B := fun B h => by simp only [Gh.addσ]; rw [if_neg (by omega)]
  have hk : Keeps G w (G.addσ hp.length w.heap.size arr.size) w' :=
    ⟨fun B o u ⟨hS, hc, h1c⟩ => ⟨hS, by rw [cell_of_heap (hb.block B (hR.Sdom _ _ hS))]; exact hc, h1c⟩, fun l B h => by simp only [Gh.addσ]; rw [if_neg (hne l B h)]; exact h, fun _ _ _ h => h, fun l e B o h => hN B (hR.Hdom _ _ _ _ h).2.1, fun l B h => hN B (hR.σdom _ _ h).2⟩
  have hev : Ev G w (G.addσ hp.length w.heap.size arr.size) w' := by
    refine ⟨hk, hb.os, hb.tape, hb.output, hb.size, fun B hB _ => hb.block B hB, fun B hB _ o ho => ho, fun B h => ?_, hN⟩
    rcases h with ⟨l, h⟩ | ⟨l, e, o, h⟩
    · simp only [Gh.addσ] at h
      by_cases e : l = hp.length
      · rw [if_pos e] at h; injection h with h; exact .inr (by omega)
      · rw [if_neg e] at h; exact .inl (.inl ⟨l, h⟩)
    · exact .inl (.inr ⟨l, e, o, h⟩)
  refine ⟨⟨⟨fun l hl' => ?_, fun l B h => ?_, fun l l' B d d' h h' => ?_, fun l e B o h => ?_, hR.Hdisj, fun B o h => ?_, fun l t ht e x hx => hR.Htip l t (by rw [← ht, List.getElem?_append_left (hR.Hdom l e x.1 x.2 hx).1]) e x hx⟩, hev.tab hR.tab⟩, hev, by simp [Gh.addσ]⟩
  · by_cases hlt : l < hp.length
    · rw [List.getElem_append_left hlt]
      refine (hR.obj l hlt).mono hk (fun B hB => ⟨hb.block B (hR.σdom _ _ hB).2, fun x hx => hx⟩) (fun e B x hx => ?_) ?_
      · exact ⟨hx, hb.block B (hR.Hdom _ _ _ _ hx).2.1, fun y hy => hy⟩
      · intro B hB; simp only [Gh.addσ] at hB; rwa [if_neg (by omega)] at hB
    · have hll : l = hp.length := by simp at hl'; omega
      subst hll
      rw [List.getElem_append_right (Nat.le_refl _)]
      simp only [Nat.sub_self, List.getElem_cons_zero]
      exact ⟨w.heap.size, arr, ty, (0, 0), by simp [Gh.addσ], fun o ho => absurd (hR.Sdom _ _ ho) (Nat.lt_irrefl _), hw, Nat.le_refl _, ⟨by simp [Gh.addσ], hl⟩, fun i h h' => ⟨(hv i h h').1.mono hk, (hv i h h').2⟩⟩
  · simp only [Gh.addσ] at h
    by_cases e : l = hp.length
    · rw [if_pos e] at h; injection h with h; subst h; subst e; simp; exact hlt0
    · rw [if_neg e] at h; have := hR.σdom _ _ h; simp; omega
  · simp only [Gh.addσ] at h h'
    by_cases e : l = hp.length <;> by_cases e' : l' = hp.length
    · rw [e, e']
    · rw [if_pos e] at h; rw [if_neg e'] at h'; injection h with h; subst h; have := (hR.σdom _ _ h').2; omega
    · rw [if_neg e] at h; rw [if_pos e'] at h'; injection h' with h'; subst h'; have := (hR.σdom _ _ h).2; omega
    · rw [if_neg e] at h; rw [if_neg e'] at h'
      rw [List.getElem?_append_left (hR.σdom _ _ h).1] at d
      rw [List.getElem?_append_left (hR.σdom _ _ h').1] at d'
      exact hR.σinj _ _ _ d d' h h'
  · have := hR.Hdom _ _ _ _ h
    refine ⟨by simp; omega, by omega, fun l' hl' => ?_⟩
    simp only [Gh.addσ] at hl'
    by_cases e' : l' = hp.length
    · rw [if_pos e'] at hl'; injection hl' with hl'; omega
    · rw [if_neg e'] at hl'; exact this.2.2 l' hl'
  · have := hR.Sdom _ _ h; omega

/-- A new object of cells. -/
theorem RH.allocCells {G : Gh} {hp : List AObj} {w : World} (hR : RH G hp w) (cs : List PV) (arr : Array Value) (ty : TypeId) (hl : cs.length ≤ arr.size)
    (hv : ∀ i (h : i < cs.length) (h' : i < arr.size), V G w cs[i] arr[i] ∧ arr[i].oneCell' = true) :
    RH (G.addσ hp.length w.heap.size arr.size) (hp ++ [.cells cs]) (w.alloc (.cells arr ty)) ∧ Ev G w (G.addσ hp.length w.heap.size arr.size) (w.alloc (.cells arr ty)) ∧
      (G.addσ hp.length w.heap.size arr.size).σ hp.length = some w.heap.size :=
  hR.newObj (below_alloc' w (.cells arr ty)) cs arr ty (heap_alloc_self _ _) hl hv
end Go.Proofs.YtlfngjemfpjegaaDoor.Px
