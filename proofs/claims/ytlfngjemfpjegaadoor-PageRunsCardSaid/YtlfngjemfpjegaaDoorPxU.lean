/- The abstract machine (Px): what a function does, told by a run of its stripped code; weakening of states. -/
import Derived.Test.YtlfngjemfpjegaaDoorPxT
import Derived.OwnWalk
namespace Go.Proofs.YtlfngjemfpjegaaDoor.Px
open Go Go.RowKit
set_option linter.unusedVariables false
set_option linter.unusedSimpArgs false

def enum : Nat → List PV → List (Nat × PV)
  | _, [] => []
  | n, v :: r => (n, v) :: enum (n + 1) r
theorem look_enum : ∀ (l : List PV) (n t : Nat), look (enum n l) t = if n ≤ t then l.getD (t - n) .bad else .bad
  | [], n, t => by simp [enum, look]
  | v :: r, n, t => by
    simp only [enum, look_if, look_enum r (n + 1) t]
    by_cases h : t = n
    · subst h; simp
    · rw [if_neg h]
      by_cases h' : n ≤ t
      · rw [if_pos h', if_pos (by omega)]
        obtain ⟨k, hk⟩ : ∃ k, t - n = k + 1 := ⟨t - n - 1, by omega⟩
        rw [show t - (n + 1) = k by omega, hk]
        simp
      · rw [if_neg h', if_neg (by omega)]

def rvOf (P : Program) (s : XS) : ResultVar → Option PV
  | .tmp t => some (look s.l t)
  | .cell a ty => match tinf P ty, look s.l a with
    | some ti, .ptr l off => match s.hp[l]? with
      | some (.cells cs) => if off + ti.sz ≤ cs.length ∧ 0 < ti.sz then some (partP cs off ti.sz ti.agg) else none
      | _ => none
    | _, _ => none
def rvs (P : Program) (s : XS) : List ResultVar → Option (List PV)
  | [] => some []
  | r :: rs => match rvOf P s r, rvs P s rs with
    | some p, some ps => some (p :: ps)
    | _, _ => none
def resV (P : Program) (ts : List ResultVar) (s : XS) : Option PV :=
  match ts with
  | [t] => rvOf P s t
  | ts => (rvs P s ts).map .tuple

section
variable {P : Program} {m N : Nat} {D : List Deferred} {G G0 : Gh} {w w0 : World}

theorem load_ptr {hp : List AObj} {ty : TypeId} {ti : TI} {inf : TypeInfo} {d : TypeDesc} {z : Value} {l off : Nat} {cs : List PV} {u : Value} (hT : TIOf P ty ti inf d z) (hcs : hp[l]? = some (.cells cs)) (h1 : off + ti.sz ≤ cs.length) (h0 : 0 < ti.sz) (hx : V G w (.ptr l off) u) (hR : RH G hp w) :
    ∃ B v, u = .pointer (some ⟨B, off, none⟩) ∧ (loadVar ty ⟨B, off, none⟩).run P w = .ok v w ∧ V G w (partP cs off ti.sz ti.agg) v := by
  obtain ⟨hl, hle⟩ := List.getElem?_eq_some_iff.1 hcs
  have hO := hR.obj l hl
  rw [hle] at hO
  obtain ⟨B, arr, ty', fr, hB, hS, hw, hfr, hsz, hv⟩ := hO
  cases hx with
  | ptr _ _ B' hB' =>
  obtain rfl : B' = B := Option.some.inj (hB'.symm.trans hB)
  have hcell : ∀ j (hj : j < arr.size), w.cell? ⟨B', j, none⟩ = some arr[j] := fun j hj => by simp [World.cell?, hw, Array.getElem?_eq_getElem hj]
  rw [hT.sz, hT.agg]
  rw [hT.sz] at h1 h0
  have hs2 := hsz.2
  cases ha : aggDesc d with
  | true =>
    obtain ⟨hp1, hp2⟩ := prefix_VL hsz.2 hv
    refine ⟨B', .agg (((arr.toList.take cs.length).drop off).take inf.size).toArray, rfl, ?_, ?_⟩
    · refine run_loadVar_agg hT.info hT.und ha (by simp; omega) fun j hj => ?_
      simp at hj
      rw [hcell (off + j) (by omega)]
      simp
    · simp only [partP, if_true]
      exact V.of_agg ((hp1.drop off).take _) ((hp2.drop off).take _)
  | false =>
    have hlt : off < arr.size := by omega
    refine ⟨B', arr[off], rfl, run_loadVar_one hT.und ha (hcell off hlt), ?_⟩
    simp only [partP, Bool.false_eq_true, if_false]
    rw [List.getD_eq_getElem?_getD, List.getElem?_eq_getElem (by omega)]
    exact (hv off (by omega) hlt).1

/-- One result. -/
def resOne (a : Act) : ResultVar → Sem Value
  | .tmp t => pure (a.tmps.getD t undef)
  | .cell x t => do loadVar t (← asAddr (a.tmps.getD x undef))
theorem rvOf_V {s : XS} {a : Act} (h : RX N D G s a w) {r : ResultVar} {p : PV} (hr : rvOf P s r = some p) : ∃ v, (resOne a r).run P w = .ok v w ∧ V G w p v := by
  cases r with
  | tmp t =>
    simp only [rvOf, Option.some.injEq] at hr
    subst hr
    exact ⟨_, rfl, h.rs.tm t⟩
  | cell x ty =>
    simp only [rvOf] at hr
    split at hr
    · rename_i ti l off hti hx
      split at hr
      · rename_i cs hcs
        split at hr
        · rename_i hc
          injection hr with hr
          subst hr
          obtain ⟨inf, d, z, hT⟩ := tinf_of hti
          have hxv := h.rs.tm x
          rw [show s.st.tm x = .ptr l off from hx] at hxv
          obtain ⟨B, v, h1, h2, h3⟩ := load_ptr hT (show s.st.hp[l]? = _ from hcs) hc.1 hc.2 hxv h.rs.hp
          refine ⟨v, ?_, h3⟩
          simp only [resOne, h1, asAddr, Sem.run_bind, Sem.run_pure, Result.andThen_ok]
          exact h2
        · cases hr
      · cases hr
    · cases hr
theorem rvs_V {s : XS} {a : Act} (h : RX N D G s a w) : ∀ {ts : List ResultVar} {ps : List PV}, rvs P s ts = some ps → ∃ vs : List Value, (ts.mapM (resOne a)).run P w = .ok vs w ∧ VL G w ps vs
  | [], ps, hr => by
    simp only [rvs, Option.some.injEq] at hr
    subst hr
    exact ⟨[], by simp, .nil _ _⟩
  | t :: ts, ps, hr => by
    simp only [rvs] at hr
    split at hr
    · rename_i p ps' hp hps
      injection hr with hr
      subst hr
      obtain ⟨v, h1, h2⟩ := rvOf_V h hp
      obtain ⟨vs, h3, h4⟩ := rvs_V h hps
      exact ⟨v :: vs, by simp [h1, h3], .cons h2 h4⟩
    · cases hr
theorem resV_V {s : XS} {a : Act} (h : RX N D G s a w) {fn : Func} {ts : List ResultVar} {p : PV} (hp : resV P ts s = some p) (hr : fn.results = ts.toArray) :
    ∃ v, (results fn a.tmps).run P w = .ok v w ∧ V G w p v := by
  have hres : (results fn a.tmps).run P w = ((ts.mapM (resOne a)).run P w).andThen fun vs w' => .ok (if h : vs.length = 1 then vs[0] else .tuple vs.toArray) w' := by
    have e : results fn a.tmps = (do
        let vs ← fn.results.mapM (resOne a)
        pure (if h : vs.size = 1 then vs[0] else .tuple vs)) := by
      unfold results
      congr 1
    rw [e, hr, Array.mapM_eq_mapM_toList]
    simp only [Sem.run_bind, Sem.run_map, Sem.run_pure]
    cases (List.mapM (resOne a) ts).run P w with
    | ok vs w' => simp
    | halt x w' => rfl
  have key : ∀ ps, rvs P s ts = some ps → (ps.length = 1 → p = ps.getD 0 .bad) → (ps.length ≠ 1 → p = .tuple ps) → ∃ v, (results fn a.tmps).run P w = .ok v w ∧ V G w p v := fun ps h1 h2 h3 => by
    obtain ⟨vs, h4, h5⟩ := rvs_V h h1
    rw [hres, h4]
    simp only [Result.andThen_ok]
    refine ⟨_, rfl, ?_⟩
    by_cases hl : ps.length = 1
    · rw [dif_pos (by rw [h5.1]; exact hl), h2 hl]
      have := h5.2 0 (by omega) (by rw [h5.1]; omega)
      rw [List.getD_eq_getElem?_getD, List.getElem?_eq_getElem (by omega), Option.getD_some]
      exact this
    · rw [dif_neg (by rw [h5.1]; exact hl), h3 hl]
      exact .tuple _ _ (by simpa using h5.1) fun i h1 h2 => by simpa using h5.2 i h1 (by simpa using h2)
  unfold resV at hp
  split at hp
  · rename_i t
    exact key [p] (by simp [rvs, hp]) (fun _ => rfl) (fun h => absurd rfl h)
  · rename_i hne
    obtain ⟨ps, h1, rfl⟩ := Option.map_eq_some_iff.1 hp
    refine key ps h1 (fun hl => ?_) fun _ => rfl
    exfalso
    match ts, h1, hne with
    | [], h1, _ => simp [rvs] at h1; subst h1; simp at hl
    | [t], _, hne => exact hne t rfl
    | t :: u :: r, h1, _ =>
      simp only [rvs] at h1
      split at h1
      · rename_i h2
        injection h1 with h1
        subst h1
        split at h2
        · injection h2 with h2; subst h2; simp at hl
        · cases h2
      · cases h1

/-- The objects that are kept: those of the beginning first. -/
def Kept (m : Nat) (hp : List AObj) (rs : List Nat) : Prop := rs.Nodup ∧ (∀ l ∈ rs, l < hp.length) ∧ ∀ i < m, rs[i]? = some i

theorem Ev.sub {rs : List Nat} (hk : ∀ i < m, rs[i]? = some i) (hσ : ∀ l B, G0.σ l = some B → l < m) (hH : ∀ l e x, G0.H l e = some x → l < m) (h : Ev G0 w0 G w) : Ev G0 w0 (G.sub rs) w := by
  refine ⟨⟨fun B o u hc => h.keeps.cell B o u hc, fun l B hB => ?_, fun l e x hx => ?_, fun l e B o hx => h.keeps.N l e B o hx, h.keeps.Nσ⟩, h.os, h.tape, h.output, h.size, h.other, h.Sold, fun B hB => h.fp B ?_, h.Nsame⟩
  · simp only [Gh.sub, hk l (hσ l B hB), Option.bind_some]; exact h.keeps.σ l B hB
  · simp only [Gh.sub, hk l (hH l e x hx), Option.bind_some]; exact h.keeps.H l e x hx
  · rcases hB with ⟨l, hl⟩ | ⟨l, e, o, hl⟩
    · obtain ⟨l', _, h'⟩ := sub_σ hl; exact .inl ⟨l', h'⟩
    · obtain ⟨l', _, h'⟩ := sub_H hl; exact .inr ⟨l', e, o, h'⟩

/-- Slots are forgotten or kept; objects are dropped. -/
theorem Wk.drop {s : XS} {l' : List (Nat × PV)} {hp' : List AObj} (rs : List Nat) (hk : Kept m s.hp rs) (hh : hp' = handed s.hp rs)
    (hl : ∀ t, look l' t = .bad ∨ ∃ k, look l' t = (look s.l t).imp k rs.idxOf?) : Wk m N s ⟨l', hp'⟩ := by
  intro D G a w h
  refine ⟨G.sub rs, ⟨⟨fun t => ?_, ?_⟩, h.n, h.df⟩, fun G0 w0 a1 a2 a3 => a3.sub hk.2.2 a1 a2⟩
  · rcases hl t with e | ⟨k, e⟩
    · simp only [XS.st, e]; exact .bad _
    · simp only [XS.st, e]; exact sub_V (h.rs.tm t)
  · subst hh; exact h.rs.hp.sub hk.1 hk.2.1
/-- Slots are forgotten. -/
theorem Wk.slots {s : XS} {l' : List (Nat × PV)} (hl : ∀ t, look l' t = .bad ∨ look l' t = look s.l t) : Wk m N s ⟨l', s.hp⟩ := by
  intro D G a w h
  refine ⟨G, ⟨⟨fun t => ?_, h.rs.hp⟩, h.n, h.df⟩, fun _ _ _ _ h => h⟩
  rcases hl t with e | e
  · simp only [XS.st, e]; exact .bad _
  · simp only [XS.st, e]; exact h.rs.tm t

/-- An object is dropped. -/
theorem Wk.kill {l : List (Nat × PV)} {hp : List AObj} (k : Nat) : Wk m N ⟨l, hp⟩ ⟨l, hp.set k .dead⟩ := fun D G a w h =>
  ⟨G, ⟨⟨h.rs.tm, h.rs.hp.kill k⟩, h.n, h.df⟩, fun _ _ _ _ h => h⟩

/-- A nil slice may be appended to by a tail of its own. -/
theorem RH.newTip {hp : List AObj} (hR : RH G hp w) : RH G (hp ++ [.tip 0]) w := by
  refine RH.of hR.tab ⟨fun l hl => ?_, fun l B h => ⟨by have := (hR.σdom _ _ h).1; simp; omega, (hR.σdom _ _ h).2⟩, fun l1 l2 B d1 d2 h1 h2 => hR.σinj l1 l2 B (by rwa [List.getElem?_append_left (hR.σdom _ _ h1).1] at d1) (by rwa [List.getElem?_append_left (hR.σdom _ _ h2).1] at d2) h1 h2, fun l e B o h => ⟨by have := (hR.Hdom _ _ _ _ h).1; simp; omega, (hR.Hdom _ _ _ _ h).2⟩, hR.Hdisj, hR.Sdom, fun l t ht e x hx => ?_⟩
  · by_cases h : l < hp.length
    · rw [List.getElem_append_left h]; exact hR.obj l h
    · rw [List.getElem_append_right (by omega)]
      simp only [List.getElem_singleton]
      intro B o ho
      have := (hR.Hdom _ _ _ _ ho).1; omega
  · have := (hR.Hdom l e x.1 x.2 hx).1
    rw [List.getElem?_append_left this] at ht
    exact hR.Htip l t ht e x hx
theorem Wk.newTip {l : List (Nat × PV)} {hp : List AObj} (t : Nat) (ht : look l t = .nil0) : Wk m N ⟨l, hp⟩ ⟨(t, .slice (.tail hp.length 0) []) :: l, hp ++ [.tip 0]⟩ := fun D G a w h => by
  refine ⟨G, ⟨⟨fun t' => ?_, RH.newTip (show RH G hp w from h.rs.hp)⟩, h.n, h.df⟩, fun _ _ _ _ h => h⟩
  simp only [XS.st, look_if]
  by_cases e : t' = t
  · rw [if_pos e]
    subst e
    have := h.rs.tm t'
    rw [show (XS.st ⟨l, hp⟩).tm t' = .nil0 from ht] at this
    generalize a.tmps.getD t' undef = u at this
    cases this with
    | nil0 a => exact .slice _ [] a 0 0 0 0 0 (fun _ => undef) rfl (Nat.le_refl _) (Nat.zero_le _) (fun i h => by simp at h) (fun h => by omega) (fun j h => by simp at h) (fun i j h => by simp at h) (fun h => by cases h) (fun _ _ _ => .inl rfl)
  · rw [if_neg e]; exact h.rs.tm t'

/-! ### What is not written any more is a value -/
def chunkP (cs : List PV) (off n s : Nat) (ag : Bool) : List PV := (List.range n).map fun i => partP cs (off + i * s) s ag
mutual
def PV.frz (o : Nat) (cs : List PV) (ag : Bool) : PV → PV
  | .ptr l off => if l = o then .bad else .ptr l off
  | .view v => .view (v.frz o cs ag)
  | .slice c es => .slice c (PV.frzL o cs ag es)
  | .mslice l off n s => if l = o then (if off + n * s ≤ cs.length ∧ 0 < s ∧ (ag = false → s = 1) then .slice .dead (chunkP cs off n s ag) else .bad) else .mslice l off n s
  | .func f vs => .func f (PV.frzL o cs ag vs)
  | .iface t v => .iface t (v.frz o cs ag)
  | .agg vs => .agg (PV.frzL o cs ag vs)
  | .tuple vs => .tuple (PV.frzL o cs ag vs)
  | .bad => .bad
  | .bool b => .bool b
  | .int k n => .int k n
  | .str s => .str s
  | .nilptr => .nilptr
  | .nil0 => .nil0
  | .map l => .map l
  | .nilmap => .nilmap
  | .nilfunc => .nilfunc
  | .niliface => .niliface
def PV.frzL (o : Nat) (cs : List PV) (ag : Bool) : List PV → List PV
  | [] => []
  | v :: r => v.frz o cs ag :: PV.frzL o cs ag r
end
theorem PV.frzL_map (o : Nat) (cs : List PV) (ag : Bool) : ∀ l : List PV, PV.frzL o cs ag l = l.map (PV.frz o cs ag)
  | [] => rfl
  | v :: r => by rw [PV.frzL, PV.frzL_map o cs ag r, List.map_cons]
theorem frz_cells {o : Nat} {cs : List PV} {ag : Bool} (v : PV) : (v.frz o cs ag).cells = v.cells.map (PV.frz o cs ag) := by
  cases v with
  | ptr l o' => by_cases h : l = o <;> simp [PV.frz, PV.cells, h]
  | mslice l o' n s =>
    simp only [PV.frz, PV.cells, List.map_cons, List.map_nil]
    by_cases h : l = o
    · by_cases h' : o' + n * s ≤ cs.length ∧ 0 < s ∧ (ag = false → s = 1)
      · rw [if_pos h, if_pos h']
      · rw [if_pos h, if_neg h']
    · rw [if_neg h]
  | agg cs => simp [PV.frz, PV.cells, PV.frzL_map]
  | _ => simp [PV.frz, PV.cells]
theorem V.cell_one {p : PV} {u : Value} (h : V G w p u) (h1 : u.oneCell' = true) : p.cells = [p] := by
  cases h <;> first | rfl | cases h1

def Gh.frz (G : Gh) (B : Nat) : Gh := { G with S := fun b o => G.S b o ∨ b = B }

section
variable {o B : Nat} {cs : List PV} {ag : Bool} {arr : Array Value} {ty : TypeId} {fr : Nat × Nat}
theorem V.frz (hσ : G.σ o = some B) (hw : w.heap[B]? = some (.cells arr ty fr)) (hsz : cs.length ≤ arr.size) (hcs : ∀ i (h : i < cs.length) (h' : i < arr.size), V G w cs[i] arr[i] ∧ arr[i].oneCell' = true)
    {p : PV} {u : Value} (h : V G w p u) : V (G.frz B) w (p.frz o cs ag) u := by
  have hk : Keeps G w (G.frz B) w := ⟨fun b x u h => ⟨.inl h.1, h.2⟩, fun _ _ h => h, fun _ _ _ h => h, fun _ _ _ _ _ => rfl, fun _ _ _ => rfl⟩
  have hcell : ∀ j (h : j < arr.size), (G.frz B).cell w B j arr[j] ∨ arr[j].oneCell' = false := fun j h => by
    cases h1 : arr[j].oneCell' with
    | false => exact .inr rfl
    | true => exact .inl ⟨.inr rfl, by simp [World.cell?, hw, Array.getElem?_eq_getElem h], h1⟩
  induction h with
  | bad u => simp only [PV.frz]; exact .bad u
  | bool b => simp only [PV.frz]; exact .bool b
  | int k n => simp only [PV.frz]; exact .int k n
  | str s hm => simp only [PV.frz]; exact .str s hm
  | nilptr => simp only [PV.frz]; exact .nilptr
  | ptr l off B' h =>
    simp only [PV.frz]
    split
    · exact .bad _
    · exact .ptr l off B' h
  | view v B' o' u hs hv ih =>
    simp only [PV.frz]
    refine .view _ B' o' u (fun j h => hk.cell _ _ _ (hs j (by simpa [frz_cells] using h))) (fun j h => ?_)
    have := ih j (by simpa [frz_cells] using h)
    simpa [frz_cells] using this
  | nil0 a => simp only [PV.frz]; exact .nil0 a
  | slice c es a B' o' s n cap u hn hle hm hsz' ha hs hv he ht ih =>
    simp only [PV.frz, PV.frzL_map]
    refine .slice _ _ a B' o' s n cap u (by simpa using hn) hle hm (fun i h => ?_) ha (fun j h => hk.cell _ _ _ (hs j h)) (fun i j h h' => ?_) he ht
    · simp only [List.getElem_map, frz_cells, List.length_map]
      exact hsz' i (by simpa using h)
    · have h1 : i < es.length := by simpa using h
      have h2 : j < es[i].cells.length := by simpa [frz_cells] using h'
      have := ih i j h1 h2
      simpa [frz_cells] using this
  | mslice l off n s B' cap a h hle hm ha hN0 =>
    simp only [PV.frz]
    split
    · rename_i hlo
      subst hlo
      obtain rfl : B' = B := Option.some.inj (h.symm.trans hσ)
      split
      · rename_i hc
        obtain ⟨hc1, hc2, hc3⟩ := hc
        have hin : ∀ i j, i < n → j < s → off + (i * s + j) < cs.length := fun i j hi hj => by
          have : (i + 1) * s ≤ n * s := Nat.mul_le_mul_right _ hi
          rw [Nat.add_mul] at this
          omega
        have hone : ∀ j (hj : j < cs.length), (cs[j]).cells = [cs[j]] := fun j hj => (hcs j hj (by omega)).1.cell_one (hcs j hj (by omega)).2
        have hpc : ∀ i, i < n → (partP cs (off + i * s) s ag).cells = (cs.drop (off + i * s)).take s := fun i hi => by
          cases ag with
          | true => simp [partP, PV.cells]
          | false =>
            have hs1 := hc3 rfl
            have h0 := hin i 0 hi (by omega)
            subst hs1
            have hlt : off + i * 1 < cs.length := by omega
            simp only [partP, Bool.false_eq_true, if_false]
            rw [List.getD_eq_getElem?_getD, List.getElem?_eq_getElem hlt, Option.getD_some, hone _ hlt, List.drop_eq_getElem_cons hlt]
            rfl
        refine .slice .dead _ a B' off s n cap (fun j => arr.getD (off + j) undef) (by simp [chunkP]) hle hm (fun i hi => ?_) (fun hp => ha (by omega)) (fun j hj => ?_) (fun i j hi hj => ?_) (fun h => by cases h) (fun _ _ h => by cases h)
        · have hi' : i < n := by simpa [chunkP] using hi
          simp only [chunkP, List.getElem_map, List.getElem_range]
          rw [hpc i hi']
          simp
          have := hin i (s - 1) hi' (by omega)
          omega
        · have hlt : off + j < arr.size := by omega
          refine ⟨.inr rfl, ?_, ?_⟩
          · simp [World.cell?, hw, Array.getD, hlt]
          · have := (hcs (off + j) (by omega) hlt).2
            simpa [Array.getD, hlt] using this
        · have hi' : i < n := by simpa [chunkP] using hi
          simp only [chunkP, List.getElem_map, List.getElem_range] at hj ⊢
          have hj0 : j < ((cs.drop (off + i * s)).take s).length := by rw [← hpc i hi']; exact hj
          have hjs : j < s := by simp at hj0; omega
          have h1 := hin i j hi' hjs
          have hlt : off + (i * s + j) < arr.size := by omega
          have e1 : (partP cs (off + i * s) s ag).cells[j] = cs[off + (i * s + j)] := by
            have : ∀ (l l' : List PV) (h : l = l') (h1 : j < l.length) (h2 : j < l'.length), l[j] = l'[j] := fun l l' h _ _ => by subst h; rfl
            rw [this _ _ (hpc i hi') hj hj0]
            simp [Nat.add_assoc]
          rw [e1]
          have := (hcs _ h1 hlt).1.mono hk
          simpa [Array.getD, hlt] using this
      · exact .bad _
    · exact .mslice l off n s B' cap a h hle hm ha hN0
  | map l B h => simp only [PV.frz]; exact .map l B h
  | nilmap => simp only [PV.frz]; exact .nilmap
  | func g vs us hl hv ih =>
    simp only [PV.frz, PV.frzL_map]
    exact .func g _ us (by simpa using hl) fun i h h' => by simpa using ih i (by simpa using h) h'
  | nilfunc => simp only [PV.frz]; exact .nilfunc
  | iface t v u h ih => simp only [PV.frz]; exact .iface t _ u ih
  | niliface => simp only [PV.frz]; exact .niliface
  | agg vs us hl h1 hv ih =>
    simp only [PV.frz, PV.frzL_map]
    exact .agg _ us (by simpa using hl) h1 fun i h h' => by simpa using ih i (by simpa using h) h'
  | tuple vs us hl hv ih =>
    simp only [PV.frz, PV.frzL_map]
    exact .tuple _ us (by simpa using hl) fun i h h' => by simpa using ih i (by simpa using h) h'
end

def frzS (o : Nat) (cs : List PV) (ag : Bool) (l : List (Nat × PV)) : List (Nat × PV) := l.map fun x => (x.1, x.2.frz o cs ag)
theorem look_frz {o : Nat} {cs : List PV} {ag : Bool} : ∀ (l : List (Nat × PV)) (t : Nat), look (frzS o cs ag l) t = (look l t).frz o cs ag
  | [], t => rfl
  | (d, v) :: r, t => by
    simp only [frzS, List.map_cons, look_if]
    by_cases h : t = d
    · rw [if_pos h, if_pos h]
    · rw [if_neg h, if_neg h]; exact look_frz r t

/-- An object that is not written any more: its slices are values. -/
theorem Wk.freeze {l : List (Nat × PV)} {hp : List AObj} (o : Nat) (cs : List PV) (ag : Bool) (ho : hp[o]? = some (.cells cs)) : Wk m N ⟨l, hp⟩ ⟨frzS o cs ag l, hp.set o .dead⟩ := by
  intro D G a w h
  have hR : RH G hp w := h.rs.hp
  obtain ⟨hlt, hle⟩ := List.getElem?_eq_some_iff.1 ho
  have hO := hR.obj o hlt
  rw [hle] at hO
  obtain ⟨B, arr, ty, fr, hB, hS, hw, hfr, hsz, hv⟩ := hO
  have hk : Keeps G w (G.frz B) w := ⟨fun b x u h => ⟨.inl h.1, h.2⟩, fun _ _ h => h, fun _ _ _ h => h, fun _ _ _ _ _ => rfl, fun _ _ _ => rfl⟩
  have hR2 := hR.kill o
  refine ⟨G.frz B, ⟨⟨fun t => ?_, ?_⟩, h.n, h.df⟩, fun G0 w0 a1 a2 a3 => ?_⟩
  · simp only [XS.st]
    rw [look_frz]
    exact V.frz hB hw hsz.2 hv (h.rs.tm t)
  · show RH (G.frz B) (hp.set o .dead) w
    refine RH.of hR2.tab ⟨fun l' hl' => ?_, hR2.σdom, hR2.σinj, hR2.Hdom, hR2.Hdisj, fun b x hx => ?_, hR2.Htip⟩
    · have hl'' : l' < hp.length := by simpa using hl'
      by_cases he : l' = o
      · subst he; rw [List.getElem_set_self]; trivial
      · rw [List.getElem_set_ne (fun e => he e.symm)]
        by_cases hd : hp[l'] = .dead
        · rw [hd]; trivial
        · refine (hR.obj l' hl'').mono hk (fun b hb => ⟨rfl, fun x hx => hx.resolve_right fun e => ?_⟩) (fun e b x hx => ⟨hx, rfl, fun y hy => hy.resolve_right fun e' => ?_⟩) fun b h => h
          · subst e
            exact he (hR.σinj _ _ _ (by rw [List.getElem?_eq_getElem hl'']; simpa using hd) (by rw [ho]; simp) hb hB)
          · subst e'
            exact (hR.Hdom _ _ _ _ hx).2.2 o hB
    · rcases hx with hx | rfl
      · exact hR.Sdom _ _ hx
      · exact (hR.σdom _ _ hB).2
  · refine ⟨a3.keeps.trans hk, a3.os, a3.tape, a3.output, a3.size, a3.other, fun b hb hn x hx => ?_, a3.fp, a3.Nsame⟩
    rcases hx with hx | rfl
    · exact a3.Sold b hb hn x hx
    · rcases a3.fp b (.inl ⟨o, hB⟩) with h1 | h1
      · exact absurd h1 hn
      · omega

/-- How a function's run ends. -/
def killAll (hp : List AObj) : List Nat → List AObj
  | [] => hp
  | k :: ks => killAll (hp.set k .dead) ks
theorem RH.killAll {hp : List AObj} : ∀ (ks : List Nat) {hp : List AObj}, RH G hp w → RH G (killAll hp ks) w
  | [], _, h => h
  | k :: ks, _, h => RH.killAll (hp := hp) ks (h.kill k)
/-- A run comes back with these results, and leaves these objects. -/
def kret (P : Program) (ts : List ResultVar) (m N : Nat) (out : Out) (L' : List AObj) (s : XS) : Prop :=
  ∃ s' p rs k, Wk m N s s' ∧ resV P ts s' = some p ∧ Kept m s'.hp rs ∧ L' = handed s'.hp rs ∧ out = .ret (p.imp k rs.idxOf?)
def kfin (P : Program) (ts : List ResultVar) (m N : Nat) (out : Out) (L' : List AObj) : XExit → XS → Prop
  | .normal, s => kret P ts m N out L' s
  | .ret, s => kret P ts m N out L' s
  | .pan p, s => ∃ ks rs k, Kept m (killAll s.hp ks) rs ∧ L' = handed (killAll s.hp ks) rs ∧ out = .pan (p.imp k rs.idxOf?)
  | .exit _, _ => False

theorem ispec_of_aw (hm : P.follows .mixedOrders = true) {f : FuncId} {fn : Func} {c : Code} {x : XCode} {ts : List ResultVar} {args : List PV} {L L' : List AObj} {out : Out} (hf : P.funcs[f]? = some fn) (hb : fn.body = some c) (hs : strip c = some (erase x))
    (hd : okd fn.ntmps x = true) (hr : fn.results = ts.toArray) (h : aw P L.length fn.ntmps x (kfin P ts L.length fn.ntmps out L') ⟨enum 0 args, L⟩) : ISpec P f args L out L' := by
  intro G w cargs hR hV
  refine calls_of_wp hf hb (aw_sound hm (m := L.length) (N := fn.ntmps) (G0 := G) (w0 := w) (fun l B h => (hR.σdom l B h).1) (fun l e x h => (hR.Hdom l e x.1 x.2 h).1) x c hs hd _ _ ?_ _ G _ w h ⟨⟨fun t => ?_, hR⟩, ?_, rfl⟩ (.refl _ _))
  · intro e s ee a w' G' he hx hRX hE
    have hret : kret P ts L.length fn.ntmps out L' s →
        a.defers = [] ∧ ∃ v, (results fn a.tmps).run P w' = .ok v w' ∧ ∃ G', OutRel G' w' out (.returned v) ∧ RH G' L' w' ∧ Ev G w G' w' := by
      rintro ⟨s', p, rs, k, hwk, hp, hk, rfl, rfl⟩
      obtain ⟨G', hRX, hE'⟩ := hwk [] G' a w' hRX
      have hE := hE' G w (fun l B h => (hR.σdom l B h).1) (fun l e x h => (hR.Hdom l e x.1 x.2 h).1) hE
      obtain ⟨v, hv, hV⟩ := resV_V (P := P) hRX hp hr
      exact ⟨hRX.df, v, hv, G'.sub rs, sub_V hV, hRX.rs.hp.sub hk.1 hk.2.1, hE.sub hk.2.2 (fun l B h => (hR.σdom l B h).1) (fun l e x h => (hR.Hdom l e x.1 x.2 h).1)⟩
    cases e with
    | normal => cases ee <;> first | exact hx.elim | exact hret he
    | ret => cases ee <;> first | exact hx.elim | exact hret he
    | exit id => exact he.elim
    | pan p =>
      cases ee <;> first | exact hx.elim | skip
      obtain ⟨v, rfl, hV⟩ := hx
      obtain ⟨ks, rs, k, hk, rfl, rfl⟩ := he
      exact ⟨hRX.df, G'.sub rs, ⟨v, rfl, sub_V hV⟩, (RH.killAll (hp := s.hp) ks hRX.rs.hp).sub hk.1 hk.2.1, hE.sub hk.2.2 (fun l B h => (hR.σdom l B h).1) (fun l e x h => (hR.Hdom l e x.1 x.2 h).1)⟩
  · simp only [XS.st, look_enum, Nat.zero_le, if_true, Nat.sub_zero]
    by_cases ht : t < args.length
    · have hl := hV.1
      have h2 := hV.2 t ht (by rw [hl]; exact ht)
      rw [List.getD_eq_getElem?_getD, List.getElem?_eq_getElem ht, Option.getD_some]
      have h3 : t < cargs.size := by have := hl; simp at this; omega
      simpa [Array.getD_eq_getD_getElem?, Array.getElem?_append, h3] using h2
    · rw [List.getD_eq_getElem?_getD, List.getElem?_eq_none (by omega), Option.getD_none]
      exact .bad _
  · simp; omega

theorem ispec_bd {f : FuncId} {args : List PV} {L L' : List AObj} {out : Out} (h : PV.bdL args → ISpec P f args L out L') : ISpec P f args L out L' := fun G w cargs hR hV =>
  h ((PV.bdL_iff args).2 fun i hi => (hV.2 i hi (by rw [hV.1]; exact hi)).bd) G w cargs hR hV

theorem ispec_bdo {f : FuncId} {args : List PV} {L L' : List AObj} {out : Out} (h : PV.bdL args → (∀ (l : Nat) cs, L[l]? = some (.cells cs) → PV.bdL cs) → ISpec P f args L out L') : ISpec P f args L out L' := fun G w cargs hR hV =>
  h ((PV.bdL_iff args).2 fun i hi => (hV.2 i hi (by rw [hV.1]; exact hi)).bd) (fun l cs hl => by
    obtain ⟨h1, h2⟩ := List.getElem?_eq_some_iff.1 hl
    have hO := hR.obj l h1
    rw [h2] at hO
    obtain ⟨B, arr, ty, fr, _, _, _, _, hsz, hv⟩ := hO
    exact (PV.bdL_iff cs).2 fun i hi => (hv i hi (by omega)).1.bd) G w cargs hR hV
theorem bare_imp {k : Bool} {f : Nat → Option Nat} (p : PV) : p.bare.imp k f = p.bare := by
  induction p using PV.rec (motive_2 := fun l => (l.map PV.bare).map (PV.imp k f) = l.map PV.bare) <;> simp_all [PV.imp, PV.bare, PV.impL_map, PV.bareL_map, SK.imp]
theorem bare_frz {o : Nat} {cs : List PV} {ag : Bool} (p : PV) : p.bare.frz o cs ag = p.bare := by
  induction p using PV.rec (motive_2 := fun l => (l.map PV.bare).map (PV.frz o cs ag) = l.map PV.bare) <;> simp_all [PV.frz, PV.bare, PV.frzL_map, PV.bareL_map]
theorem bare_bare (p : PV) : p.bare.bare = p.bare := by
  induction p using PV.rec (motive_2 := fun l => (l.map PV.bare).map PV.bare = l.map PV.bare) <;> simp_all [PV.bare, PV.bareL_map]
theorem bare_ren {ρ : Nat → Nat} (p : PV) : p.bare.ren ρ = p.bare := by
  induction p using PV.rec (motive_2 := fun l => (l.map PV.bare).map (PV.ren ρ) = l.map PV.bare) <;> simp_all [PV.ren, PV.bare, PV.renL_map, PV.bareL_map, SK.ren]
theorem imp_none (p : PV) : p.imp false (fun _ => none) = p.bare := by
  induction p using PV.rec (motive_2 := fun l => l.map (PV.imp false fun _ => none) = l.map PV.bare) <;> simp_all [PV.imp, PV.bare, PV.impL_map, PV.bareL_map, SK.imp]
  all_goals (rename_i c _ _; cases c <;> rfl)
end
end Go.Proofs.YtlfngjemfpjegaaDoor.Px
