/- The abstract machine (Px): structs, slices and objects that are made; stores. -/
import Derived.Test.YtlfngjemfpjegaaDoorPxG
import Derived.Laws.Tables
import Derived.Laws.MakeOwn
namespace Go.Proofs.YtlfngjemfpjegaaDoor.Px
open Go Go.RowKit
set_option linter.unusedVariables false
set_option linter.unusedSimpArgs false

section
variable {P : Program} {hp : List AObj} {G : Gh} {w : World}

def PL (G : Gh) (w : World) (ps : List (Nat × PV)) (us : List (Nat × Value)) : Prop :=
  us.length = ps.length ∧ ∀ i (h : i < ps.length) (h' : i < us.length), us[i].1 = ps[i].1 ∧ V G w ps[i].2 us[i].2

def aBuild (P : Program) (t : TypeId) (parts : List (Nat × PV)) (K : Eff → Prop) : Prop :=
  match tinf P t with
  | some ti => match ti.kd with
    | .struct fs => ti.zero.ok = true ∧ ∃ cs, fillP (fun i => (fs[i]?).map fun f => (f.off, f.sz)) ti.zero.cells parts = some cs ∧ K { v := .agg cs }
    | _ => False
  | none => False

theorem places_of : ∀ (fs : List Field) (l : List FI), fs.mapM (fiOf P) = some l → fs.mapM (fun f => (P.info? f.type).map fun i => (f.offset, i.size)) = some (l.map fun f => (f.off, f.sz)) := by
  intro fs
  induction fs with
  | nil => intro l h; simp at h; subst h; rfl
  | cons f fs ih =>
    intro l h
    rw [List.mapM_cons] at h
    cases hf : fiOf P f with
    | none => rw [hf] at h; cases h
    | some x =>
      cases hr : fs.mapM (fiOf P) with
      | none => rw [hf, hr] at h; cases h
      | some r =>
        rw [hf, hr] at h
        simp at h
        subst h
        have e : (P.info? f.type).map (fun i => (f.offset, i.size)) = some (x.off, x.sz) := by
          unfold fiOf at hf
          split at hf
          · rename_i i d h1 h2
            split at hf
            · cases hf
            · injection hf with hf; subst hf; simp [h1]
          · cases hf
        rw [List.mapM_cons, e, ih r hr]
        rfl

theorem sound_build {K : Eff → Prop} {t : TypeId} {parts : List (Nat × PV)} {us : Array (Nat × Value)} (h : aBuild P t parts K) (hp' : PL G w parts us.toList) (hR : RH G hp w) : Ok P hp G w K (Instr.build t us) := by
  unfold aBuild at h
  split at h
  · rename_i ti hti
    obtain ⟨inf, d, z, hT⟩ := tinf_of hti
    split at h
    · rename_i fs hkd
      obtain ⟨ffs, hd, hm⟩ := kd_struct (hkd ▸ hT.kd)
      have hu := hT.und
      rw [hd] at hu
      obtain ⟨hok, cs, hf, hk⟩ := h
      have hz : V G w ti.zero z := by rw [hT.z]; exact ofConst_V _ _ _
      obtain ⟨hzl, hzo⟩ := hz.cells hok
      obtain ⟨ru, h1, h2, h3⟩ := fill_sound _ parts us.toList ti.zero.cells z.cells cs hp'.1 hp'.2 hzl hzo hf
      have hb : P.built t us.toList = some ru := by
        have hpl := places_of _ _ hm
        simp only [Program.built, hT.info, hu, hT.zero, hpl]
        rw [← h1]
        congr 1
        funext i
        simp
      refine .val [] hk (run_build w t us ru hb) ?_ hR
      have := V.of_agg h2 h3
      simpa using this
    · exact h.elim
  · exact h.elim

/-! ### A new row of elements -/
def flat (es : List PV) : List PV := (es.map PV.cells).flatten
theorem flat_cons (x : PV) (es : List PV) : flat (x :: es) = x.cells ++ flat es := by simp [flat]
theorem flat_append (es fs : List PV) : flat (es ++ fs) = flat es ++ flat fs := by simp [flat]
theorem flat_length {s : Nat} : ∀ {es : List PV}, SZ s es → (flat es).length = es.length * s
  | [], _ => by simp [flat]
  | x :: es, h => by
    rw [flat_cons, List.length_append, h x (by simp), flat_length (fun y hy => h y (by simp [hy])), List.length_cons, Nat.add_mul]
    omega
theorem flat_get {s : Nat} : ∀ {es : List PV}, SZ s es → ∀ (i j : Nat) (hi : i < es.length) (hj : j < es[i].cells.length) (h : i * s + j < (flat es).length), (flat es)[i * s + j] = es[i].cells[j]
  | [], _, i, j, hi, _, _ => by simp at hi
  | x :: es, hs, 0, j, hi, hj, h => by
    simp only [List.getElem_cons_zero] at hj
    simp only [flat_cons, Nat.zero_mul, Nat.zero_add, List.getElem_cons_zero]
    rw [List.getElem_append_left hj]
  | x :: es, hs, i + 1, j, hi, hj, h => by
    have hx := hs x (by simp)
    have hs' : SZ s es := fun y hy => hs y (by simp [hy])
    have hi' : i < es.length := by simpa using hi
    have hj' : j < es[i].cells.length := by simpa using hj
    have e : (i + 1) * s + j = x.cells.length + (i * s + j) := by rw [hx, Nat.add_mul]; omega
    have h' : i * s + j < (flat es).length := by
      rw [flat_cons, List.length_append] at h
      omega
    simp only [flat_cons, e, List.getElem_cons_succ]
    rw [List.getElem_append_right (by omega)]
    simp only [Nat.add_sub_cancel_left]
    exact flat_get hs' i j hi' hj' h'

theorem newRow_V {w' : World} {G' : Gh} {es : List PV} {s : Nat} {arr : Array Value} {ty : TypeId} {fr : Nat × Nat} {B : Nat} (hs : SZ s es) (k : Keeps G w G' w') (hv : VL G w (flat es) (arr.toList.take (flat es).length)) (ho : O (arr.toList.take (flat es).length))
    (hB : w'.heap[B]? = some (.cells arr ty fr)) (hS : ∀ o, o < es.length * s → G'.S B o) (c : SK) (cap : Nat) (hcap : es.length ≤ cap) (hm : es.length ≤ 9223372036854775807) (he : c = .exact → cap = es.length)
    (ht : ∀ l e, c = .tail l e → cap = es.length ∨ (0 < es.length ∧ G'.H l e = some (B, es.length * s) ∧ cap * s ≤ G'.N B)) : V G' w' (.slice c es) (.slice (some ⟨B, 0, none⟩) es.length cap) := by
  have hfl := flat_length hs
  have hlen : (flat es).length ≤ arr.size := by have := hv.1; simp at this; omega
  refine .slice c es _ B 0 s es.length cap (fun j => arr.getD j undef) rfl hcap hm (fun i h => hs _ (by simp)) (fun _ => rfl) (fun j hj => ?_) (fun i j hi hj => ?_) he (fun l e hc => ?_)
  · have hja : j < arr.size := by omega
    have e : arr.getD j undef = arr[j] := by simp [Array.getD, hja]
    refine ⟨by simpa using hS j hj, by simp [World.cell?, hB, e, Array.getElem?_eq_getElem hja], ?_⟩
    rw [e]
    apply ho
    have h1 : j < (arr.toList.take (flat es).length).length := by simp; omega
    have := List.getElem_mem h1
    simpa using this
  · have hlt : i * s + j < (flat es).length := by
      rw [hfl]
      have h1 := hs es[i] (by simp)
      have : (i + 1) * s ≤ es.length * s := Nat.mul_le_mul_right _ hi
      rw [Nat.add_mul] at this
      omega
    have hja : i * s + j < arr.size := by omega
    have e : arr.getD (i * s + j) undef = arr[i * s + j] := by simp [Array.getD, hja]
    rw [e]
    have := hv.2 (i * s + j) hlt (by simp; omega)
    rw [flat_get hs i j hi hj hlt] at this
    simp only [List.getElem_take, Array.getElem_toList] at this
    exact this.mono k
  · rcases ht l e hc with h | h
    · exact .inl h
    · exact .inr ⟨h.1, rfl, by simpa using h.2.1, by simpa using h.2.2⟩

/-- The world with a new block, its first n cells stable. -/
def Gh.addS (G : Gh) (B n : Nat) : Gh := { G with S := fun b o => G.S b o ∨ (b = B ∧ o < n) }
theorem RH.addS (hR : RH G hp w) (o : Obj) (n : Nat) : RH (G.addS w.heap.size n) hp (w.alloc o) ∧ Ev G w (G.addS w.heap.size n) (w.alloc o) := by
  refine hR.extend (below_alloc' w o) _ (fun B x h => .inl h) fun B x h => ?_
  rcases h with h | ⟨rfl, _⟩
  · exact .inl h
  · exact .inr ⟨Nat.le_refl _, by simp⟩

/-! ### Slices that are written out -/
def enumL (k : Nat) : List PV → List (Nat × PV)
  | [] => []
  | x :: xs => (k, x) :: enumL (k + 1) xs

theorem fillP_row {s : Nat} : ∀ (xs : List PV) (k : Nat) (done : List PV), done.length = k * s → (∀ x ∈ xs, x.ok = true ∧ x.cells.length = s) →
    fillP (fun i => some (i * s, s)) (done ++ List.replicate (xs.length * s) .bad) (enumL k xs) = some (done ++ flat xs)
  | [], k, done, _, _ => by simp [enumL, fillP, flat]
  | x :: xs, k, done, hd, hx => by
    obtain ⟨h1, h2⟩ := hx x (by simp)
    simp only [enumL, fillP]
    have hle : k * s + x.cells.length ≤ (done ++ List.replicate ((x :: xs).length * s) PV.bad).length := by
      simp only [List.length_append, List.length_replicate, List.length_cons, hd, h2, Nat.add_mul]
      omega
    rw [if_pos ⟨h1, h2, hle⟩]
    have e : splice (done ++ List.replicate ((x :: xs).length * s) PV.bad) (k * s) x.cells = (done ++ x.cells) ++ List.replicate (xs.length * s) .bad := by
      unfold splice
      rw [List.take_append_of_le_length (by omega), List.take_of_length_le (by omega), h2]
      congr 1
      rw [List.drop_append, List.drop_of_length_le (by omega), List.nil_append, List.drop_replicate, hd, List.length_cons, Nat.add_mul]
      congr 1
      omega
    rw [e, fillP_row xs (k + 1) (done ++ x.cells) (by simp [hd, h2, Nat.add_mul]) (fun y hy => hx y (by simp [hy])), flat_cons, List.append_assoc]

def aBuildSlice (P : Program) (t : TypeId) (n : Nat) (parts : List (Nat × PV)) (K : Eff → Prop) : Prop :=
  match tinf P t with
  | some ti => match ti.kd with
    | .slice e => match tinf P e with
      | some te => (parts = enumL 0 (parts.map (·.2)) ∧ parts.length = n) ∧ (te.zero.ok = true ∧ te.zero.cells.length = te.sz ∧ 0 < te.sz ∧ n * te.sz ≤ 16777216) ∧
          (∀ x ∈ parts.map (·.2), x.ok = true ∧ x.cells.length = te.sz) ∧ (match n with | 0 => K { v := .nil0 } | _ => K { v := .slice .exact (parts.map (·.2)) })
      | none => False
    | _ => False
  | none => False

theorem run_buildRow {t e : TypeId} {ti te : TI} {inf ein : TypeInfo} {d ed : TypeDesc} {z ez : Value} {n : Nat} {parts : List (Nat × PV)} {us : Array (Nat × Value)} (hT : TIOf P t ti inf d z) (hkd : ti.kd = .slice e) (hE : TIOf P e te ein ed ez)
    (hen : parts = enumL 0 (parts.map (·.2))) (hpl : parts.length = n) (hzok : te.zero.ok = true) (hzsz : te.zero.cells.length = te.sz) (hs0 : 0 < te.sz) (hbig : n * te.sz ≤ 16777216)
    (hx : ∀ x ∈ parts.map (·.2), x.ok = true ∧ x.cells.length = te.sz) (hp' : PL G w parts us.toList) :
    ∃ ru, (Instr.buildSlice t n us).run P w = .ok (.slice (some ⟨w.heap.size, 0, none⟩) n n) (w.alloc (.cells ru e)) ∧ VL G w (flat (parts.map (·.2))) ru.toList ∧ O ru.toList := by
  have hd := kd_slice (hkd ▸ hT.kd)
  have hu := hT.und
  rw [hd] at hu
  generalize hxs : parts.map (·.2) = xs at *
  have hxl : xs.length = n := by rw [← hxs]; simp [hpl]
  have hz : V G w te.zero ez := by rw [hE.z]; exact ofConst_V _ _ _
  obtain ⟨hzl, hzo⟩ := hz.cells hzok
  have hez : ez.cells.size = te.sz := by have := hzl.1; simp at this; omega
  have hSZ : SZ te.sz xs := fun y hy => (hx y hy).2
  -- the cells ahead of the filling
  have hcells : (if n * te.sz = 0 then (pure #[] : Sem (Array Value)) else do pure (← zeroValue e).cells).run P w = .ok (if n * te.sz = 0 then #[] else ez.cells) w := by
    split
    · rfl
    · simp [run_zeroValue hE.info hE.zero]
  generalize hu0 : (Array.range (n * te.sz)).map (fun j => (if n * te.sz = 0 then #[] else ez.cells)[j % (if n * te.sz = 0 then #[] else ez.cells).size]!) = u0
  have hu0l : u0.size = n * te.sz := by rw [← hu0]; simp
  have hu0o : O u0.toList := by
    intro v hv
    rw [← hu0] at hv
    simp only [Array.toList_map, List.mem_map] at hv
    obtain ⟨j, hj, rfl⟩ := hv
    have hj' : j < n * te.sz := by simpa using hj
    rw [if_neg (by omega)]
    have hlt : j % ez.cells.size < ez.cells.size := Nat.mod_lt _ (by omega)
    rw [getElem!_pos ez.cells _ hlt]
    exact hzo _ (by simp)
  have hbad : VL G w ([] ++ List.replicate (xs.length * te.sz) .bad) u0.toList := ⟨by simp [hu0l, hxl], fun i h1 h2 => by simp; exact .bad _⟩
  have hfill := fillP_row (s := te.sz) xs 0 [] (by simp) hx
  obtain ⟨ru, h1, h2, h3⟩ := fill_sound (fun i => some (i * te.sz, te.sz)) parts us.toList _ u0 _ hp'.1 hp'.2 hbad hu0o (by rw [hen]; exact hfill)
  simp only [List.nil_append] at h2
  have hrun : (Instr.buildSlice t n us).run P w = .ok (.slice (some ⟨w.heap.size, 0, none⟩) n n) (w.alloc (.cells ru e)) := by
    have hbig' : ¬ (16777216 < n * te.sz) := by omega
    have h1' := h1
    rw [← hu0] at h1'
    by_cases hn0 : n * te.sz = 0
    · simp [hn0] at h1'
      simp [Instr.buildSlice, run_underlying hu, run_sizeOf hE.info, ← hE.sz, hn0, h1', newRow]
    · simp [hn0] at h1'
      simp [Instr.buildSlice, run_underlying hu, run_sizeOf hE.info, run_zeroValue hE.info hE.zero, ← hE.sz, hbig', hn0, h1', newRow]
  exact ⟨ru, hrun, h2, h3⟩

theorem sound_buildSlice {K : Eff → Prop} {t : TypeId} {n : Nat} {parts : List (Nat × PV)} {us : Array (Nat × Value)} (h : aBuildSlice P t n parts K) (hp' : PL G w parts us.toList) (hR : RH G hp w) :
    Ok P hp G w K (Instr.buildSlice t n us) := by
  unfold aBuildSlice at h
  split at h
  · rename_i ti hti
    obtain ⟨inf, d, z, hT⟩ := tinf_of hti
    split at h
    · rename_i e hkd
      split at h
      · rename_i te hte
        obtain ⟨ein, ed, ez, hE⟩ := tinf_of hte
        obtain ⟨⟨hen, hpl⟩, ⟨hzok, hzsz, hs0, hbig⟩, hx, hk⟩ := h
        obtain ⟨ru, hrun, h2, h3⟩ := run_buildRow hT hkd hE hen hpl hzok hzsz hs0 hbig hx hp'
        generalize hxs : parts.map (·.2) = xs at *
        have hxl : xs.length = n := by rw [← hxs]; simp [hpl]
        have hSZ : SZ te.sz xs := fun y hy => (hx y hy).2
        cases n with
        | zero =>
          obtain ⟨hR', hEv⟩ := hR.addS (.cells ru e) 0
          exact ⟨_, _, _, _, hk, hrun, .nil0 _, by simpa [after, setAll] using hR', hEv⟩
        | succ n =>
          obtain ⟨hR', hEv⟩ := hR.addS (.cells ru e) (xs.length * te.sz)
          have hrl : ru.toList.take (flat xs).length = ru.toList := by
            apply List.take_of_length_le
            rw [h2.1]
            exact Nat.le_refl _
          have hV := newRow_V hSZ hEv.keeps (by rw [hrl]; exact h2) (by rw [hrl]; exact h3) (heap_alloc_self w (.cells ru e)) (fun o ho => .inr ⟨rfl, ho⟩) .exact xs.length (Nat.le_refl _) (by have h9 := Nat.le_mul_of_pos_right (n + 1) hs0; rw [hxl]; omega) (fun _ => rfl) (fun l e h => by cases h)
          rw [hxl] at hV hR' hEv
          exact ⟨_, _, _, _, hk, hrun, hV, by simpa [after, setAll] using hR', hEv⟩
      · exact h.elim
    · exact h.elim
  · exact h.elim

/-- A row of one's own. -/
def aBuildO (P : Program) (hp : List AObj) (t : TypeId) (n : Nat) (parts : List (Nat × PV)) (K : Eff → Prop) : Prop :=
  match tinf P t with
  | some ti => match ti.kd with
    | .slice e => match tinf P e with
      | some te => (parts = enumL 0 (parts.map (·.2)) ∧ parts.length = n) ∧ (te.zero.ok = true ∧ te.zero.cells.length = te.sz ∧ 0 < te.sz ∧ n * te.sz ≤ 16777216) ∧
          (∀ x ∈ parts.map (·.2), x.ok = true ∧ x.cells.length = te.sz) ∧ K { v := .mslice hp.length 0 n te.sz, new := [.cells (flat (parts.map (·.2)))] }
      | none => False
    | _ => False
  | none => False
theorem sound_buildO {K : Eff → Prop} {t : TypeId} {n : Nat} {parts : List (Nat × PV)} {us : Array (Nat × Value)} (h : aBuildO P hp t n parts K) (hp' : PL G w parts us.toList) (hR : RH G hp w) :
    Ok P hp G w K (Instr.buildSlice t n us) := by
  unfold aBuildO at h
  split at h
  · rename_i ti hti
    obtain ⟨inf, d, z, hT⟩ := tinf_of hti
    split at h
    · rename_i e hkd
      split at h
      · rename_i te hte
        obtain ⟨ein, ed, ez, hE⟩ := tinf_of hte
        obtain ⟨⟨hen, hpl⟩, ⟨hzok, hzsz, hs0, hbig⟩, hx, hk⟩ := h
        obtain ⟨ru, hrun, h2, h3⟩ := run_buildRow hT hkd hE hen hpl hzok hzsz hs0 hbig hx hp'
        have hSZ : SZ te.sz (parts.map (·.2)) := fun y hy => (hx y hy).2
        have hfl := flat_length hSZ
        have hrl : ru.size = n * te.sz := by have := h2.1; rw [hfl] at this; simpa [hpl] using this
        obtain ⟨hR', hEv, hσ⟩ := hR.allocCells (flat (parts.map (·.2))) ru e (by have := h2.1; simp at this; omega) (fun i a b => by
          have e1 := h2.2 i a (by simpa using b)
          have e2 := h3 (ru.toList[i]'(by simpa using b)) (by simp)
          rw [Array.getElem_toList] at e1 e2
          exact ⟨e1, e2⟩)
        refine ⟨_, _, _, _, hk, hrun, .mslice _ 0 n te.sz _ n _ hσ (Nat.le_refl _) ?_ (fun _ => rfl) ?_, by simpa [after, setAll] using hR', hEv⟩
        · have := Nat.le_mul_of_pos_right n hs0; omega
        · simp only [Gh.addσ, if_true, Nat.zero_add]; omega
      · exact h.elim
    · exact h.elim
  · exact h.elim

/-! ### Objects -/
def aAlloc (P : Program) (hp : List AObj) (t : TypeId) (K : Eff → Prop) : Prop :=
  match tinf P t with
  | some ti => ti.zero.ok = true ∧ K { v := .ptr hp.length 0, new := [.cells ti.zero.cells] }
  | none => False
def aBox (hp : List AObj) (x : PV) (K : Eff → Prop) : Prop := x.ok = true ∧ K { v := .ptr hp.length 0, new := [.cells x.cells] }

theorem sound_newVar {K : Eff → Prop} {t : TypeId} {x : PV} {u : Value} {m : Sem Value} (hm : m.run P w = .ok (.pointer (some ⟨w.heap.size, 0, none⟩)) (w.alloc (.cells u.cells t))) (h : aBox hp x K) (hx : V G w x u) (hR : RH G hp w) : Ok P hp G w K m := by
  obtain ⟨hok, hk⟩ := h
  obtain ⟨h1, h2⟩ := hx.cells hok
  obtain ⟨hR', hEv, hσ⟩ := hR.allocCells x.cells u.cells t (by have := h1.1; simp at this; omega) (fun i a b => by
    have e1 := h1.2 i a (by simpa using b)
    have e2 := h2 (u.cells.toList[i]'(by simpa using b)) (by simp)
    rw [Array.getElem_toList] at e1 e2
    exact ⟨e1, e2⟩)
  exact ⟨_, _, _, _, hk, hm, .ptr _ _ _ hσ, by simpa [after, setAll] using hR', hEv⟩
theorem sound_box {K : Eff → Prop} {t : TypeId} {x : PV} {u : Value} (h : aBox hp x K) (hx : V G w x u) (hR : RH G hp w) : Ok P hp G w K (Instr.box t u) :=
  sound_newVar (t := t) (by simp [Instr.box, newVar, newRow]) h hx hR
theorem sound_alloc {K : Eff → Prop} {t : TypeId} (h : aAlloc P hp t K) (hR : RH G hp w) : Ok P hp G w K (Instr.alloc t true (.tuple #[])) := by
  unfold aAlloc at h
  split at h
  · rename_i ti hti
    obtain ⟨inf, d, z, hT⟩ := tinf_of hti
    have hz : V G w ti.zero z := by rw [hT.z]; exact ofConst_V _ _ _
    exact sound_newVar (t := t) (x := ti.zero) (u := z) (by simp [Instr.alloc, run_zeroValue hT.info hT.zero, newVar, newRow]) h hz hR
  · exact h.elim
end
end Go.Proofs.YtlfngjemfpjegaaDoor.Px
