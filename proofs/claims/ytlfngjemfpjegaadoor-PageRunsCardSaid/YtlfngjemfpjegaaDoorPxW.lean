/- The abstract machine (Px): a law's arguments as values, and its row's post-condition out of its spec. -/
import Derived.Test.YtlfngjemfpjegaaDoorPxV
import Derived.ReadAgain
import Derived.ChangeSame
import Derived.OpenShut
namespace Go.Proofs.YtlfngjemfpjegaaDoor.Px
open Go Go.RowKit
set_option linter.unusedVariables false
set_option linter.unusedSimpArgs false

mutual
/-- What is read, as a value. -/
def pvD {H : Type} : DataW H → PV
  | .lit (.bool b) => .bool b
  | .lit (.int k n) => .int k n
  | .lit (.string bytes) => .str ⟨bytes.toArray⟩
  | .nil => .slice .dead []
  | .slice elems _ => .slice .dead (pvDs elems)
  | .agg parts => .agg (pvCs parts)
  | _ => .bad
def pvDs {H : Type} : List (DataW H) → List PV
  | [] => []
  | d :: r => pvD d :: pvDs r
def pvCs {H : Type} : List (DataW H) → List PV
  | [] => []
  | d :: r => (pvD d).cells ++ pvCs r
end
theorem pvDs_map {H : Type} : ∀ l : List (DataW H), pvDs l = l.map pvD
  | [] => rfl
  | d :: r => by rw [pvDs, pvDs_map r, List.map_cons]
theorem pvCs_map {H : Type} : ∀ l : List (DataW H), pvCs l = l.flatMap fun d => (pvD d).cells
  | [] => rfl
  | d :: r => by rw [pvCs, pvCs_map r, List.flatMap_cons]

/-- Types whose values hold bools, whole numbers, texts, slices and structs. -/
def simpleT (P : Program) : Nat → TypeId → Bool
  | 0, _ => false
  | n + 1, t => match P.underlying t with
    | some .bool => decide (P.cellsOf t = 1)
    | some (.int _) => decide (P.cellsOf t = 1)
    | some .string => decide (P.cellsOf t = 1)
    | some (.slice e) => decide (P.cellsOf t = 1) && decide (0 < P.cellsOf e) && simpleT P n e
    | some (.struct fs) => fs.toList.all (fun f => simpleT P n f.type) && decide (P.cellsOf t = (fs.toList.map fun f => P.cellsOf f.type).sum) &&
        (List.range fs.size).all fun j => match fs[j]? with
          | some f => decide (f.offset = ((fs.toList.take j).map fun f => P.cellsOf f.type).sum)
          | none => true
    | _ => false

/-- Every cell that is there is kept for good. -/
def Gh.all (w : World) : Gh := { S := fun B o => B < w.heap.size, σ := fun _ => none, H := fun _ _ => none, N := fun _ => 0 }
/-- The tables lie where the program lays them. -/
def Laid (w : World) : Prop := ∀ x ∈ TAB, ∃ ty fr, w.heap[x.1]? = some (.cells x.2 ty fr)
theorem rh_all (w : World) (ht : Laid w) : RH (Gh.all w) [] w :=
  RH.of (fun x hx => by
    obtain ⟨ty, fr, h⟩ := ht x hx
    exact ⟨(Array.getElem?_eq_some_iff.1 h).1, fun h => (by rcases h with ⟨l, h⟩ | ⟨l, e, o, h⟩ <;> cases h), ty, fr, h⟩) ⟨fun l hl => by simp at hl, fun l B h => by simp [Gh.all] at h, fun l l' B _ _ h => by simp [Gh.all] at h, fun l e B o h => by simp [Gh.all] at h, fun l l' e e' B o o' h => by simp [Gh.all] at h, fun B o h => h, fun l t h => by simp at h⟩

section
variable {H : Type} {enc : TypeId × Value → H} {P : Program} {w : World}

theorem range_mapM_get {β : Type} {f : Nat → Option β} {n : Nat} {l : List β} (h : (List.range n).mapM f = some l) : l.length = n ∧ ∀ i (hi : i < l.length), f i = some l[i] := by
  obtain ⟨h1, h2⟩ := mapM_get _ _ _ h
  refine ⟨by simpa using h1, fun i hi => ?_⟩
  obtain ⟨a, ha, hf⟩ := h2 i l[i] (List.getElem?_eq_getElem hi)
  have hn : i < n := by have := h1; simp at this; omega
  rw [List.getElem?_range hn] at ha
  injection ha with ha
  subst ha; exact hf

/-- The cells of what is read, and its kind: one cell, or a struct's. -/
structure RdOk (w : World) (b : Bool) (p : PV) (cs : List Value) : Prop where
  vl : VL (Gh.all w) w p.cells cs
  o : O cs
  ok : p.ok = true
  one : b = true → p.isAgg = false
  agg : b = false → p.isAgg = true

theorem rdOk_one {p : PV} {u : Value} (h : V (Gh.all w) w p u) (h1 : u.oneCell' = true) (ho : p.ok = true) (ha : p.isAgg = false) (hc : p.cells = [p]) : RdOk w true p [u] := by
  refine ⟨by rw [hc]; exact .cons h (.nil _ _), fun x hx => ?_, ho, fun _ => ha, fun h => by cases h⟩
  simp at hx; subst hx; exact h1

def isOne (P : Program) (t : TypeId) : Bool := match P.underlying t with
  | some (.struct _) => false
  | _ => true

theorem trod_V : ∀ (fuel n : Nat) (t : TypeId) (cs : List Value) (d : DataW H) (ps : List MemPlace), simpleT P n t = true → DataW.trod enc P w 0 (fun _ => true) true fuel t cs = some (d, ps) →
    RdOk w (isOne P t) (pvD d) cs ∧ cs.length = P.cellsOf t := by
  intro fuel
  induction fuel with
  | zero => intro n t cs d ps _ h; simp [DataW.trod] at h
  | succ fuel ih =>
    intro n t cs d ps hs h
    cases n with
    | zero => simp [simpleT] at hs
    | succ n =>
      simp only [simpleT] at hs
      rw [DataW.trod_step] at h
      unfold DataW.trodStep at h
      split at h
      case h_1 b hu =>
        rw [hu] at hs
        simp only [Option.some.injEq, Prod.mk.injEq] at h
        obtain ⟨rfl, rfl⟩ := h
        simp only [isOne, hu]
        exact ⟨rdOk_one (.bool b) rfl rfl rfl rfl, (of_decide_eq_true hs).symm⟩
      case h_2 k k' m hu =>
        rw [hu] at hs
        split at h
        · rename_i hk
          simp only [Option.some.injEq, Prod.mk.injEq] at h
          obtain ⟨rfl, rfl⟩ := h
          obtain ⟨rfl, _⟩ := hk
          simp only [isOne, hu]
          exact ⟨rdOk_one (.int k' m) rfl rfl rfl rfl, (of_decide_eq_true hs).symm⟩
        · cases h
      case h_3 hu => rw [hu] at hs; simp at hs
      case h_4 s hu =>
        rw [hu] at hs
        split at h
        · rename_i hm
          simp only [Option.some.injEq, Prod.mk.injEq] at h
          obtain ⟨rfl, rfl⟩ := h
          simp only [isOne, hu]
          have e : (pvD (H := H) (.lit (.string s.data.toList))) = .str s := by simp [pvD]
          rw [e]
          exact ⟨rdOk_one (.str s (by simpa [maxLen] using hm)) rfl rfl rfl rfl, (of_decide_eq_true hs).symm⟩
        · cases h
      case h_5 hu => rw [hu] at hs; simp at hs
      case h_6 hu => rw [hu] at hs; simp at hs
      case h_7 e hu =>
        rw [hu] at hs
        simp only [Bool.and_eq_true, decide_eq_true_eq] at hs
        simp only [Option.some.injEq, Prod.mk.injEq] at h
        obtain ⟨rfl, rfl⟩ := h
        simp only [isOne, hu]
        refine ⟨rdOk_one (.slice .dead [] none 0 0 0 0 0 (fun _ => undef) rfl (Nat.le_refl _) (by omega) (fun i h => by simp at h) (fun h => by omega) (fun j h => by simp at h) (fun i j h => by simp at h) (fun h => by cases h) (fun _ _ h => by cases h)) rfl rfl rfl rfl, hs.1.1.symm⟩
      case h_8 e a len cap hu =>
        rw [hu] at hs
        simp only [Bool.and_eq_true, decide_eq_true_eq] at hs
        simp only at h
        split at h
        · rename_i hc
          simp only [Option.map_eq_some_iff, Option.bind_eq_some_iff] at h
          obtain ⟨elems, he, rest, hrest, h⟩ := h
          simp only [Prod.mk.injEq] at h
          obtain ⟨rfl, rfl⟩ := h
          obtain ⟨hlen, hget⟩ := range_mapM_get he
          simp only [isOne, hu, pvD, pvDs_map, List.map_map]
          have hel : ∀ i (hi : i < elems.length), ∃ cs', w.cells? 0 (a.add (i * P.cellsOf e)) (P.cellsOf e) = some cs' ∧ RdOk w (isOne P e) (pvD elems[i].1) cs' ∧ cs'.length = P.cellsOf e := fun i hi => by
            have h1 := hget i hi
            simp only [Option.bind_eq_some_iff] at h1
            obtain ⟨cs', h2, h3⟩ := h1
            exact ⟨cs', h2, ih n e cs' _ _ hs.2 h3⟩
          have hcell : ∀ i (hi : i < elems.length) j, j < P.cellsOf e → ∃ u, w.cell? ((a.add (i * P.cellsOf e)).add j) = some u ∧ u.oneCell' = true ∧ ∀ (hj : j < (pvD elems[i].1).cells.length), V (Gh.all w) w (pvD elems[i].1).cells[j] u := fun i hi j hj => by
            obtain ⟨cs', h2, h3, h4⟩ := hel i hi
            unfold World.cells? at h2
            rw [if_pos (Nat.zero_le _)] at h2
            obtain ⟨h5, h6⟩ := range_mapM_get h2
            have hjl : j < cs'.length := by omega
            exact ⟨cs'[j], h6 j hjl, h3.o _ (List.getElem_mem hjl), fun hj' => h3.vl.2 j hj' hjl⟩
          have hspot : 0 < elems.length → a = ⟨a.block, a.off, none⟩ := fun hp => by
            obtain ⟨u, h1, _⟩ := hcell 0 hp 0 hs.1.2
            simp only [Nat.zero_mul, Addr.add, if_true] at h1
            unfold World.cell? at h1
            split at h1
            · split at h1
              · cases h1
              · rename_i hsp
                cases a; simp only [Addr.mk.injEq, true_and]
                simpa using hsp
            · cases h1
          have haddr : 0 < elems.length → ∀ i j, (a.add (i * P.cellsOf e)).add j = ⟨a.block, a.off + (i * P.cellsOf e + j), none⟩ := fun hp i j => by
            rw [hspot hp, Addr.add_lit, Addr.add_lit, Nat.add_assoc]
          have hz : ∀ i (hi : i < elems.length), (pvD elems[i].1).cells.length = P.cellsOf e := fun i hi => by
            obtain ⟨cs', h2, h3, h4⟩ := hel i hi
            rw [← h3.vl.1, h4]
          have hpos := hs.1.2
          refine ⟨rdOk_one (.slice .dead _ (some a) a.block a.off (P.cellsOf e) len cap (fun j => (w.cell? ⟨a.block, a.off + j, none⟩).getD undef) (by simp [hlen]) hc.2.1 (by have := hc.2.2; have := hc.2.1; simp [maxLen] at *; omega) (fun i hi => ?_) (fun hp => ?_) (fun j hj => ?_) (fun i j hi hj => ?_) (fun h => by cases h) (fun _ _ h => by cases h)) rfl rfl rfl rfl, hs.1.1.symm⟩
          · simp only [List.getElem_map, Function.comp_apply]
            exact hz i (by simpa using hi)
          · rw [← hspot (by omega)]
          · have hp : 0 < elems.length := by
              rcases Nat.eq_zero_or_pos len with h0 | h0
              · subst h0; simp at hj
              · omega
            have hi : j / P.cellsOf e < elems.length := by rw [hlen]; exact Nat.div_lt_of_lt_mul (by rw [Nat.mul_comm]; exact hj)
            obtain ⟨u, h1, h2, h3⟩ := hcell (j / P.cellsOf e) hi (j % P.cellsOf e) (Nat.mod_lt _ hpos)
            have e1 : j / P.cellsOf e * P.cellsOf e + j % P.cellsOf e = j := by rw [Nat.mul_comm]; exact Nat.div_add_mod _ _
            rw [haddr hp, e1] at h1
            refine ⟨?_, by simp [h1], by simp [h1, h2]⟩
            simp only [Gh.all]
            unfold World.cell? at h1
            split at h1
            · rename_i hb; exact (Array.getElem?_eq_some_iff.1 hb).1
            · cases h1
          · have hi' : i < elems.length := by simpa using hi
            simp only [List.getElem_map, Function.comp_apply] at hj ⊢
            have hj' : j < P.cellsOf e := by rw [← hz i hi']; exact hj
            obtain ⟨u, h1, h2, h3⟩ := hcell i hi' j hj'
            rw [haddr (by omega)] at h1
            simp only [h1, Option.getD_some]
            exact h3 hj
        · cases h
      case h_9 _ _ fs hu =>
        rename_i cs _ _
        rw [hu] at hs
        simp only [Bool.and_eq_true, List.all_eq_true, decide_eq_true_eq] at hs
        split at h
        · rename_i hcl
          simp only [Option.map_eq_some_iff, Prod.mk.injEq] at h
          obtain ⟨xs, hx, rfl, rfl⟩ := h
          obtain ⟨hxl, hxg⟩ := mapM_all _ _ _ hx
          simp only [isOne, hu, pvD, pvCs_map]
          have key : ∀ k, k ≤ fs.size → VL (Gh.all w) w ((xs.map (·.1)).take k |>.flatMap fun d => (pvD d).cells) (cs.take (((fs.toList.take k).map fun f => P.cellsOf f.type).sum)) ∧ O (cs.take (((fs.toList.take k).map fun f => P.cellsOf f.type).sum)) := by
            intro k
            induction k with
            | zero => intro _; simp; exact ⟨.nil _ _, .nil⟩
            | succ k ihk =>
              intro hk
              obtain ⟨h1, h2⟩ := ihk (by omega)
              have hkl : k < fs.toList.length := by simp; omega
              have hkx : k < xs.length := by omega
              have hf := hxg k fs.toList[k] xs[k] (List.getElem?_eq_getElem hkl) (List.getElem?_eq_getElem hkx)
              obtain ⟨h3, h4⟩ := ih n _ _ _ _ (hs.1.1 _ (List.getElem_mem hkl)) hf
              have hoff := hs.2 k (List.mem_range.2 (by omega))
              have e0 : fs[k]? = some fs.toList[k] := by simp [Array.getElem?_eq_getElem (by omega : k < fs.size)]
              rw [e0] at hoff
              simp only [decide_eq_true_eq] at hoff
              have e1 : (xs.map (·.1)).take (k + 1) = (xs.map (·.1)).take k ++ [xs[k].1] := by
                rw [List.take_succ_eq_append_getElem (by simpa using hkx)]; simp
              have e2 : ((fs.toList.take (k + 1)).map fun f => P.cellsOf f.type).sum = fs.toList[k].offset + P.cellsOf fs.toList[k].type := by
                rw [List.take_succ_eq_append_getElem hkl, List.map_append, List.sum_append, ← hoff]; simp
              have e3 : cs.take (fs.toList[k].offset + P.cellsOf fs.toList[k].type) = cs.take fs.toList[k].offset ++ (cs.drop fs.toList[k].offset).take (P.cellsOf fs.toList[k].type) := by rw [List.take_add]
              rw [e1, e2, e3, List.flatMap_append, hoff]
              simp only [List.flatMap_cons, List.flatMap_nil, List.append_nil]
              rw [← hoff]; rw [← hoff] at h1 h2; exact ⟨h1.append h3.vl, h2.append h3.o⟩
          have hk := key fs.size (Nat.le_refl _)
          have e1 : (xs.map (·.1)).take fs.size = xs.map (·.1) := List.take_of_length_le (by simp [hxl])
          have e2 : fs.toList.take fs.size = fs.toList := List.take_of_length_le (by simp)
          rw [e1, e2, ← hs.1.2, ← hcl, List.take_length] at hk
          exact ⟨⟨hk.1, hk.2, rfl, (fun h => by cases h), fun _ => rfl⟩, hcl⟩
        · cases h
      all_goals first | (cases h; done) | (rename_i hu; rw [hu] at hs; simp at hs; done) | (rename_i hu _; rw [hu] at hs; simp at hs; done)

theorem cell_one {P : Program} {n : Nat} {t : TypeId} (hs : simpleT P n t = true) {base : Nat} {v : Value} (h : Value.okWide P w .any base t v) : (isOne P t = true → v.cells = #[v]) ∧ (isOne P t = false → ∃ vs, v = .agg vs) := by
  cases n with
  | zero => simp [simpleT] at hs
  | succ n =>
    unfold Value.okWide at h
    simp only [simpleT] at hs
    unfold isOne
    cases hu : P.underlying t with
    | none => rw [hu] at hs; cases hs
    | some d =>
      rw [hu] at hs h
      cases d <;> simp only [Bool.false_eq_true] at hs h ⊢
      case struct fs => obtain ⟨cs, rfl, _⟩ := h; exact ⟨(fun h => by cases h), fun _ => ⟨cs, rfl⟩⟩
      all_goals
        refine ⟨fun _ => ?_, (fun h => by cases h)⟩
        simp only [Cell.okWide, hu] at h
        cases v <;> first | rfl | (simp [Cell.ok, hu] at h; done)

/-- The arguments as values. -/
theorem trodAll_V {n base : Nat} : ∀ (ts : List TypeId) (vs : List Value) (ds : List (DataW H)) (ps : List MemPlace), ts.all (simpleT P n) = true →
    (∀ (j : Nat) t v, ts[j]? = some t → vs[j]? = some v → Value.okWide P w .any base t v) → DataW.TrodAll enc P w 0 (fun _ => true) true ts vs ds ps → VL (Gh.all w) w (ds.map pvD) vs
  | [], [], [], _, _, _, _ => .nil _ _
  | t :: ts, v :: vs, d :: ds, _, hs, hok, ⟨p, q, ⟨fuel, h1⟩, h2, _⟩ => by
    simp only [List.all_cons, Bool.and_eq_true] at hs
    have ih := trodAll_V ts vs ds _ hs.2 (fun j t v h h' => hok (j + 1) t v (by simpa using h) (by simpa using h')) h2
    obtain ⟨hr, hl⟩ := trod_V fuel n t _ d p hs.1 h1
    obtain ⟨c1, c2⟩ := cell_one hs.1 (hok 0 t v rfl rfl)
    refine .cons ?_ ih
    cases ho : isOne P t with
    | true =>
      rw [c1 ho] at hr
      have hv := hr.vl
      have ha := hr.one ho
      cases hp : pvD d with
      | agg cs => rw [hp] at ha; cases ha
      | _ => rw [hp] at hv; exact VL.head (us := []) (by simpa [PV.cells] using hv)
    | false =>
      obtain ⟨us, rfl⟩ := c2 ho
      have ha := hr.agg ho
      have hv := hr.vl
      have hO := hr.o
      cases hp : pvD d with
      | agg cs => rw [hp] at hv; have := V.of_agg (us := us.toList) hv hO; simpa [PV.cells] using this
      | _ => rw [hp] at ha; cases ha
  | [], _ :: _, _, _, _, _, h => by cases h
  | [], [], _ :: _, _, _, _, h => by cases h
  | _ :: _, [], _, _, _, _, h => by cases h
  | _ :: _, _ :: _, [], _, _, _, h => by cases h

theorem TrodAll_same {w' : World} {spare : Nat → Bool} : ∀ {ts : List TypeId} {vs : List Value} {ds : List (DataW H)} {ps : List MemPlace}, DataW.TrodAll enc P w 0 spare true ts vs ds ps → (∀ p ∈ ps, w.sameAt w' p) → DataW.TrodAll enc P w' 0 spare true ts vs ds ps
  | [], [], [], _, h, _ => h
  | t :: ts, v :: vs, d :: ds, _, ⟨p, q, ⟨fuel, h1⟩, h2, e⟩, hs => ⟨p, q, ⟨fuel, DataW.trod_carry fuel _ _ _ h1 fun x hx => hs x (by rw [e]; exact List.mem_append_left _ hx)⟩, TrodAll_same h2 fun x hx => hs x (by rw [e]; exact List.mem_append_right _ hx), e⟩
  | [], _ :: _, _, _, h, _ => by cases h
  | [], [], _ :: _, _, h, _ => by cases h
  | _ :: _, [], _, _, h, _ => by cases h
  | _ :: _, _ :: _, [], _, h, _ => by cases h

theorem keptBut_all {w w' : World} (ho : w'.os = w.os) (hp : w'.output = w.output) (h : ∀ B, B < w.heap.size → w'.heap[B]? = w.heap[B]?) (may : MemPlace → Prop) : w.keptBut w' may := by
  refine ⟨ho, hp, fun i hi => ?_⟩
  rw [h i hi]
  cases hb : w.heap[i]? with
  | none => trivial
  | some o => cases o <;> simp

/-- What is to be shown of a law: whatever is read, it returns true, and reaches no object. -/
theorem law_contract {f : FuncId} {fn : Func} {s : ChangeSpec} {n : Nat} {W : World} {base : Nat} {args : Array Value} {ds gs : List (DataW H)} {before : List MemPlace} {apart fresh handsOn : Bool} {t0 : TypeId}
    (hv : s.vars = []) (hsimple : fn.params.toList.all (simpleT P n) = true) (hsize : fn.params.toList.all (fun t => decide (t < P.types.size)) = true) (hl : laidOutB P = true) (hm : mapsRowed P = true)
    (hfull : ((List.range P.types.size).all fun t => match P.underlying t with | some (.slice e) => decide (0 < P.cellsOf e) | _ => true) = true)
    (hres : fn.resultTypes = #[t0]) (hbool : P.underlying t0 = some .bool)
    (hval : ∀ (j : Nat) t v, fn.params[j]? = some t → args[j]? = some v → Value.okWide P W .any base t v)
    (hW : DataW.Whole enc P fn.params.toList s.vars apart W args.toList ds gs before)
    (hs : s.fn H ds = { results := [.lit (.bool true)], args := ds }) (ht : Laid W)
    (h : PSpec P f (ds.map pvD) (.ret (.bool true))) :
    Calls P f args W fun e W' => ∃ v, e = .returned v ∧ s.post enc P fn apart fresh handsOn false W args v W' := by
  have hW' := hW
  obtain ⟨p, q, hA, hV, hb, hfz, hnd⟩ := hW
  rw [hv] at hV
  have hgs : gs = [] ∧ q = [] := by
    cases gs with
    | nil => exact ⟨rfl, hV⟩
    | cons => cases hV
  obtain ⟨rfl, rfl⟩ := hgs
  have hvl := trodAll_V (base := base) _ _ _ _ hsimple (fun j t v h h' => hval j t v (by simpa using h) (by simpa using h')) hA
  refine (h (Gh.all W) W args (rh_all W ht) hvl).mono fun e w' ⟨G', ho, hR', hE⟩ => ?_
  cases e with
  | returned v =>
    have hvb : v = .bool true := by cases ho; rfl
    subst hvb
    refine ⟨_, rfl, ds, [], before, [], p, [], hW', ?_, ?_, ?_, ?_, fun h => by cases h⟩
    · rw [hres, List.append_nil, hs]
      exact ⟨[], [], ⟨1, by simp [DataW.trod, hbool, Value.cells]⟩, rfl, rfl⟩
    · rw [List.append_nil, hs]
      have hnf : ∀ B, ¬ (Gh.all W).Fp B := fun B h => by rcases h with ⟨l, h⟩ | ⟨l, e, o, h⟩ <;> cases h
      have hold : ∀ x ∈ p, x.block < W.heap.size := fun x hx => hW'.lt x (by rw [hb]; simpa using hx)
      have h1 := DataW.TrodAll.respare (spare' := fun b => decide (b < W.heap.size)) (kids_rows hl hm) (slices_full_of P hfull) (fun t ht => by simpa using List.all_eq_true.1 hsize t ht) hA (fun x hx => by simpa using hold x hx)
      exact TrodAll_same h1 fun x hx => by
        have hB := hE.other x.block (hold x hx) (hnf _)
        cases x with
        | cell b off => exact cell_of_heap hB off
        | map b => exact hB
    · rw [hv, List.append_nil, hs]; rfl
    · exact keptBut_all hE.os hE.output (fun B hB => hE.other B hB fun h => by rcases h with ⟨l, h⟩ | ⟨l, e, o, h⟩ <;> cases h) _
  | _ => exact ho.elim
end
end Go.Proofs.YtlfngjemfpjegaaDoor.Px
