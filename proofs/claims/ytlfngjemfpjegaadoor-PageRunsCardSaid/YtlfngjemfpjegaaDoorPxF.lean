/- The abstract machine (Px): slicing, converting, lengths; values and objects that are made. -/
import Derived.Test.YtlfngjemfpjegaaDoorPxE
namespace Go.Proofs.YtlfngjemfpjegaaDoor.Px
open Go Go.RowKit
set_option linter.unusedVariables false
set_option linter.unusedSimpArgs false

section
variable {P : Program} {hp : List AObj} {G : Gh} {w : World}

/-! ### 1. Texts -/
def byteAt (s : ByteArray) (i : Nat) : Int := ((s.data.toList.getD i 0).toNat : Int)

def aIndex (P : Program) (t : TypeId) (x i : PV) (K : Eff → Prop) : Prop :=
  match tinf P t, x, i with
  | some ti, .str s, .int _ n => (match ti.kd with | .str => True | _ => False) ∧ (0 ≤ n ∧ n < s.size) ∧ K { v := .int .u8 (byteAt s n.toNat) }
  | _, _, _ => False

theorem sound_index {K : Eff → Prop} {t : TypeId} {x i : PV} {u v : Value} (h : aIndex P t x i K) (hx : V G w x u) (hi : V G w i v) (hR : RH G hp w) : Ok P hp G w K (Instr.index t u v) := by
  unfold aIndex at h
  split at h
  · rename_i ti s k n hti
    obtain ⟨hkd, hb, hk⟩ := h
    obtain ⟨inf, d, z, hT⟩ := tinf_of hti
    split at hkd
    · rename_i hkd'
      have hu := hT.und
      have hd := kd_str (hkd' ▸ hT.kd)
      rw [hd] at hu
      cases hx; cases hi
      refine .val [] hk ?_ (.int _ _) hR
      rw [run_index_string w t s k n hu, dif_pos hb]
      have hlt : n.toNat < s.size := by omega
      have hlt2 : n.toNat < s.data.toList.length := by simpa using hlt
      have e : (s[n.toNat]'hlt) = s.data.toList[n.toNat] := by simp; rfl
      simp only [byteAt, List.getD_eq_getElem?_getD, List.getElem?_eq_getElem hlt2, Option.getD_some, e]
    · exact hkd.elim
  · exact h.elim

def bI (d : Int) : Option PV → Option Int
  | none => some d
  | some (.int _ n) => some n
  | _ => none
theorem bI_run {d : Int} {x : Option PV} {v : Option Value} {n : Int} (h : bI d x = some n) (hv : ∀ p, x = some p → ∃ u, v = some u ∧ V G w p u) (hn : x = none → v = none) :
    (x = none ∧ v = none ∧ n = d) ∨ ∃ k, x = some (.int k n) ∧ v = some (.int k n) := by
  unfold bI at h
  split at h
  · injection h with h; exact .inl ⟨rfl, hn rfl, h.symm⟩
  · injection h with h
    subst h
    obtain ⟨u, hu, hV⟩ := hv _ rfl
    cases hV
    exact .inr ⟨_, rfl, hu⟩
  · cases h

def SZ (s : Nat) (es : List PV) : Prop := ∀ x ∈ es, x.cells.length = s
def SK.cut (c : SK) (b : Prop) [Decidable b] : SK := if b then c else .dead

def aSlice (P : Program) (t : TypeId) (x : PV) (lo hi mx : Option PV) (K : Eff → Prop) : Prop :=
  match tinf P t with
  | some ti => match ti.kd, x with
    | .str, .str s => match bI 0 lo, bI s.size hi, mx with
      | some l, some h, none => (0 ≤ l ∧ l ≤ h ∧ h ≤ s.size) ∧ K { v := .str (s.extract l.toNat h.toNat) }
      | _, _, _ => False
    | .slice e, .nil0 => match bI 0 lo, bI 0 hi, mx with
      | some l, some h, none => (l = 0 ∧ h = 0) ∧ (tinf P e).isSome = true ∧ K { v := .nil0 }
      | some l, some h, some (.int _ m) => (l = 0 ∧ h = 0 ∧ m = 0) ∧ hi.isSome = true ∧ (tinf P e).isSome = true ∧ K { v := .nil0 }
      | _, _, _ => False
    | .slice e, .slice c es => match bI 0 lo, bI es.length hi, mx, tinf P e with
      | some l, some h, none, some te => (0 ≤ l ∧ l ≤ h ∧ h ≤ es.length) ∧ (l = 0 ∨ SZ te.sz es) ∧ K { v := .slice (c.cut (h.toNat = es.length ∧ (c = .exact ∨ l.toNat < es.length))) ((es.take h.toNat).drop l.toNat) }
      | some l, some h, some (.int _ m), some te => (0 ≤ l ∧ l ≤ h ∧ h ≤ m ∧ m ≤ es.length) ∧ hi.isSome = true ∧ (l = 0 ∨ SZ te.sz es) ∧
          K { v := if l = m then .nil0 else .slice (if h = m then .exact else .dead) ((es.take h.toNat).drop l.toNat) }
      | _, _, _, _ => False
    | .slice e, .mslice o off n s => match bI 0 lo, bI n hi, mx, tinf P e with
      | some l, some h, none, some te => (0 ≤ l ∧ l ≤ h ∧ h ≤ n) ∧ te.sz = s ∧ K { v := .mslice o (off + l.toNat * s) (h.toNat - l.toNat) s }
      | _, _, _, _ => False
    | _, _ => False
  | none => False

theorem sliceBounds_run {isSlice : Bool} {len cap : Nat} {lo hi : Option PV} {ulo uhi : Option Value} {l h : Int} (d : Int) (hd : d = len)
    (hl : bI 0 lo = some l) (hh : bI d hi = some h) (vlo : ∀ p, lo = some p → ∃ u, ulo = some u ∧ V G w p u) (nlo : lo = none → ulo = none)
    (vhi : ∀ p, hi = some p → ∃ u, uhi = some u ∧ V G w p u) (nhi : hi = none → uhi = none) (h0 : 0 ≤ l) (h1 : l ≤ h) (h2 : h ≤ cap) :
    (Instr.sliceBounds isSlice len cap ulo uhi none).run P w = .ok (l.toNat, h.toNat, cap) w := by
  have e0 : 0 ≤ h := by omega
  have e1 : l ≤ (h.toNat : Int) := by omega
  rcases bI_run hl vlo nlo with ⟨_, rfl, rfl⟩ | ⟨k, _, rfl⟩ <;> rcases bI_run hh vhi nhi with ⟨_, rfl, rfl⟩ | ⟨k', _, rfl⟩
  · subst hd
    simp [Instr.sliceBounds]
  · simp [Instr.sliceBounds, run_sliceBound, e0, h2]
  · subst hd
    have : l ≤ (len : Int) := h1
    simp [Instr.sliceBounds, run_sliceBound, h0, this]
  · have b1 := run_sliceBound (P := P) w k l h.toNat (if (none : Option Value).isSome then .slice3C else .sliceB) h0 e1
    simp only [Option.isSome_none, Bool.false_eq_true, if_false] at b1
    simp [Instr.sliceBounds, run_sliceBound, h2, e0, b1]

theorem sliceBounds3_run {len cap : Nat} {lo hi : Option PV} {ulo uhi : Option Value} {l h m : Int} {km : IntKind} (d : Int)
    (hl : bI 0 lo = some l) (hh : bI d hi = some h) (hs : hi.isSome = true) (vlo : ∀ p, lo = some p → ∃ u, ulo = some u ∧ V G w p u) (nlo : lo = none → ulo = none)
    (vhi : ∀ p, hi = some p → ∃ u, uhi = some u ∧ V G w p u) (nhi : hi = none → uhi = none) (h0 : 0 ≤ l) (h1 : l ≤ h) (h2 : h ≤ m) (h3 : m ≤ cap) :
    (Instr.sliceBounds true len cap ulo uhi (some (.int km m))).run P w = .ok (l.toNat, h.toNat, m.toNat) w := by
  have e0 : 0 ≤ h := by omega
  have e1 : l ≤ (h.toNat : Int) := by omega
  have e2 : 0 ≤ m := by omega
  have e3 : h ≤ (m.toNat : Int) := by omega
  rcases bI_run hh vhi nhi with ⟨rfl, _, _⟩ | ⟨k', _, rfl⟩
  · cases hs
  · rcases bI_run hl vlo nlo with ⟨_, rfl, rfl⟩ | ⟨k, _, rfl⟩
    · have b2 := run_sliceBound (P := P) w k' h m.toNat .slice3B e0 e3
      simp [Instr.sliceBounds, run_sliceBound, e2, h3, b2]
    · have b1 := run_sliceBound (P := P) w k l h.toNat .slice3C h0 e1
      have b2 := run_sliceBound (P := P) w k' h m.toNat .slice3B e0 e3
      simp [Instr.sliceBounds, run_sliceBound, e2, h3, b1, b2]

/-- A piece of a slice that is only read. -/
theorem V.piece {c : SK} {es : List PV} {a : Option Addr} {n cap : Nat} (hx : V G w (.slice c es) (.slice a n cap)) (sz : Nat) (l h m : Nat) (c' : SK) (hlh : l ≤ h) (hh : h ≤ es.length) (hhm : h ≤ m) (hsz : l = 0 ∨ SZ sz es)
    (hex : c' = .exact → m = h) (htl : ∀ t e, c' = .tail t e → c = c' ∧ h = es.length ∧ m = cap ∧ l < es.length) :
    V G w (.slice c' ((es.take h).drop l)) (.slice (if m = l then a else a.map (·.add (l * sz))) (h - l) (m - l)) := by
  cases hx with
  | slice _ _ _ B o s _ _ u hn hle hm hsz' ha hs hv he ht =>
  have hlen : ((es.take h).drop l).length = h - l := by simp; omega
  have hs0 : l * sz = l * s ∨ es = [] := by
    rcases hsz with rfl | hsz
    · left; simp
    · cases es with
      | nil => right; rfl
      | cons x xs =>
        left
        have h1 := hsz' 0 (by simp)
        have h2 := hsz x (by simp)
        simp only [List.getElem_cons_zero] at h1
        rw [← h1, h2]
  have hle2 : ∀ j, j < (h - l) * s → l * s + j < n * s := fun j hj => by
    have : h * s ≤ n * s := Nat.mul_le_mul_right _ (by omega)
    rw [Nat.sub_mul] at hj
    omega
  refine .slice c' _ _ B (o + l * s) s (h - l) (m - l) (fun j => u (l * s + j)) hlen.symm (by omega) (by omega) (fun i hi => ?_) (fun h0 => ?_) (fun j hj => ?_) (fun i j hi hj => ?_) (fun e => by rw [hex e]) (fun t e hc => ?_)
  · rw [List.getElem_drop, List.getElem_take]; exact hsz' _ _
  · have hne : es ≠ [] := fun e => by subst e; simp at hh; omega
    rw [hs0.resolve_right hne, if_neg (by omega), ha (by omega)]
    simp [addr_add]
  · have := hs (l * s + j) (hle2 j hj)
    rwa [← Nat.add_assoc] at this
  · have h1 : l + i < es.length := by rw [hlen] at hi; omega
    have e1 : ((es.take h).drop l)[i] = es[l + i] := by rw [List.getElem_drop, List.getElem_take]
    have h2 : j < es[l + i].cells.length := by rw [← e1]; exact hj
    have := hv (l + i) j h1 h2
    rw [Nat.add_mul, Nat.add_assoc] at this
    simp only [e1]
    exact this
  · obtain ⟨rfl, rfl, rfl, hll⟩ := htl t e hc
    rcases ht t e hc with h1 | ⟨h0, h1, h2, h4⟩
    · left; omega
    · by_cases hml : m = l
      · left; omega
      · right
        have hadd : (es.length - l) * s + l * s = es.length * s := by rw [← Nat.add_mul]; congr 1; omega
        have hcl : (m - l) * s + l * s = m * s := by rw [← Nat.add_mul]; congr 1; omega
        refine ⟨by omega, ?_, by rw [h2, hn]; congr 2; omega, by omega⟩
        rw [if_neg hml, h1]
        simp only [Option.map_some, addr_add]
        rcases hs0 with h3 | h3
        · rw [h3]
        · subst h3
          have : l = 0 := by simp at hlh; exact hlh
          subst this
          simp

theorem sound_slice {K : Eff → Prop} {t : TypeId} {x : PV} {lo hi mx : Option PV} {u : Value} {ulo uhi umx : Option Value} (h : aSlice P t x lo hi mx K) (hx : V G w x u)
    (vlo : ∀ p, lo = some p → ∃ u, ulo = some u ∧ V G w p u) (nlo : lo = none → ulo = none) (vhi : ∀ p, hi = some p → ∃ u, uhi = some u ∧ V G w p u) (nhi : hi = none → uhi = none)
    (vmx : ∀ p, mx = some p → ∃ u, umx = some u ∧ V G w p u) (nmx : mx = none → umx = none) (hR : RH G hp w) : Ok P hp G w K (Instr.sliceAt t u ulo uhi umx) := by
  unfold aSlice at h
  split at h
  case h_2 => exact h.elim
  rename_i ti hti
  obtain ⟨inf, d, z, hT⟩ := tinf_of hti
  split at h
  · rename_i s hkd
    have hu := hT.und
    have hd := kd_str (hkd ▸ hT.kd)
    rw [hd] at hu
    split at h
    · rename_i l hh hl' hh' 
      obtain ⟨⟨h0, h1, h2⟩, hk⟩ := h
      cases hx with | str _ hm =>
      rw [nmx rfl]
      have hb := sliceBounds_run (P := P) (isSlice := false) (len := s.size) (cap := s.size) (s.size : Int) rfl hl' hh' vlo nlo vhi nhi h0 h1 h2
      refine .val [] hk ?_ (.str _ (by simp [ByteArray.size_extract]; omega)) hR
      simp [Instr.sliceAt, run_underlying hu, Instr.slice, hb]
    · exact h.elim
  · rename_i e hkd
    have hu := hT.und
    have hd := kd_slice (hkd ▸ hT.kd)
    rw [hd] at hu
    split at h
    · rename_i l hh hl' hh'
      obtain ⟨⟨rfl, rfl⟩, hte, hk⟩ := h
      cases hx with
      | nil0 a =>
      rw [nmx rfl]
      obtain ⟨te, hte⟩ := Option.isSome_iff_exists.1 hte
      obtain ⟨inf', d', z', hT'⟩ := tinf_of hte
      have hb := sliceBounds_run (P := P) (isSlice := true) (len := 0) (cap := 0) (0 : Int) rfl hl' hh' vlo nlo vhi nhi (by omega) (by omega) (by simp)
      refine .val [] hk (v := .slice a 0 0) ?_ (.nil0 _) hR
      simp [Instr.sliceAt, run_underlying hu, Instr.slice, hb, run_sizeOf hT'.info]
    · rename_i l hh km m hl' hh'
      obtain ⟨⟨rfl, rfl, rfl⟩, his, hte, hk⟩ := h
      cases hx with
      | nil0 a =>
      obtain ⟨um, hum, hV⟩ := vmx _ rfl
      cases hV
      subst hum
      obtain ⟨te, hte⟩ := Option.isSome_iff_exists.1 hte
      obtain ⟨inf', d', z', hT'⟩ := tinf_of hte
      have hb := sliceBounds3_run (P := P) (len := 0) (cap := 0) (km := km) (0 : Int) hl' hh' his vlo nlo vhi nhi (by omega) (by omega) (by omega : (0 : Int) ≤ 0) (by simp)
      refine .val [] hk (v := .slice a 0 0) ?_ (.nil0 _) hR
      simp [Instr.sliceAt, run_underlying hu, Instr.slice, hb, run_sizeOf hT'.info]
    · exact h.elim
  · rename_i e c es hkd
    have hu := hT.und
    have hd := kd_slice (hkd ▸ hT.kd)
    rw [hd] at hu
    split at h
    · rename_i l hh te hl' hh' hte
      obtain ⟨⟨h0, h1, h2⟩, hsz, hk⟩ := h
      rw [nmx rfl]
      obtain ⟨inf', d', z', hT'⟩ := tinf_of hte
      have hx' := hx
      cases hx with
      | slice _ _ a B o s n cap us hn hle hm hsz' ha hs hv he ht =>
      have hb := sliceBounds_run (P := P) (isSlice := true) (len := n) (cap := cap) (es.length : Int) (by omega) hl' hh' vlo nlo vhi nhi h0 h1 (by omega)
      refine .val [] hk (v := .slice (if cap = l.toNat then a else a.map (·.add (l.toNat * te.sz))) (hh.toNat - l.toNat) (cap - l.toNat)) ?_ ?_ hR
      · simp [Instr.sliceAt, run_underlying hu, Instr.slice, hb, run_sizeOf hT'.info, hT'.sz]
      · refine hx'.piece te.sz l.toNat hh.toNat cap _ (by omega) (by omega) (by omega) (hsz.imp (by omega) id) (fun hc => ?_) (fun t' e' hc => ?_)
        · unfold SK.cut at hc
          split at hc
          · rename_i hlen
            rw [he hc, hn]; omega
          · cases hc
        · unfold SK.cut at hc ⊢
          split at hc
          · rename_i hlen
            rw [if_pos hlen]
            refine ⟨rfl, hlen.1, rfl, hlen.2.resolve_left fun e => ?_⟩
            rw [e] at hc
            cases hc
          · cases hc
    · rename_i l hh km m te hl' hh' hte
      obtain ⟨⟨h0, h1, h2, h3⟩, his, hsz, hk⟩ := h
      obtain ⟨um, hum, hV⟩ := vmx _ rfl
      cases hV
      subst hum
      obtain ⟨inf', d', z', hT'⟩ := tinf_of hte
      have hx' := hx
      cases hx with
      | slice _ _ a B o s n cap us hn hle hm hsz' ha hs hv he ht =>
      have hb := sliceBounds3_run (P := P) (len := n) (cap := cap) (km := km) (es.length : Int) hl' hh' his vlo nlo vhi nhi h0 h1 h2 (by omega)
      refine .val [] hk (v := .slice (if m.toNat = l.toNat then a else a.map (·.add (l.toNat * te.sz))) (hh.toNat - l.toNat) (m.toNat - l.toNat)) ?_ ?_ hR
      · simp [Instr.sliceAt, run_underlying hu, Instr.slice, hb, run_sizeOf hT'.info, hT'.sz]
      · split
        · have e1 : hh.toNat - l.toNat = 0 := by omega
          have e2 : m.toNat - l.toNat = 0 := by omega
          rw [e1, e2]
          exact .nil0 _
        · refine hx'.piece te.sz l.toNat hh.toNat m.toNat _ (by omega) (by omega) (by omega) (hsz.imp (by omega) id) (fun hc => ?_) (fun t' e' hc => ?_)
          · split at hc
            · omega
            · cases hc
          · split at hc <;> cases hc
    · exact h.elim
  · rename_i e o off n s hkd
    have hu := hT.und
    have hd := kd_slice (hkd ▸ hT.kd)
    rw [hd] at hu
    split at h
    · rename_i l hh te hl' hh' hte
      obtain ⟨⟨h0, h1, h2⟩, hsz, hk⟩ := h
      rw [nmx rfl]
      obtain ⟨inf', d', z', hT'⟩ := tinf_of hte
      cases hx with
      | mslice _ _ _ _ B cap a hB hle hm ha hN =>
      have hb := sliceBounds_run (P := P) (isSlice := true) (len := n) (cap := cap) (n : Int) rfl hl' hh' vlo nlo vhi nhi h0 h1 (by omega)
      refine .val [] hk (v := .slice (if cap = l.toNat then a else a.map (·.add (l.toNat * te.sz))) (hh.toNat - l.toNat) (cap - l.toNat)) ?_ (.mslice _ _ _ _ B _ _ hB (by omega) (by omega) (fun hp => ?_) ?_) hR
      · simp [Instr.sliceAt, run_underlying hu, Instr.slice, hb, run_sizeOf hT'.info, hT'.sz]
      · rw [if_neg (by omega), ha (by omega), hsz]
        simp [addr_add]
      · have e1 : off + l.toNat * s + (cap - l.toNat) * s = off + cap * s := by rw [Nat.add_assoc, ← Nat.add_mul]; congr 2; omega
        rw [e1]; exact hN
    · exact h.elim
  · exact h.elim
end
end Go.Proofs.YtlfngjemfpjegaaDoor.Px
