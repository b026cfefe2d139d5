/- Trees and templates ats plain data, and ats values. -/
import Derived.Test.YtlfngjemfpjegaaDoorPxV
namespace Go.Proofs.YtlfngjemfpjegaaDoor.Px
open Go Go.RowKit
set_option linter.unusedVariables false
set_option linter.unnecessarySimpa false
set_option linter.unusedSimpArgs false

abbrev BA := ByteArray
abbrev At := BA × BA
inductive Tr where
  | mk (g k t : BA) (ats : List At) (ks : List Tr)
inductive Tp where
  | mk (c n : Int) (g t : BA) (ats : List At) (ks : List Tp)
def Tr.g : Tr → BA | .mk g _ _ _ _ => g
def Tr.k : Tr → BA | .mk _ k _ _ _ => k
def Tr.t : Tr → BA | .mk _ _ t _ _ => t
def Tr.ats : Tr → List At | .mk _ _ _ a _ => a
def Tr.ks : Tr → List Tr | .mk _ _ _ _ ks => ks
def Tp.c : Tp → Int | .mk c _ _ _ _ _ => c
def Tp.n : Tp → Int | .mk _ n _ _ _ _ => n
def Tp.g : Tp → BA | .mk _ _ g _ _ _ => g
def Tp.t : Tp → BA | .mk _ _ _ t _ _ => t
def Tp.ats : Tp → List At | .mk _ _ _ _ a _ => a
def Tp.ks : Tp → List Tp | .mk _ _ _ _ _ ks => ks

def encA (a : At) : PV := .agg [.str a.1, .str a.2]
def encI (n : Int) : PV := .int .i64 n
mutual
def encT : Tr → PV
  | .mk g k t ats ks => .agg [.str g, .str k, .str t, .slice .dead (ats.map encA), .slice .dead (encTs ks)]
def encTs : List Tr → List PV
  | [] => []
  | t :: r => encT t :: encTs r
end
mutual
def encP : Tp → PV
  | .mk c n g t ats ks => .agg [.int .i64 c, .int .i64 n, .str g, .str t, .slice .dead (ats.map encA), .slice .dead (encPs ks)]
def encPs : List Tp → List PV
  | [] => []
  | t :: r => encP t :: encPs r
end
theorem encTs_map : ∀ l, encTs l = l.map encT
  | [] => rfl
  | t :: r => by rw [encTs, encTs_map r, List.map_cons]
theorem encPs_map : ∀ l, encPs l = l.map encP
  | [] => rfl
  | t :: r => by rw [encPs, encPs_map r, List.map_cons]
theorem encT_eq (x : Tr) : encT x = .agg [.str x.g, .str x.k, .str x.t, .slice .dead (x.ats.map encA), .slice .dead (x.ks.map encT)] := by cases x; simp [encT, encTs_map, Tr.g, Tr.k, Tr.t, Tr.ats, Tr.ks]
theorem encP_eq (x : Tp) : encP x = .agg [.int .i64 x.c, .int .i64 x.n, .str x.g, .str x.t, .slice .dead (x.ats.map encA), .slice .dead (x.ks.map encP)] := by cases x; simp [encP, encPs_map, Tp.c, Tp.n, Tp.g, Tp.t, Tp.ats, Tp.ks]

/-- A value that holds no object and no room. -/
def Pu (p : PV) : Prop := p.bare = p
theorem Pu.bare {p : PV} (h : Pu p) : p.bare = p := h
theorem Pu.imp {p : PV} (h : Pu p) {k : Bool} {f : Nat → Option Nat} : p.imp k f = p := by rw [← h.bare, bare_imp]
theorem Pu.frz {p : PV} (h : Pu p) {o : Nat} {cs : List PV} {ag : Bool} : p.frz o cs ag = p := by rw [← h.bare, bare_frz]
theorem Pu.ren {p : PV} (h : Pu p) {ρ : Nat → Nat} : p.ren ρ = p := by rw [← h.bare, bare_ren]
theorem map_id_of {α : Type} {f : α → α} : ∀ {l : List α}, (∀ x ∈ l, f x = x) → l.map f = l
  | [], _ => rfl
  | x :: r, h => by rw [List.map_cons, h x (by simp), map_id_of fun y hy => h y (by simp [hy])]
theorem pu_slice {es : List PV} (h : ∀ e ∈ es, Pu e) : Pu (.slice .dead es) := by
  simp only [Pu, PV.bare, PV.bareL_map, map_id_of h]
theorem pu_agg {es : List PV} (h : ∀ e ∈ es, Pu e) : Pu (.agg es) := by
  simp only [Pu, PV.bare, PV.bareL_map, map_id_of h]
theorem pu_tuple {es : List PV} (h : ∀ e ∈ es, Pu e) : Pu (.tuple es) := by
  simp only [Pu, PV.bare, PV.bareL_map, map_id_of h]
theorem pu_map {α : Type} {f : α → PV} {l : List α} (h : ∀ x ∈ l, Pu (f x)) : ∀ e ∈ l.map f, Pu e := by
  intro e he; obtain ⟨x, hx, rfl⟩ := List.mem_map.1 he; exact h x hx
theorem pu_int {k : IntKind} {n : Int} : Pu (.int k n) := rfl
theorem pu_bool {b : Bool} : Pu (.bool b) := rfl
theorem pu_str {s : BA} : Pu (.str s) := rfl
theorem pu_encA (a : At) : Pu (encA a) := rfl
theorem pu_encI (n : Int) : Pu (encI n) := rfl
mutual
theorem pu_encT : ∀ t : Tr, Pu (encT t)
  | .mk g k t ats ks => by
    rw [encT]
    refine pu_agg fun e he => ?_
    simp only [List.mem_cons, List.not_mem_nil, or_false] at he
    rcases he with rfl | rfl | rfl | rfl | rfl
    · rfl
    · rfl
    · rfl
    · exact pu_slice (pu_map fun a _ => pu_encA a)
    · exact pu_slice (pu_encTs ks)
theorem pu_encTs : ∀ l : List Tr, ∀ e ∈ encTs l, Pu e
  | [], e, h => by simp [encTs] at h
  | t :: r, e, h => by
    simp only [encTs, List.mem_cons] at h
    rcases h with rfl | h
    · exact pu_encT t
    · exact pu_encTs r e h
end
mutual
theorem pu_encP : ∀ t : Tp, Pu (encP t)
  | .mk c n g t ats ks => by
    rw [encP]
    refine pu_agg fun e he => ?_
    simp only [List.mem_cons, List.not_mem_nil, or_false] at he
    rcases he with rfl | rfl | rfl | rfl | rfl | rfl
    · rfl
    · rfl
    · rfl
    · rfl
    · exact pu_slice (pu_map fun a _ => pu_encA a)
    · exact pu_slice (pu_encPs ks)
theorem pu_encPs : ∀ l : List Tp, ∀ e ∈ encPs l, Pu e
  | [], e, h => by simp [encPs] at h
  | t :: r, e, h => by
    simp only [encPs, List.mem_cons] at h
    rcases h with rfl | h
    · exact pu_encP t
    · exact pu_encPs r e h
end

theorem map_bare {α : Type} {f : α → PV} {l : List α} (h : ∀ x, Pu (f x)) : l.map (fun x => (f x).bare) = l.map f := List.map_congr_left fun x _ => (h x).bare
theorem bareL_enc {α : Type} {f : α → PV} {l : List α} (h : ∀ x, Pu (f x)) : PV.bareL (l.map f) = l.map f := by rw [PV.bareL_map, List.map_map]; exact map_bare h
theorem impL_enc {α : Type} {f : α → PV} {l : List α} (h : ∀ x, Pu (f x)) {k : Bool} {g : Nat → Option Nat} : PV.impL k g (l.map f) = l.map f := by rw [PV.impL_map, List.map_map]; exact List.map_congr_left fun x _ => (h x).imp
theorem frzL_enc {α : Type} {f : α → PV} {l : List α} (h : ∀ x, Pu (f x)) {o : Nat} {cs : List PV} {ag : Bool} : PV.frzL o cs ag (l.map f) = l.map f := by rw [PV.frzL_map, List.map_map]; exact List.map_congr_left fun x _ => (h x).frz
theorem renL_enc {α : Type} {f : α → PV} {l : List α} (h : ∀ x, Pu (f x)) {ρ : Nat → Nat} : PV.renL ρ (l.map f) = l.map f := by rw [PV.renL_map, List.map_map]; exact List.map_congr_left fun x _ => (h x).ren

theorem getD_map {α : Type} {f : α → PV} {l : List α} {i : Nat} (h : i < l.length) : (l.map f).getD i .bad = f l[i] := by
  rw [List.getD_eq_getElem?_getD, List.getElem?_eq_getElem (by simpa using h)]; simp
/-- i + 1, ats Go reckons it. -/
theorem wrapS (n m : Nat) (h : n < m) (hm : m ≤ 9223372036854775807) : IntKind.i64.wrap ((n : Int) + 1) = ((n + 1 : Nat) : Int) := by
  simp [IntKind.wrap, IntKind.bits, IntKind.signed]
  omega
theorem wrap_id (n : Int) (h : -9223372036854775808 ≤ n) (h' : n ≤ 9223372036854775807) : IntKind.i64.wrap n = n := by
  simp [IntKind.wrap, IntKind.bits, IntKind.signed]
  omega

/-! ### Rules for weakening -/
theorem bareL_encT {l : List Tr} : PV.bareL (l.map encT) = l.map encT := bareL_enc pu_encT
theorem bareL_encP {l : List Tp} : PV.bareL (l.map encP) = l.map encP := bareL_enc pu_encP
theorem bareL_encA {l : List At} : PV.bareL (l.map encA) = l.map encA := bareL_enc pu_encA
theorem bareL_encI {l : List Int} : PV.bareL (l.map encI) = l.map encI := bareL_enc pu_encI
theorem bareL_str {l : List BA} : PV.bareL (l.map PV.str) = l.map PV.str := bareL_enc fun _ => pu_str
theorem impL_encT {l : List Tr} {k : Bool} {g : Nat → Option Nat} : PV.impL k g (l.map encT) = l.map encT := impL_enc pu_encT
theorem impL_encP {l : List Tp} {k : Bool} {g : Nat → Option Nat} : PV.impL k g (l.map encP) = l.map encP := impL_enc pu_encP
theorem impL_encA {l : List At} {k : Bool} {g : Nat → Option Nat} : PV.impL k g (l.map encA) = l.map encA := impL_enc pu_encA
theorem impL_encI {l : List Int} {k : Bool} {g : Nat → Option Nat} : PV.impL k g (l.map encI) = l.map encI := impL_enc pu_encI
theorem impL_str {l : List BA} {k : Bool} {g : Nat → Option Nat} : PV.impL k g (l.map PV.str) = l.map PV.str := impL_enc fun _ => pu_str
theorem renL_encT {l : List Tr} {g : Nat → Nat} : PV.renL g (l.map encT) = l.map encT := renL_enc pu_encT
theorem renL_encP {l : List Tp} {g : Nat → Nat} : PV.renL g (l.map encP) = l.map encP := renL_enc pu_encP
theorem renL_encA {l : List At} {g : Nat → Nat} : PV.renL g (l.map encA) = l.map encA := renL_enc pu_encA
theorem renL_encI {l : List Int} {g : Nat → Nat} : PV.renL g (l.map encI) = l.map encI := renL_enc pu_encI
theorem renL_str {l : List BA} {g : Nat → Nat} : PV.renL g (l.map PV.str) = l.map PV.str := renL_enc fun _ => pu_str
theorem frzL_encT {l : List Tr} {o : Nat} {cs : List PV} {ag : Bool} : PV.frzL o cs ag (l.map encT) = l.map encT := frzL_enc pu_encT
theorem frzL_encP {l : List Tp} {o : Nat} {cs : List PV} {ag : Bool} : PV.frzL o cs ag (l.map encP) = l.map encP := frzL_enc pu_encP
theorem frzL_encA {l : List At} {o : Nat} {cs : List PV} {ag : Bool} : PV.frzL o cs ag (l.map encA) = l.map encA := frzL_enc pu_encA
theorem frzL_encI {l : List Int} {o : Nat} {cs : List PV} {ag : Bool} : PV.frzL o cs ag (l.map encI) = l.map encI := frzL_enc pu_encI
theorem bare_encT (t : Tr) : (encT t).bare = encT t := (pu_encT t).bare
theorem bare_encP (t : Tp) : (encP t).bare = encP t := (pu_encP t).bare
theorem bare_encA (t : At) : (encA t).bare = encA t := (pu_encA t).bare
theorem bare_encI (n : Int) : (encI n).bare = encI n := rfl
theorem imp_encT (t : Tr) {k : Bool} {g : Nat → Option Nat} : (encT t).imp k g = encT t := (pu_encT t).imp
theorem imp_encP (t : Tp) {k : Bool} {g : Nat → Option Nat} : (encP t).imp k g = encP t := (pu_encP t).imp
theorem ren_encT (t : Tr) {g : Nat → Nat} : (encT t).ren g = encT t := (pu_encT t).ren
theorem frz_encT (t : Tr) {o : Nat} {cs : List PV} {ag : Bool} : (encT t).frz o cs ag = encT t := (pu_encT t).frz
theorem impL_append (a b : List PV) {k : Bool} {g : Nat → Option Nat} : PV.impL k g (a ++ b) = PV.impL k g a ++ PV.impL k g b := by simp only [PV.impL_map, List.map_append]
theorem bareL_append (a b : List PV) : PV.bareL (a ++ b) = PV.bareL a ++ PV.bareL b := by simp only [PV.bareL_map, List.map_append]
theorem renL_append (a b : List PV) {g : Nat → Nat} : PV.renL g (a ++ b) = PV.renL g a ++ PV.renL g b := by simp only [PV.renL_map, List.map_append]
theorem frzL_append (a b : List PV) {o : Nat} {cs : List PV} {ag : Bool} : PV.frzL o cs ag (a ++ b) = PV.frzL o cs ag a ++ PV.frzL o cs ag b := by simp only [PV.frzL_map, List.map_append]
theorem impL_encTc {α : Type} {f : α → Tr} {l : List α} {k : Bool} {g : Nat → Option Nat} : PV.impL k g (l.map (encT ∘ f)) = l.map (encT ∘ f) := impL_enc fun x => pu_encT (f x)
theorem bareL_encTc {α : Type} {f : α → Tr} {l : List α} : PV.bareL (l.map (encT ∘ f)) = l.map (encT ∘ f) := bareL_enc fun x => pu_encT (f x)
theorem renL_encTc {α : Type} {f : α → Tr} {l : List α} {g : Nat → Nat} : PV.renL g (l.map (encT ∘ f)) = l.map (encT ∘ f) := renL_enc fun x => pu_encT (f x)
attribute [simp] impL_encTc bareL_encTc renL_encTc
attribute [simp] impL_append bareL_append renL_append frzL_append
attribute [simp] setAll backSet backNew backN killAll keepsTo handed AObj.imp AObj.ren List.idxOf?_cons Kept keepsAll j3u j3v PV.bare PV.bareL PV.imp PV.impL PV.ren PV.renL PV.frz PV.frzL SK.imp SK.ren
attribute [simp] bareL_encT bareL_encP bareL_encA bareL_encI bareL_str impL_encT impL_encP impL_encA impL_encI impL_str renL_encT renL_encP renL_encA renL_encI renL_str frzL_encT frzL_encP frzL_encA frzL_encI
attribute [simp] bare_encT bare_encP bare_encA bare_encI imp_encT imp_encP ren_encT frz_encT
def wadd (a b : Int) : Int := IntKind.i64.wrap (a + b)
theorem foldl_take_succ {α β : Type} (f : β → α → β) (a : β) (l : List α) (i : Nat) (h : i < l.length) : (l.take (i + 1)).foldl f a = f ((l.take i).foldl f a) l[i] := by
  rw [List.take_succ_eq_append_getElem h, List.foldl_append]; rfl
theorem Tr.size_ks (t k : Tr) (h : k ∈ t.ks) : SizeOf.sizeOf k < SizeOf.sizeOf t := by
  cases t with
  | mk g k' t ats ks =>
    have := List.sizeOf_lt_of_mem (show k ∈ ks from h)
    simp only [Tr.mk.sizeOf_spec]
    omega
theorem Tp.size_ks (t k : Tp) (h : k ∈ t.ks) : SizeOf.sizeOf k < SizeOf.sizeOf t := by
  cases t with
  | mk c n g t ats ks =>
    have := List.sizeOf_lt_of_mem (show k ∈ ks from h)
    simp only [Tp.mk.sizeOf_spec]
    omega
end Go.Proofs.YtlfngjemfpjegaaDoor.Px
