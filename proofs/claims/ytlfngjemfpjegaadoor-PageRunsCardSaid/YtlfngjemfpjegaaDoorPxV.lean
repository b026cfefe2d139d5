/- The abstract machine (Px): the rules by which a run is reckoned. -/
import Derived.Test.YtlfngjemfpjegaaDoorPxU
namespace Go.Proofs.YtlfngjemfpjegaaDoor.Px
open Go Go.RowKit
set_option linter.unusedVariables false
set_option linter.unusedSimpArgs false

/-- Kept from being a rule by definition: the kernel then sees small steps. -/
theorem nrfl.{u} {α : Sort u} {a b : α} (h : a = b) : a = b := h

section
variable {P : Program} {m N : Nat} {K : XExit → XS → Prop} {s : XS}

def kseq (P : Program) (m N : Nat) (y : XCode) (K : XExit → XS → Prop) : XExit → XS → Prop
  | .normal, s => aw P m N y K s
  | e, s => K e s
def kblock (id : Nat) (K : XExit → XS → Prop) : XExit → XS → Prop
  | .exit i, s => if i = id then K .normal s else K (.exit i) s
  | e, s => K e s
def kloop {α : Type} (m N : Nat) (sI : α → XS) (I : α → Prop) (μ : α → Nat) (x : α) (K : XExit → XS → Prop) : XExit → XS → Prop
  | .normal, s => ∃ y, I y ∧ Wk m N s (sI y) ∧ μ y < μ x
  | e, s => K e s
def kop (P : Program) (d : Option Nat) (r : List XO) (K : XExit → XS → Prop) (s : XS) (e : Eff) : Prop := aOps P r K (s.go d e)
def xop (K : XExit → XS → Prop) (s : XS) (e : Eff) : Prop := K (.pan e.v) ⟨s.l, after s.hp e⟩
def acnd (P : Program) (m N : Nat) (v : PV) (x y : XCode) (K : XExit → XS → Prop) (s : XS) : Prop :=
  match v with
  | .bool b => if b = true then aw P m N x K s else aw P m N y K s
  | _ => False
def agrd (P : Program) (v : PV) (b : Bool) (d : Option Nat) (op : Op) (r : List XO) (K : XExit → XS → Prop) (s : XS) : Prop :=
  match v with
  | .bool c => if c = b then aOp P s.st op (kop P d r K s) (xop K s) else aOps P r K (s.put d (.tuple []))
  | .tuple [] => aOps P r K (s.put d (.tuple []))
  | _ => False

/-- Behind a drawn region. -/
def kd (deps : List (List Nat)) (ops : List XO) (K : XExit → XS → Prop) (tr : List (Option Eff)) (s : XS) : Prop := chkX deps (ops.zip tr) = true ∧ K .normal s
/-- At a panic in a drawn region. -/
def kp (deps : List (List Nat)) (ops : List XO) (K : XExit → XS → Prop) (tr : List (Option Eff)) (e : Eff) (s : XS) : Prop := chkP deps ops tr = true ∧ K (.pan e.v) ⟨[], after s.hp e⟩
/-- The rest of a drawn region: deps and ops are the region's, K goes on behind it. -/
def aX (P : Program) (deps : List (List Nat)) (ops : List XO) (K : XExit → XS → Prop) (nu : Nat) (r : List XO) (acc : List (Option Eff)) (s : XS) : Prop := aD P (kd deps ops K) (kp deps ops K) nu r acc s
def kdo (P : Program) (deps : List (List Nat)) (ops : List XO) (K : XExit → XS → Prop) (nu : Nat) (d : Option Nat) (r : List XO) (acc : List (Option Eff)) (s : XS) (e : Eff) : Prop := aX P deps ops K nu r (some e :: acc) (s.go d e)
def xdo (deps : List (List Nat)) (ops : List XO) (K : XExit → XS → Prop) (acc : List (Option Eff)) (s : XS) (e : Eff) : Prop := kp deps ops K acc.reverse e s
def aXo (P : Program) (deps : List (List Nat)) (ops : List XO) (K : XExit → XS → Prop) (nu : Nat) (b : Bool) (d : Option Nat) (op : Op) (r : List XO) (acc : List (Option Eff)) (s : XS) : Prop :=
  aOpN P nu s.st op (kdo P deps ops K (if b then nu + 1 else nu) d r acc s) (xdo deps ops K acc s)
def adg (P : Program) (deps : List (List Nat)) (ops : List XO) (K : XExit → XS → Prop) (nu : Nat) (nw : Bool) (v : PV) (b : Bool) (d : Option Nat) (op : Op) (r : List XO) (acc : List (Option Eff)) (s : XS) : Prop :=
  match v with
  | .bool c => if c = b then aXo P deps ops K nu nw d op r acc s else aX P deps ops K (if nw then nu + 1 else nu) r (none :: acc) (s.put d (.tuple []))
  | .tuple [] => aX P deps ops K (if nw then nu + 1 else nu) r (none :: acc) (s.put d (.tuple []))
  | _ => False

theorem j08 {y : XCode} : kseq P m N y K .normal s = aw P m N y K s := nrfl rfl
theorem j09 {y : XCode} {i : Nat} : kseq P m N y K (.exit i) s = K (.exit i) s := nrfl rfl
theorem j0a {y : XCode} : kseq P m N y K .ret s = K .ret s := nrfl rfl
theorem j0b {y : XCode} {v : PV} : kseq P m N y K (.pan v) s = K (.pan v) s := nrfl rfl
theorem j0c {id : Nat} : kblock id K .normal s = K .normal s := nrfl rfl
theorem j0d {id i : Nat} : kblock id K (.exit i) s = if i = id then K .normal s else K (.exit i) s := nrfl rfl
theorem j0e {id : Nat} : kblock id K .ret s = K .ret s := nrfl rfl
theorem j0f {id : Nat} {v : PV} : kblock id K (.pan v) s = K (.pan v) s := nrfl rfl
theorem j0g {α : Type} {sI : α → XS} {I : α → Prop} {μ : α → Nat} {x : α} : kloop m N sI I μ x K .normal s = ∃ y, I y ∧ Wk m N s (sI y) ∧ μ y < μ x := nrfl rfl
theorem j0h {α : Type} {sI : α → XS} {I : α → Prop} {μ : α → Nat} {x : α} {i : Nat} : kloop m N sI I μ x K (.exit i) s = K (.exit i) s := nrfl rfl
theorem j0i {α : Type} {sI : α → XS} {I : α → Prop} {μ : α → Nat} {x : α} : kloop m N sI I μ x K .ret s = K .ret s := nrfl rfl
theorem j0j {α : Type} {sI : α → XS} {I : α → Prop} {μ : α → Nat} {x : α} {v : PV} : kloop m N sI I μ x K (.pan v) s = K (.pan v) s := nrfl rfl

theorem j00 : aw P m N .skip K s = K .normal s := nrfl rfl
theorem j01 {i : Nat} : aw P m N (.exit i) K s = K (.exit i) s := nrfl rfl
theorem j02 : aw P m N .ret K s = K .ret s := nrfl rfl
theorem j03 {ops : List XO} : aw P m N (.reg ops) K s = aOps P ops K s := nrfl rfl
theorem j04 {ops : List XO} {deps : List (List Nat)} : aw P m N (.dreg ops deps) K s = aX P deps ops K s.hp.length ops [] ⟨s.l, s.hp ++ List.replicate (ops.filter fun x => isNew x.op).length .hole⟩ := nrfl rfl
theorem j05 {x y : XCode} : aw P m N (.seq x y) K s = aw P m N x (kseq P m N y K) s := by
  simp only [aw]; congr 1; funext e s'; cases e <;> rfl
theorem j06 {c : Operand} {x y : XCode} : aw P m N (.cond c x y) K s = acnd P m N (s.st.ev c) x y K s := nrfl rfl
theorem j07 {id : Nat} {c : XCode} : aw P m N (.block id c) K s = aw P m N c (kblock id K) s := by
  simp only [aw]; congr 1; funext e s'; cases e <;> rfl
theorem j0k {x y : XCode} : acnd P m N (.bool true) x y K s = aw P m N x K s := nrfl rfl
theorem j0l {x y : XCode} : acnd P m N (.bool false) x y K s = aw P m N y K s := nrfl rfl
theorem acnd_split {b : Bool} {x y : XCode} (ht : b = true → aw P m N x K s) (hf : b = false → aw P m N y K s) : acnd P m N (.bool b) x y K s := by
  cases b
  · exact hf rfl
  · exact ht rfl
theorem aw_loop {α : Type} (sI : α → XS) (I : α → Prop) (μ : α → Nat) (x0 : α) {c : XCode} (h0 : I x0) (hw : Wk m N s (sI x0)) (h : ∀ x, I x → aw P m N c (kloop m N sI I μ x K) (sI x)) : aw P m N (.loop c) K s := by
  refine ⟨{ x // I x }, fun x => sI x.1, fun x => μ x.1, ⟨x0, h0⟩, hw, fun x => ?_⟩
  have := h x.1 x.2
  have e : (fun e s' => match e with
        | XExit.normal => ∃ y : { x // I x }, Wk m N s' (sI y.1) ∧ μ y.1 < μ x.1
        | e => K e s') = kloop m N sI I μ x.1 K := by
    funext e s'
    cases e
    case normal => simp only [kloop]; exact propext ⟨fun ⟨y, a, b⟩ => ⟨y.1, y.2, a, b⟩, fun ⟨y, i, a, b⟩ => ⟨⟨y, i⟩, a, b⟩⟩
    all_goals rfl
  exact Eq.mpr (congrFun (congrArg (aw P m N c) e) (sI x.1)) this
theorem aw_cut {c : XCode} (s' : XS) (hw : Wk m N s s') (h : aw P m N c K s') : aw P m N (.cut c) K s := fun _ => ⟨s', hw, h⟩
theorem aw_cut_bd {c : XCode} (h : (∀ t, (look s.l t).bd) → ∃ s', Wk m N s s' ∧ aw P m N c K s') : aw P m N (.cut c) K s := h
theorem aw_cut_same {c : XCode} (h : (∀ t, (look s.l t).bd) → aw P m N c K s) : aw P m N (.cut c) K s := fun hb => ⟨s, .refl _ _ _, h hb⟩

theorem j0m : aOps P [] K s = K .normal s := nrfl rfl
theorem j0n {d : Option Nat} {op : Op} {r : List XO} : aOps P (⟨d, none, op, false⟩ :: r) K s = aOp P s.st op (kop P d r K s) (xop K s) := nrfl rfl
theorem j0o {d : Option Nat} {op : Op} {r : List XO} : aOps P (⟨d, none, op, true⟩ :: r) K s = aOwn P s.st op (kop P d r K s) := nrfl rfl
theorem j0p {d : Option Nat} {op : Op} {r : List XO} {t : Nat} {b : Bool} : aOps P (⟨d, some (t, b), op, false⟩ :: r) K s = agrd P (look s.l t) b d op r K s := by
  cases h : look s.l t <;> simp only [aOps, agrd, h, aOpO] <;> rfl
theorem j0q {d : Option Nat} {op : Op} {r : List XO} {b : Bool} : agrd P (.bool b) b d op r K s = aOp P s.st op (kop P d r K s) (xop K s) := by simp [agrd]
theorem j0r {d : Option Nat} {op : Op} {r : List XO} : agrd P (.bool true) false d op r K s = aOps P r K (s.put d (.tuple [])) := by simp [agrd]
theorem j0s {d : Option Nat} {op : Op} {r : List XO} : agrd P (.bool false) true d op r K s = aOps P r K (s.put d (.tuple [])) := by simp [agrd]
theorem j0t {d : Option Nat} {op : Op} {r : List XO} {b : Bool} : agrd P (.tuple []) b d op r K s = aOps P r K (s.put d (.tuple [])) := by simp [agrd]
theorem agrd_split {d : Option Nat} {op : Op} {r : List XO} {b c : Bool} (ht : c = b → aOp P s.st op (kop P d r K s) (xop K s)) (hf : c ≠ b → aOps P r K (s.put d (.tuple []))) : agrd P (.bool c) b d op r K s := by
  simp only [agrd]; split
  · exact ht ‹_›
  · exact hf ‹_›

variable {deps : List (List Nat)} {ops : List XO} {nu : Nat} {acc : List (Option Eff)} {d : Option Nat} {op : Op} {r : List XO} {ow b c : Bool} {t : Nat}
theorem j0u : aX P deps ops K nu [] acc s = kd deps ops K acc.reverse s := nrfl rfl
theorem j0v : aX P deps ops K nu (⟨d, none, op, ow⟩ :: r) acc s = aXo P deps ops K nu (isNew op) d op r acc s := nrfl rfl
theorem j0w : aX P deps ops K nu (⟨d, some (t, b), op, ow⟩ :: r) acc s = adg P deps ops K nu (isNew op) (look s.l t) b d op r acc s := by
  cases h : look s.l t <;> simp only [aX, aD, adg, aXo, h] <;> rfl
theorem j0x : aXo P deps ops K nu false d op r acc s = aOpN P nu s.st op (kdo P deps ops K nu d r acc s) (xdo deps ops K acc s) := nrfl rfl
theorem j0y : aXo P deps ops K nu true d op r acc s = aOpN P nu s.st op (kdo P deps ops K (nu + 1) d r acc s) (xdo deps ops K acc s) := nrfl rfl
theorem j0z : adg P deps ops K nu b (.bool c) c d op r acc s = aXo P deps ops K nu b d op r acc s := by simp [adg]
theorem j10 : adg P deps ops K nu false (.bool true) false d op r acc s = aX P deps ops K nu r (none :: acc) (s.put d (.tuple [])) := by simp [adg]
theorem j11 : adg P deps ops K nu false (.bool false) true d op r acc s = aX P deps ops K nu r (none :: acc) (s.put d (.tuple [])) := by simp [adg]
theorem j12 : adg P deps ops K nu true (.bool true) false d op r acc s = aX P deps ops K (nu + 1) r (none :: acc) (s.put d (.tuple [])) := by simp [adg]
theorem j13 : adg P deps ops K nu true (.bool false) true d op r acc s = aX P deps ops K (nu + 1) r (none :: acc) (s.put d (.tuple [])) := by simp [adg]
theorem j14 : adg P deps ops K nu false (.tuple []) b d op r acc s = aX P deps ops K nu r (none :: acc) (s.put d (.tuple [])) := by simp [adg]
theorem j15 : adg P deps ops K nu true (.tuple []) b d op r acc s = aX P deps ops K (nu + 1) r (none :: acc) (s.put d (.tuple [])) := by simp [adg]

variable {l : List (Nat × PV)} {hp : List AObj} {p : PV} {n : Nat} {rd : List Nat} {st : List (Nat × AObj)} {nw : List AObj}
theorem j3k {r : List XO} : kop P (some n) r K ⟨l, hp⟩ ⟨p, st, nw, rd⟩ = aOps P r K ⟨(n, p) :: l, setAll hp st ++ nw⟩ := nrfl rfl
theorem j3l {r : List XO} : kop P none r K ⟨l, hp⟩ ⟨p, st, nw, rd⟩ = aOps P r K ⟨l, setAll hp st ++ nw⟩ := nrfl rfl
theorem j3m : xop K ⟨l, hp⟩ ⟨p, st, nw, rd⟩ = K (.pan p) ⟨l, setAll hp st ++ nw⟩ := nrfl rfl
theorem j3n : XS.put ⟨l, hp⟩ (some n) p = ⟨(n, p) :: l, hp⟩ := rfl
theorem j3o : XS.put ⟨l, hp⟩ none p = ⟨l, hp⟩ := rfl
theorem j3p : setAll hp [] = hp := rfl
theorem j3q : XS.st ⟨l, hp⟩ = ⟨look l, hp⟩ := rfl
theorem j3r {f : Nat → PV} {t : Nat} : St.ev ⟨f, hp⟩ (.tmp t) = f t := rfl
theorem j3s {f : Nat → PV} {v : Value} : St.ev ⟨f, hp⟩ (.const v) = ofConst v := rfl
theorem j3t {f : Nat → PV} {g : FuncId} : St.ev ⟨f, hp⟩ (.func g) = .func g [] := rfl
theorem j3u {d t : Nat} {v : PV} : look ((d, v) :: l) t = bif t == d then v else look l t := rfl
theorem j3v {t : Nat} : look [] t = .bad := rfl
theorem j3w {k : IntKind} {i : Int} : ofConst (.int k i) = .int k i := rfl
theorem j3x {b : Bool} : ofConst (.bool b) = .bool b := rfl
theorem j3y {a : Array UInt8} (h : a.size ≤ 9223372036854775807) : ofConst (.string ⟨a⟩) = .str ⟨a⟩ := by simp only [ofConst]; exact if_pos h
theorem j3z : ofConst (.pointer none) = .nilptr := rfl
theorem j40 : ofConst (.slice none 0 0) = .nil0 := rfl
theorem j41 : ofConst (.map none) = .nilmap := rfl
theorem j42 : ofConst .nilFunc = .nilfunc := rfl
theorem j43 : ofConst .nilIface = .niliface := rfl


/-! ### What an operation gives, apart from what goes on behind it -/
abbrev XE := Option (Prop × Eff)
def pk (o : XE) (K : Eff → Prop) : Prop :=
  match o with
  | some (c, e) => c ∧ K e
  | none => False
theorem j58 {c : Prop} {e : Eff} {K : Eff → Prop} : pk (some (c, e)) K = (c ∧ K e) := nrfl rfl
def pkv (o : Option (Prop × PV)) (K : PV → Prop) : Prop :=
  match o with
  | some (c, e) => c ∧ K e
  | none => False
theorem j59 {c : Prop} {e : PV} {K : PV → Prop} : pkv (some (c, e)) K = (c ∧ K e) := nrfl rfl
def xInt (op : BinOp) (k k' : IntKind) (a b : Int) : Option (Prop × PV) :=
  match op with
  | .add => some (k = k', .int k (k.wrap (a + b)))
  | .sub => some (k = k', .int k (k.wrap (a - b)))
  | .mul => some (k = k', .int k (k.wrap (a * b)))
  | .quo => some (k = k' ∧ b ≠ 0, .int k (k.wrap (a.tdiv b)))
  | .rem => some (k = k' ∧ b ≠ 0, .int k (a.tmod b))
  | .and => some (k = k', .int k (k.wrap (BitVec.ofInt k.bits a &&& BitVec.ofInt k.bits b).toNat))
  | .or => some (k = k', .int k (k.wrap (BitVec.ofInt k.bits a ||| BitVec.ofInt k.bits b).toNat))
  | .xor => some (k = k', .int k (k.wrap (BitVec.ofInt k.bits a ^^^ BitVec.ofInt k.bits b).toNat))
  | .eql => some (k = k', .bool (a == b))
  | .neq => some (k = k', .bool (a != b))
  | .lss => some (k = k', .bool (decide (a < b)))
  | .leq => some (k = k', .bool (decide (a ≤ b)))
  | .gtr => some (k = k', .bool (decide (a > b)))
  | .geq => some (k = k', .bool (decide (a ≥ b)))
  | .shl => some (0 ≤ b, .int k (k.wrap (a * 2 ^ (min b.toNat k.bits))))
  | .shr => some (0 ≤ b, .int k (a.fdiv (2 ^ (min b.toNat k.bits))))
  | _ => none
def xStr (op : BinOp) (a b : ByteArray) : Option (Prop × PV) :=
  match op with
  | .add => some (a.size + b.size ≤ 9223372036854775807, .str (a ++ b))
  | .eql => some (True, .bool (decide (a = b)))
  | .neq => some (True, .bool (!decide (a = b)))
  | .lss => some (True, .bool (Op.bytesLess a.data.toList b.data.toList))
  | .gtr => some (True, .bool (!(Op.bytesLess a.data.toList b.data.toList || decide (a = b))))
  | _ => none
def xIs (op : BinOp) (b : Bool) : Option (Prop × PV) :=
  match op with
  | .eql => some (True, .bool b)
  | .neq => some (True, .bool (!b))
  | _ => none
def knd (o : Option TI) : TK :=
  match o with
  | some ti => ti.kd
  | none => .other
def isBoolK : TK → Bool
  | .bool => true
  | _ => false
def isPtrK : TK → Bool
  | .ptr _ => true
  | _ => false
def isFuncK : TK → Bool
  | .func => true
  | _ => false
def ifc (b : Bool) (o : Option (Prop × PV)) : Option (Prop × PV) := bif b then o else none
def xAgg (o : Option (List Nat)) (op : BinOp) (xs ys : List PV) : Option (Prop × PV) :=
  match o with
  | some ks => match cellsEq ks xs ys with
    | some c => xIs op c
    | none => none
  | none => none
def xBin (P : Program) (op : BinOp) (t : TypeId) (x y : PV) : Option (Prop × PV) :=
  match x, y with
  | .int k a, .int k' b => xInt op k k' a b
  | .str a, .str b => xStr op a b
  | .bool a, .bool b => ifc (isBoolK (knd (tinf P t))) (xIs op (a == b))
  | .nilptr, .nilptr => ifc (isPtrK (knd (tinf P t))) (xIs op true)
  | .ptr _ _, .nilptr => ifc (isPtrK (knd (tinf P t))) (xIs op false)
  | .view _, .nilptr => ifc (isPtrK (knd (tinf P t))) (xIs op false)
  | .func _ _, .nilfunc => ifc (isFuncK (knd (tinf P t))) (xIs op false)
  | .agg xs, .agg ys => xAgg (plainStruct P t) op xs ys
  | _, _ => none
theorem isPtrK_of {o : Option TI} (h : isPtrK (knd o) = true) : ∃ ti e, o = some ti ∧ ti.kd = .ptr e := by
  cases o with
  | none => cases h
  | some ti =>
    cases hk : ti.kd <;> simp [knd, isPtrK, hk] at h
    exact ⟨ti, _, rfl, hk⟩
theorem isBoolK_of {o : Option TI} (h : isBoolK (knd o) = true) : ∃ ti, o = some ti ∧ ti.kd = .bool := by
  cases o with
  | none => cases h
  | some ti =>
    cases hk : ti.kd <;> simp [knd, isBoolK, hk] at h
    exact ⟨ti, rfl, hk⟩
theorem isFuncK_of {o : Option TI} (h : isFuncK (knd o) = true) : ∃ ti, o = some ti ∧ ti.kd = .func := by
  cases o with
  | none => cases h
  | some ti =>
    cases hk : ti.kd <;> simp [knd, isFuncK, hk] at h
    exact ⟨ti, rfl, hk⟩
theorem pkv_ifc {b : Bool} {o : Option (Prop × PV)} {K : PV → Prop} : pkv (ifc b o) K = (b = true ∧ pkv o K) := by
  cases b
  · exact propext ⟨fun h => h.elim, fun h => by cases h.1⟩
  · exact propext ⟨fun h => ⟨rfl, h⟩, fun h => h.2⟩
theorem pkv_is {op : BinOp} {b : Bool} {K : PV → Prop} : pkv (xIs op b) K = (match op with | .eql => K (.bool b) | .neq => K (.bool (!b)) | _ => False) := by
  cases op <;> simp [xIs, pkv]
theorem isPtrK_iff {o : Option TI} : (isPtrK (knd o) = true) = ∃ ti e, o = some ti ∧ ti.kd = .ptr e := propext ⟨isPtrK_of, fun ⟨ti, e, h1, h2⟩ => by subst h1; simp [knd, h2, isPtrK]⟩
theorem isBoolK_iff {o : Option TI} : (isBoolK (knd o) = true) = ∃ ti, o = some ti ∧ ti.kd = .bool := propext ⟨isBoolK_of, fun ⟨ti, h1, h2⟩ => by subst h1; simp [knd, h2, isBoolK]⟩
theorem isFuncK_iff {o : Option TI} : (isFuncK (knd o) = true) = ∃ ti, o = some ti ∧ ti.kd = .func := propext ⟨isFuncK_of, fun ⟨ti, h1, h2⟩ => by subst h1; simp [knd, h2, isFuncK]⟩
theorem aBin_x {P : Program} {op : BinOp} {t : TypeId} {x y : PV} {K : PV → Prop} : aBin P op t x y K = pkv (xBin P op t x y) K := by
  cases x <;> cases y <;> try rfl
  · simp only [aBin, xBin, pkv_ifc, pkv_is, isBoolK_iff]; cases op <;> rfl
  · cases op <;> simp [aBin, xBin, xInt, aInt, aShift, pkv, and_assoc]
  · cases op <;> simp [aBin, xBin, xStr, aStr, pkv]
  · simp only [aBin, xBin, pkv_ifc, pkv_is, isPtrK_iff]; cases op <;> rfl
  · simp only [aBin, xBin, pkv_ifc, pkv_is, isPtrK_iff]; cases op <;> rfl
  · simp only [aBin, xBin, pkv_ifc, pkv_is, isPtrK_iff]; cases op <;> rfl
  · simp only [aBin, xBin, pkv_ifc, pkv_is, isFuncK_iff]; cases op <;> rfl
  · rename_i xs ys
    simp only [aBin, xBin, xAgg]
    cases h1 : plainStruct P t with
    | none => simp [pkv]
    | some ks =>
      cases h2 : cellsEq ks xs ys with
      | none => simp [pkv, h2]
      | some c =>
        simp only [h2, pkv_is]
        refine propext ⟨fun ⟨ks', c', e1, e2, h⟩ => ?_, fun h => ⟨ks, c, rfl, h2, ?_⟩⟩
        · injection e1 with e1; subst e1; rw [h2] at e2; injection e2 with e2; subst e2; cases op <;> exact h
        · cases op <;> exact h

def xUn (op : UnOp) (x : PV) : Option (Prop × PV) :=
  match op, x with
  | .neg, .int k n => some (True, .int k (k.wrap (0 - n)))
  | .not, .bool b => some (True, .bool (!b))
  | _, _ => none
theorem aUn_x {op : UnOp} {x : PV} {K : PV → Prop} : aUn op x K = pkv (xUn op x) K := by
  cases op <;> cases x <;> simp [aUn, xUn, pkv]
def xPick (c a b : PV) : XE :=
  match c with
  | .bool x => match a, b with
    | .bool y, .bool z => some (True, ⟨.bool (bif x then y else z), [], [], []⟩)
    | y, z => some (True, ⟨bif x then y else z, [], [], []⟩)
  | _ => none
theorem aPick_x {c a b : PV} {K : Eff → Prop} : aPick c a b K = pk (xPick c a b) K := by
  unfold aPick xPick
  split
  · split <;> simp_all [pk]
  · simp_all [pk]
def xExt (x : PV) (i : Nat) : XE :=
  match x with
  | .tuple vs => match vs[i]? with
    | some v => some (True, ⟨v, [], [], []⟩)
    | none => none
  | _ => none
theorem aExt_x {x : PV} {i : Nat} {K : Eff → Prop} : aExtract x i K = pk (xExt x i) K := by
  unfold aExtract xExt
  split
  · split <;> simp_all [pk]
  · simp_all [pk]
def xLoad (o : Option TI) (hp : List AObj) (x : PV) : XE :=
  match o with
  | some ti => match x with
    | .view v => some (v.isAgg = ti.agg ∧ v.cells.length = ti.sz, ⟨v, [], [], []⟩)
    | .ptr l off => match hp[l]? with
      | some (.cells cs) => some (off + ti.sz ≤ cs.length ∧ 0 < ti.sz, ⟨partP cs off ti.sz ti.agg, [], [], [l]⟩)
      | _ => none
    | _ => none
  | none => none
theorem aLoad_x {P : Program} {hp : List AObj} {t : TypeId} {x : PV} {K : Eff → Prop} : aLoad P hp t x K = pk (xLoad (tinf P t) hp x) K := by
  unfold aLoad xLoad
  split
  · split
    · simp_all [pk]
    · split <;> simp_all [pk]
    · simp_all [pk]
  · simp_all [pk]
def xStore (o : Option TI) (hp : List AObj) (x v : PV) : XE :=
  match o, x with
  | some ti, .ptr l off => match hp[l]? with
    | some (.cells cs) => some (v.ok = true ∧ v.cells.length = ti.sz ∧ off + ti.sz ≤ cs.length, ⟨.bad, [(l, .cells (splice cs off v.cells))], [], [l]⟩)
    | _ => none
  | _, _ => none
theorem aStore_x {P : Program} {hp : List AObj} {t : TypeId} {x v : PV} {K : Eff → Prop} : aStore P hp t x v K = pk (xStore (tinf P t) hp x v) K := by
  unfold aStore xStore
  split
  · split <;> simp_all [pk]
  · simp_all [pk]
def fls (k : TK) : List FI :=
  match k with
  | .struct fs => fs
  | _ => []
def xField (o : Option TI) (i : Nat) (x : PV) : XE :=
  match (fls (knd o))[i]?, x with
  | some fi, .agg cs => some (fi.off + fi.sz ≤ cs.length, ⟨partP cs fi.off fi.sz fi.agg, [], [], []⟩)
  | _, _ => none
theorem aField_x {P : Program} {t : TypeId} {i : Nat} {x : PV} {K : Eff → Prop} : aField P t i x K = pk (xField (tinf P t) i x) K := by
  unfold aField xField
  cases h : tinf P t with
  | none => simp [knd, fls, pk]
  | some ti =>
    simp only [knd]
    cases hk : ti.kd with
    | struct fs => cases x <;> cases hf : fs[i]? <;> simp [fls, pk, hk, hf]
    | _ => cases x <;> simp [fls, pk, hk]
def xFA (o : Option TI) (i : Nat) (x : PV) : XE :=
  match (fls (knd o))[i]?, x with
  | some fi, .ptr l off => some (True, ⟨.ptr l (off + fi.off), [], [], []⟩)
  | some fi, .view v => some (fi.off + fi.sz ≤ v.cells.length ∧ (partP v.cells fi.off fi.sz fi.agg).isAgg = fi.agg, ⟨.view (partP v.cells fi.off fi.sz fi.agg), [], [], []⟩)
  | _, _ => none
theorem aFA_x {P : Program} {t : TypeId} {i : Nat} {x : PV} {K : Eff → Prop} : aFieldAddr P t i x K = pk (xFA (tinf P t) i x) K := by
  unfold aFieldAddr xFA
  cases h : tinf P t with
  | none => simp [knd, fls, pk]
  | some ti =>
    simp only [knd]
    cases hk : ti.kd with
    | struct fs => cases hf : fs[i]? <;> cases x <;> simp [fls, pk, hk, hf]
    | _ => cases x <;> simp [fls, pk, hk]
def elt (k : TK) : Option TypeId :=
  match k with
  | .slice e => some e
  | _ => none
def xIA (P : Program) (k : TK) (x i : PV) : XE :=
  match k, x, i with
  | .slice e, .slice _ es, .int _ n => match tinf P e with
    | some te => some ((0 ≤ n ∧ n < es.length) ∧ (es.getD n.toNat .bad).cells.length = te.sz, ⟨.view (es.getD n.toNat .bad), [], [], []⟩)
    | none => none
  | .slice e, .mslice l off m s, .int _ n => match tinf P e with
    | some te => some ((0 ≤ n ∧ n < m) ∧ te.sz = s, ⟨.ptr l (off + n.toNat * s), [], [], []⟩)
    | none => none
  | .array m e, .ptr l off, .int _ n => match tinf P e with
    | some te => some (0 ≤ n ∧ n < m, ⟨.ptr l (off + n.toNat * te.sz), [], [], []⟩)
    | none => none
  | _, _, _ => none
theorem aIA_x {P : Program} {t : TypeId} {x i : PV} {K : Eff → Prop} : aIndexAddr P t x i K = pk (xIA P (knd (tinf P t)) x i) K := by
  unfold aIndexAddr xIA
  cases h : tinf P t with
  | none => simp [knd, pk]
  | some ti =>
    simp only [knd]
    cases hk : ti.kd with
    | slice e => cases he : tinf P e <;> cases x <;> cases i <;> simp [he, pk, and_assoc]
    | array m e => cases he : tinf P e <;> cases x <;> cases i <;> simp [he, pk, and_assoc]
    | _ => simp [pk]
def xLen (k : TK) (x : PV) : XE :=
  match k, x with
  | .str, .str s => some (True, ⟨.int .i64 s.size, [], [], []⟩)
  | .slice _, .slice _ es => some (True, ⟨.int .i64 es.length, [], [], []⟩)
  | .slice _, .nil0 => some (True, ⟨.int .i64 0, [], [], []⟩)
  | .slice _, .mslice _ _ n _ => some (True, ⟨.int .i64 n, [], [], []⟩)
  | .array n _, _ => some (True, ⟨.int .i64 n, [], [], []⟩)
  | _, _ => none
theorem aLen_x {P : Program} {t : TypeId} {x : PV} {K : Eff → Prop} : aLen P t x K = pk (xLen (knd (tinf P t)) x) K := by
  unfold aLen xLen
  cases h : tinf P t with
  | none => simp [knd, pk]
  | some ti =>
    simp only [knd]
    cases hk : ti.kd <;> cases x <;> simp [pk]
def xMM (b : Bool) (x y : PV) : XE :=
  match x, y with
  | .int k a, .int _ c => some (True, ⟨.int k (bif b then minI a c else maxI a c), [], [], []⟩)
  | _, _ => none
theorem aMin_x {x y : PV} {K : Eff → Prop} : aMin x y K = pk (xMM true x y) K := by
  unfold aMin xMM
  split <;> simp_all [pk]
theorem aMax_x {x y : PV} {K : Eff → Prop} : aMax x y K = pk (xMM false x y) K := by
  unfold aMax xMM
  split <;> simp_all [pk]
def xAlloc (o : Option TI) (n : Nat) : XE :=
  match o with
  | some ti => some (ti.zero.ok = true, ⟨.ptr n 0, [], [.cells ti.zero.cells], []⟩)
  | none => none
theorem aAlloc_x {P : Program} {hp : List AObj} {t : TypeId} {K : Eff → Prop} : aAlloc P hp t K = pk (xAlloc (tinf P t) hp.length) K := by
  unfold aAlloc xAlloc
  split <;> simp_all [pk]
theorem aBox_x {hp : List AObj} {x : PV} {K : Eff → Prop} : aBox hp x K = pk (some (x.ok = true, ⟨.ptr hp.length 0, [], [.cells x.cells], []⟩)) K := by simp [aBox, pk]
def isIfK : TK → Bool
  | .iface => true
  | _ => false
def xIface (o : Option TI) (t : TypeId) (x : PV) : XE :=
  match o with
  | some ti => some (isIfK ti.kd = false, ⟨.iface t x, [], [], []⟩)
  | none => none

variable {S : St} {k X : Eff → Prop}
theorem j44 {x : Operand} : aOp P S (.move x) k X = k ⟨S.ev x, [], [], []⟩ := nrfl rfl
theorem j45 {x : Operand} : aOp P S (.assign x) k X = k ⟨S.ev x, [], [], []⟩ := nrfl rfl
theorem j46 {c a b : Operand} : aOp P S (.pick c a b) k X = pk (xPick (S.ev c) (S.ev a) (S.ev b)) k := by simp only [aOp, aPick_x]
theorem j47 {t : TypeId} : aOp P S (.alloc t) k X = pk (xAlloc (tinf P t) S.hp.length) k := by simp only [aOp, aAlloc_x]
theorem j48 {t : TypeId} {x : Operand} : aOp P S (.box t x) k X = pk (some ((S.ev x).ok = true, ⟨.ptr S.hp.length 0, [], [.cells (S.ev x).cells], []⟩)) k := by simp only [aOp, aBox_x]
theorem j49 {t : TypeId} {ps : Array (Nat × Operand)} : aOp P S (.build t ps) k X = aBuild P t (ps.toList.map fun x => (x.1, S.ev x.2)) k := nrfl rfl
theorem j4a {t : TypeId} {n : Nat} {ps : Array (Nat × Operand)} : aOp P S (.buildSlice t n ps) k X = aBuildSlice P t n (ps.toList.map fun x => (x.1, S.ev x.2)) k := nrfl rfl
theorem j4b {t : TypeId} {a : Operand} : aOp P S (.load t a) k X = pk (xLoad (tinf P t) S.hp (S.ev a)) k := by simp only [aOp, aLoad_x]
theorem j4c {t : TypeId} {a v : Operand} : aOp P S (.store t a v) k X = pk (xStore (tinf P t) S.hp (S.ev a) (S.ev v)) k := by simp only [aOp, aStore_x]
theorem j4e {t : TypeId} {a : Operand} {i : Nat} : aOp P S (.fieldAddr t a i) k X = pk (xFA (tinf P t) i (S.ev a)) k := by simp only [aOp, aFA_x]
theorem j4f {t : TypeId} {a : Operand} {i : Nat} : aOp P S (.field t a i) k X = pk (xField (tinf P t) i (S.ev a)) k := by simp only [aOp, aField_x]
theorem j4g {t : TypeId} {a i : Operand} : aOp P S (.indexAddr t a i) k X = pk (xIA P (knd (tinf P t)) (S.ev a) (S.ev i)) k := by simp only [aOp, aIA_x]
theorem j4h {t : TypeId} {a i : Operand} : aOp P S (.index t a i) k X = aIndex P t (S.ev a) (S.ev i) k := nrfl rfl
theorem j4j {a : Operand} {xT to : TypeId} {ok : Bool} : aOp P S (.typeAssert a xT to ok) k X = aTA P to ok (S.ev a) k := nrfl rfl
theorem j4i {a : Operand} {i : Nat} : aOp P S (.extract a i) k X = pk (xExt (S.ev a) i) k := by simp only [aOp, aExt_x]
theorem j4k {t : TypeId} {x : Operand} {lo hi mx : Option Operand} : aOp P S (.slice t x lo hi mx) k X = aSlice P t (S.ev x) (lo.map S.ev) (hi.map S.ev) (mx.map S.ev) k := nrfl rfl
theorem j4l {a b : TypeId} {x : Operand} : aOp P S (.convert a b x) k X = aConv P a b (S.ev x) k := nrfl rfl
def kv (k : Eff → Prop) (v : PV) : Prop := k ⟨v, [], [], []⟩
theorem j4m {op : BinOp} {t ty : TypeId} {x y : Operand} : aOp P S (.binOp op t x y ty) k X = pkv (xBin P op t (S.ev x) (S.ev y)) (kv k) := by rw [← aBin_x]; rfl
theorem j4n {op : UnOp} {t : TypeId} {x : Operand} : aOp P S (.unOp op t x) k X = pkv (xUn op (S.ev x)) (kv k) := by rw [← aUn_x]; rfl
theorem j4v {d : Option Nat} {r : List XO} : kv (kop P d r K s) p = kop P d r K s ⟨p, [], [], []⟩ := nrfl rfl
def evs (S : St) (xs : Array Operand) : List PV := xs.toList.map S.ev
theorem j4w {t : TypeId} {x : Operand} : aOp P S (.call ⟨.builtin .len, #[x], #[t]⟩) k X = pk (xLen (knd (tinf P t)) (S.ev x)) k := by rw [← aLen_x]; rfl
theorem j4x {t u : TypeId} {x y : Operand} : aOp P S (.call ⟨.builtin .append, #[x, y], #[t, u]⟩) k X = aAppend P S.hp t u (S.ev x) (S.ev y) k := nrfl rfl
theorem j4y {ts : Array TypeId} {x y : Operand} : aOp P S (.call ⟨.builtin .min, #[x, y], ts⟩) k X = pk (xMM true (S.ev x) (S.ev y)) k := by rw [← aMin_x]; rfl
theorem j4z {ts : Array TypeId} {x y : Operand} : aOp P S (.call ⟨.builtin .max, #[x, y], ts⟩) k X = pk (xMM false (S.ev x) (S.ev y)) k := by rw [← aMax_x]; rfl
def aNil (x : PV) (k : Eff → Prop) : Prop := (match x with | .ptr _ _ => True | .view _ => True | .func _ _ => True | _ => False) ∧ k ⟨x, [], [], []⟩
theorem aIface_x_ : True := trivial
def aIface (P : Program) (t : TypeId) (x : PV) (k : Eff → Prop) : Prop := (match (tinf P t).map (·.kd) with | Option.some TK.iface => False | Option.some _ => True | Option.none => False) ∧ k ⟨.iface t x, [], [], []⟩
def acall (P : Program) (hp : List AObj) (f : PV) (args : List PV) (k X : Eff → Prop) : Prop :=
  match f with
  | .func g cs => aFun P hp g (args ++ cs) k X
  | _ => False
theorem j50 {f : Operand} {xs : Array Operand} {ts : Array TypeId} : aOp P S (.call ⟨.value f, xs, ts⟩) k X = acall P S.hp (S.ev f) (xs.toList.map S.ev) k X := nrfl rfl
theorem j51 {g : FuncId} {cs args : List PV} : acall P hp (.func g cs) args k X = aFun P hp g (args ++ cs) k X := nrfl rfl
theorem fun_ret {g : FuncId} {args : List PV} {r : PV} (hf : isFn P g = true) (h : PSpec P g (args.map PV.bare) (.ret r)) (hk : r.bd → k ⟨r, [], [], []⟩) : aFun P hp g args k X :=
  ⟨hf, .inl ⟨_, h, hk⟩⟩
theorem fun_pan {g : FuncId} {args : List PV} {r : PV} (hf : isFn P g = true) (h : PSpec P g (args.map PV.bare) (.pan r)) (hk : X ⟨r, [], [], []⟩) : aFun P hp g args k X :=
  ⟨hf, .inl ⟨_, h, hk⟩⟩

/-! ### Operations in drawn regions -/
theorem j16 {x : Operand} : isNew (.move x) = false := rfl
theorem j17 {x : Operand} : isNew (.assign x) = false := rfl
theorem j18 {c a b : Operand} : isNew (.pick c a b) = false := rfl
theorem j19 {t : TypeId} {ps : Array (Nat × Operand)} : isNew (.build t ps) = false := rfl
theorem j1a {t : TypeId} {n : Nat} {ps : Array (Nat × Operand)} : isNew (.buildSlice t n ps) = false := rfl
theorem j1b {t : TypeId} {a : Operand} : isNew (.load t a) = false := rfl
theorem j1c {t : TypeId} {a v : Operand} : isNew (.store t a v) = false := rfl
theorem j1d {x : Operand} : isNew (.nilCheck x) = false := rfl
theorem j1e {t : TypeId} {a : Operand} {i : Nat} : isNew (.fieldAddr t a i) = false := rfl
theorem j1f {t : TypeId} {a : Operand} {i : Nat} : isNew (.field t a i) = false := rfl
theorem j1g {t : TypeId} {a i : Operand} : isNew (.indexAddr t a i) = false := rfl
theorem j1h {t : TypeId} {a i : Operand} : isNew (.index t a i) = false := rfl
theorem j1j {a : Operand} {xT to : TypeId} {ok : Bool} : isNew (.typeAssert a xT to ok) = false := rfl
theorem j1i {a : Operand} {i : Nat} : isNew (.extract a i) = false := rfl
theorem j1k {t : TypeId} {x : Operand} {lo hi mx : Option Operand} : isNew (.slice t x lo hi mx) = false := rfl
theorem j1l {a b : TypeId} {x : Operand} : isNew (.convert a b x) = false := rfl
theorem j1m {op : BinOp} {t ty : TypeId} {x y : Operand} : isNew (.binOp op t x y ty) = false := rfl
theorem j1n {op : UnOp} {t : TypeId} {x : Operand} : isNew (.unOp op t x) = false := rfl
theorem j1o {t : TypeId} {x : Operand} : isNew (.makeInterface t x) = false := rfl
theorem j1p {fn} {first cs : Array Operand} : isNew (.makeFunc fn first cs) = false := rfl
theorem j1q {t : Array TypeId} {x : Array Operand} : isNew (.call ⟨.builtin .len, x, t⟩) = false := rfl
theorem j1r {t : Array TypeId} {x : Array Operand} : isNew (.call ⟨.builtin .min, x, t⟩) = false := rfl
theorem j1s {t : Array TypeId} {x : Array Operand} : isNew (.call ⟨.builtin .max, x, t⟩) = false := rfl
theorem j1t {x : Operand} : isNew (.panic x) = false := rfl
theorem j1u {f : Operand} {x : Array Operand} {t : Array TypeId} : isNew (.call ⟨.value f, x, t⟩) = false := rfl
theorem j1v {t : TypeId} : isNew (.alloc t) = true := rfl
theorem j1w {t : TypeId} {x : Operand} : isNew (.box t x) = true := rfl
theorem j1x {t : Array TypeId} {x : Array Operand} : isNew (.call ⟨.builtin .append, x, t⟩) = true := rfl
theorem j22 {x : Operand} : aOpP P S (.move x) k X = aOp P S (.move x) k X := nrfl rfl
theorem j2r {nu : Nat} {x : Operand} : aOpN P nu S (.move x) k X = aOp P S (.move x) k X := nrfl rfl
theorem j23 {x : Operand} : aOpP P S (.assign x) k X = aOp P S (.assign x) k X := nrfl rfl
theorem j2s {nu : Nat} {x : Operand} : aOpN P nu S (.assign x) k X = aOp P S (.assign x) k X := nrfl rfl
theorem j24 {c a b : Operand} : aOpP P S (.pick c a b) k X = aOp P S (.pick c a b) k X := nrfl rfl
theorem j2t {nu : Nat} {c a b : Operand} : aOpN P nu S (.pick c a b) k X = aOp P S (.pick c a b) k X := nrfl rfl
theorem j25 {t : TypeId} {ps : Array (Nat × Operand)} : aOpP P S (.build t ps) k X = aOp P S (.build t ps) k X := nrfl rfl
theorem j2u {nu : Nat} {t : TypeId} {ps : Array (Nat × Operand)} : aOpN P nu S (.build t ps) k X = aOp P S (.build t ps) k X := nrfl rfl
theorem j26 {t : TypeId} {n : Nat} {ps : Array (Nat × Operand)} : aOpP P S (.buildSlice t n ps) k X = aOp P S (.buildSlice t n ps) k X := nrfl rfl
theorem j2v {nu : Nat} {t : TypeId} {n : Nat} {ps : Array (Nat × Operand)} : aOpN P nu S (.buildSlice t n ps) k X = aOp P S (.buildSlice t n ps) k X := nrfl rfl
theorem j27 {t : TypeId} {a : Operand} : aOpP P S (.load t a) k X = aOp P S (.load t a) k X := nrfl rfl
theorem j2w {nu : Nat} {t : TypeId} {a : Operand} : aOpN P nu S (.load t a) k X = aOp P S (.load t a) k X := nrfl rfl
theorem j28 {t : TypeId} {a v : Operand} : aOpP P S (.store t a v) k X = aOp P S (.store t a v) k X := nrfl rfl
theorem j2x {nu : Nat} {t : TypeId} {a v : Operand} : aOpN P nu S (.store t a v) k X = aOp P S (.store t a v) k X := nrfl rfl
theorem j29 {x : Operand} : aOpP P S (.nilCheck x) k X = aOp P S (.nilCheck x) k X := nrfl rfl
theorem j2y {nu : Nat} {x : Operand} : aOpN P nu S (.nilCheck x) k X = aOp P S (.nilCheck x) k X := nrfl rfl
theorem j2a {t : TypeId} {a : Operand} {i : Nat} : aOpP P S (.fieldAddr t a i) k X = aOp P S (.fieldAddr t a i) k X := nrfl rfl
theorem j2z {nu : Nat} {t : TypeId} {a : Operand} {i : Nat} : aOpN P nu S (.fieldAddr t a i) k X = aOp P S (.fieldAddr t a i) k X := nrfl rfl
theorem j2b {t : TypeId} {a : Operand} {i : Nat} : aOpP P S (.field t a i) k X = aOp P S (.field t a i) k X := nrfl rfl
theorem j30 {nu : Nat} {t : TypeId} {a : Operand} {i : Nat} : aOpN P nu S (.field t a i) k X = aOp P S (.field t a i) k X := nrfl rfl
theorem j2c {t : TypeId} {a i : Operand} : aOpP P S (.indexAddr t a i) k X = aOp P S (.indexAddr t a i) k X := nrfl rfl
theorem j31 {nu : Nat} {t : TypeId} {a i : Operand} : aOpN P nu S (.indexAddr t a i) k X = aOp P S (.indexAddr t a i) k X := nrfl rfl
theorem j2d {t : TypeId} {a i : Operand} : aOpP P S (.index t a i) k X = aOp P S (.index t a i) k X := nrfl rfl
theorem j32 {nu : Nat} {t : TypeId} {a i : Operand} : aOpN P nu S (.index t a i) k X = aOp P S (.index t a i) k X := nrfl rfl
theorem j2f {a : Operand} {xT to : TypeId} {ok : Bool} : aOpP P S (.typeAssert a xT to ok) k X = aOp P S (.typeAssert a xT to ok) k X := nrfl rfl
theorem j34 {nu : Nat} {a : Operand} {xT to : TypeId} {ok : Bool} : aOpN P nu S (.typeAssert a xT to ok) k X = aOp P S (.typeAssert a xT to ok) k X := nrfl rfl
theorem j2e {a : Operand} {i : Nat} : aOpP P S (.extract a i) k X = aOp P S (.extract a i) k X := nrfl rfl
theorem j33 {nu : Nat} {a : Operand} {i : Nat} : aOpN P nu S (.extract a i) k X = aOp P S (.extract a i) k X := nrfl rfl
theorem j2g {t : TypeId} {x : Operand} {lo hi mx : Option Operand} : aOpP P S (.slice t x lo hi mx) k X = aOp P S (.slice t x lo hi mx) k X := nrfl rfl
theorem j35 {nu : Nat} {t : TypeId} {x : Operand} {lo hi mx : Option Operand} : aOpN P nu S (.slice t x lo hi mx) k X = aOp P S (.slice t x lo hi mx) k X := nrfl rfl
theorem j2h {a b : TypeId} {x : Operand} : aOpP P S (.convert a b x) k X = aOp P S (.convert a b x) k X := nrfl rfl
theorem j36 {nu : Nat} {a b : TypeId} {x : Operand} : aOpN P nu S (.convert a b x) k X = aOp P S (.convert a b x) k X := nrfl rfl
theorem j2i {op : BinOp} {t ty : TypeId} {x y : Operand} : aOpP P S (.binOp op t x y ty) k X = aOp P S (.binOp op t x y ty) k X := nrfl rfl
theorem j37 {nu : Nat} {op : BinOp} {t ty : TypeId} {x y : Operand} : aOpN P nu S (.binOp op t x y ty) k X = aOp P S (.binOp op t x y ty) k X := nrfl rfl
theorem j2j {op : UnOp} {t : TypeId} {x : Operand} : aOpP P S (.unOp op t x) k X = aOp P S (.unOp op t x) k X := nrfl rfl
theorem j38 {nu : Nat} {op : UnOp} {t : TypeId} {x : Operand} : aOpN P nu S (.unOp op t x) k X = aOp P S (.unOp op t x) k X := nrfl rfl
theorem j2k {t : TypeId} {x : Operand} : aOpP P S (.makeInterface t x) k X = aOp P S (.makeInterface t x) k X := nrfl rfl
theorem j39 {nu : Nat} {t : TypeId} {x : Operand} : aOpN P nu S (.makeInterface t x) k X = aOp P S (.makeInterface t x) k X := nrfl rfl
theorem j2l {fn} {first cs : Array Operand} : aOpP P S (.makeFunc fn first cs) k X = aOp P S (.makeFunc fn first cs) k X := nrfl rfl
theorem j3a {nu : Nat} {fn} {first cs : Array Operand} : aOpN P nu S (.makeFunc fn first cs) k X = aOp P S (.makeFunc fn first cs) k X := nrfl rfl
theorem j2m {t : TypeId} {x : Operand} : aOpP P S (.call ⟨.builtin .len, #[x], #[t]⟩) k X = aOp P S (.call ⟨.builtin .len, #[x], #[t]⟩) k X := nrfl rfl
theorem j3b {nu : Nat} {t : TypeId} {x : Operand} : aOpN P nu S (.call ⟨.builtin .len, #[x], #[t]⟩) k X = aOp P S (.call ⟨.builtin .len, #[x], #[t]⟩) k X := nrfl rfl
theorem j2n {ts : Array TypeId} {x y : Operand} : aOpP P S (.call ⟨.builtin .min, #[x, y], ts⟩) k X = aOp P S (.call ⟨.builtin .min, #[x, y], ts⟩) k X := nrfl rfl
theorem j3c {nu : Nat} {ts : Array TypeId} {x y : Operand} : aOpN P nu S (.call ⟨.builtin .min, #[x, y], ts⟩) k X = aOp P S (.call ⟨.builtin .min, #[x, y], ts⟩) k X := nrfl rfl
theorem j2o {ts : Array TypeId} {x y : Operand} : aOpP P S (.call ⟨.builtin .max, #[x, y], ts⟩) k X = aOp P S (.call ⟨.builtin .max, #[x, y], ts⟩) k X := nrfl rfl
theorem j3d {nu : Nat} {ts : Array TypeId} {x y : Operand} : aOpN P nu S (.call ⟨.builtin .max, #[x, y], ts⟩) k X = aOp P S (.call ⟨.builtin .max, #[x, y], ts⟩) k X := nrfl rfl
theorem j2p {x : Operand} : aOpP P S (.panic x) k X = aOp P S (.panic x) k X := nrfl rfl
theorem j3e {nu : Nat} {x : Operand} : aOpN P nu S (.panic x) k X = aOp P S (.panic x) k X := nrfl rfl
def acallD (P : Program) (hp : List AObj) (f : PV) (args : List PV) (k X : Eff → Prop) : Prop :=
  match f with
  | .func g cs => aFunD P hp g (args ++ cs) k X
  | _ => False
theorem j2q {f : Operand} {xs : Array Operand} {ts : Array TypeId} : aOpP P S (.call ⟨.value f, xs, ts⟩) k X = acallD P S.hp (S.ev f) (xs.toList.map S.ev) k X := nrfl rfl
theorem j3f {nu : Nat} {f : Operand} {xs : Array Operand} {ts : Array TypeId} : aOpN P nu S (.call ⟨.value f, xs, ts⟩) k X = acallD P S.hp (S.ev f) (xs.toList.map S.ev) k X := nrfl rfl
theorem j3j {g : FuncId} {cs args : List PV} : acallD P hp (.func g cs) args k X = aFunD P hp g (args ++ cs) k X := nrfl rfl
def aNewN (hp : List AObj) (nu : Nat) (v : PV) (k : Eff → Prop) : Prop := hp[nu]? = some .hole ∧ k ⟨.ptr nu 0, [(nu, .cells v.cells)], [], [nu]⟩
def aAllocN (P : Program) (hp : List AObj) (nu : Nat) (t : TypeId) (k : Eff → Prop) : Prop :=
  match tinf P t with
  | some ti => ti.zero.ok = true ∧ hp[nu]? = some .hole ∧ k ⟨.ptr nu 0, [(nu, .cells ti.zero.cells)], [], [nu]⟩
  | none => False
theorem j3g {nu : Nat} {t : TypeId} : aOpN P nu S (.alloc t) k X = aAllocN P S.hp nu t k := nrfl rfl
theorem j3h {nu : Nat} {t : TypeId} {x : Operand} : aOpN P nu S (.box t x) k X = ((S.ev x).ok = true ∧ S.hp[nu]? = some .hole ∧ k ⟨.ptr nu 0, [(nu, .cells (S.ev x).cells)], [], [nu]⟩) := nrfl rfl
theorem j3i {nu : Nat} {t u : TypeId} {x y : Operand} : aOpN P nu S (.call ⟨.builtin .append, #[x, y], #[t, u]⟩) k X = aAppN P S.hp nu t u (S.ev x) (S.ev y) k := nrfl rfl
theorem funD_ret {g : FuncId} {args : List PV} {r : PV} (hf : isFn P g = true) (h : PSpec P g (args.map PV.bare) (.ret r)) (hk : k ⟨r, [], [], []⟩) : aFunD P hp g args k X := ⟨hf, .inl ⟨_, h, hk⟩⟩
theorem funD_pan {g : FuncId} {args : List PV} {r : PV} (hf : isFn P g = true) (h : PSpec P g (args.map PV.bare) (.pan r)) (hk : X ⟨r, [], [], []⟩) : aFunD P hp g args k X := ⟨hf, .inl ⟨_, h, hk⟩⟩
theorem funD_iret {g : FuncId} {args : List PV} {r : PV} (rs : List Nat) (L' : List AObj) (hf : isFn P g = true) (h : ISpec P g (args.map (PV.imp false rs.idxOf?)) (handed hp rs) (.ret r) L') (hr : rs.Nodup ∧ (∀ l ∈ rs, l < hp.length ∧ hp[l]? ≠ some .dead) ∧ L'.length = rs.length)
    (hk : k ⟨r.ren (backN hp.length rs), backSet (backN hp.length rs) rs L', [], rs⟩) : aFunD P hp g args k X := ⟨hf, .inr ⟨rs, _, L', h, hr, hk⟩⟩
theorem funD_ipan {g : FuncId} {args : List PV} {r : PV} (rs : List Nat) (L' : List AObj) (hf : isFn P g = true) (h : ISpec P g (args.map (PV.imp false rs.idxOf?)) (handed hp rs) (.pan r) L') (hr : rs.Nodup ∧ (∀ l ∈ rs, l < hp.length ∧ hp[l]? ≠ some .dead) ∧ L'.length = rs.length)
    (hk : X ⟨r.ren (backN hp.length rs), backSet (backN hp.length rs) rs L', [], rs⟩) : aFunD P hp g args k X := ⟨hf, .inr ⟨rs, _, L', h, hr, hk⟩⟩
theorem fun_iret {g : FuncId} {args : List PV} {r : PV} (rs : List Nat) (L' : List AObj) (hf : isFn P g = true) (h : ISpec P g (args.map (PV.imp false rs.idxOf?)) (handed hp rs) (.ret r) L') (hr : rs.Nodup ∧ (∀ l ∈ rs, l < hp.length ∧ hp[l]? ≠ some .dead) ∧ rs.length ≤ L'.length)
    (hk : r.bd → k ⟨r.ren (backN hp.length rs), backSet (backN hp.length rs) rs L', backNew (backN hp.length rs) rs.length L', rs⟩) : aFun P hp g args k X := ⟨hf, .inr ⟨rs, _, L', h, hr, hk⟩⟩
theorem fun_ipan {g : FuncId} {args : List PV} {r : PV} (rs : List Nat) (L' : List AObj) (hf : isFn P g = true) (h : ISpec P g (args.map (PV.imp false rs.idxOf?)) (handed hp rs) (.pan r) L') (hr : rs.Nodup ∧ (∀ l ∈ rs, l < hp.length ∧ hp[l]? ≠ some .dead) ∧ rs.length ≤ L'.length)
    (hk : X ⟨r.ren (backN hp.length rs), backSet (backN hp.length rs) rs L', backNew (backN hp.length rs) rs.length L', rs⟩) : aFun P hp g args k X := ⟨hf, .inr ⟨rs, _, L', h, hr, hk⟩⟩
theorem j1y {deps : List (List Nat)} {ops : List XO} {nu : Nat} {r : List XO} {acc : List (Option Eff)} : kdo P deps ops K nu (some n) r acc ⟨l, hp⟩ ⟨p, st, nw, rd⟩ = aX P deps ops K nu r (some ⟨p, st, nw, rd⟩ :: acc) ⟨(n, p) :: l, setAll hp st ++ nw⟩ := nrfl rfl
theorem j1z {deps : List (List Nat)} {ops : List XO} {nu : Nat} {r : List XO} {acc : List (Option Eff)} : kdo P deps ops K nu none r acc ⟨l, hp⟩ ⟨p, st, nw, rd⟩ = aX P deps ops K nu r (some ⟨p, st, nw, rd⟩ :: acc) ⟨l, setAll hp st ++ nw⟩ := nrfl rfl
theorem j20 {deps : List (List Nat)} {ops : List XO} {acc : List (Option Eff)} {e : Eff} : xdo deps ops K acc s e = kp deps ops K acc.reverse e s := nrfl rfl
theorem kd_intro {deps : List (List Nat)} {ops : List XO} {tr : List (Option Eff)} (h : chkX deps (ops.zip tr) = true) (hk : K .normal s) : kd deps ops K tr s := ⟨h, hk⟩
theorem kp_intro {deps : List (List Nat)} {ops : List XO} {tr : List (Option Eff)} (h : chkP deps ops tr = true) (hk : K (.pan p) ⟨[], setAll hp st ++ nw⟩) : kp deps ops K tr ⟨p, st, nw, rd⟩ ⟨l, hp⟩ := ⟨h, hk⟩
theorem j21 {deps : List (List Nat)} {ops : List XO} {nu : Nat} {d : Option Nat} {r : List XO} {acc : List (Option Eff)} : kv (kdo P deps ops K nu d r acc s) p = kdo P deps ops K nu d r acc s ⟨p, [], [], []⟩ := nrfl rfl
theorem j4d {x : Operand} : aOp P S (.nilCheck x) k X = aNil (S.ev x) k := nrfl rfl
theorem j52 {a b : Nat} : aNil (.ptr a b) k = k ⟨.ptr a b, [], [], []⟩ := by simp [aNil]
theorem j53 {v : PV} : aNil (.view v) k = k ⟨.view v, [], [], []⟩ := by simp [aNil]
theorem j54 {f : FuncId} {cs : List PV} : aNil (.func f cs) k = k ⟨.func f cs, [], [], []⟩ := by simp [aNil]
theorem aIface_x {t : TypeId} {x : PV} : aIface P t x k = pk (xIface (tinf P t) t x) k := by
  unfold aIface xIface
  cases h : tinf P t with
  | none => simp [pk]
  | some ti => cases hk : ti.kd <;> simp [pk, isIfK, hk]
theorem j4o {t : TypeId} {x : Operand} : aOp P S (.makeInterface t x) k X = pk (xIface (tinf P t) t (S.ev x)) k := by rw [← aIface_x]; rfl
theorem j4p {f : FuncId} {cs : Array Operand} : aOp P S (.makeFunc (.func f) #[] cs) k X = k ⟨.func f (cs.toList.map S.ev), [], [], []⟩ := by simp [aOp]
def aPan (x : PV) (X : Eff → Prop) : Prop :=
  match x with
  | .iface t v => X ⟨.iface t v, [], [], []⟩
  | _ => False
theorem j4q {x : Operand} : aOp P S (.panic x) k X = aPan (S.ev x) X := by simp only [aOp, aPan]; cases S.ev x <;> rfl
theorem j55 {t : TypeId} {v : PV} : aPan (.iface t v) X = X ⟨.iface t v, [], [], []⟩ := nrfl rfl
theorem j4r {t : TypeId} {x y : Operand} : aOp P S (.makeSlice t x y) k X = aMake P S.hp t (S.ev x) (S.ev y) k := nrfl rfl
theorem j4s {t u : TypeId} {x y : Operand} : aOp P S (.call ⟨.builtin .copy, #[x, y], #[t, u]⟩) k X = aCopy P S.hp t (S.ev x) (S.ev y) k := nrfl rfl
theorem j4t {t u : TypeId} {x y : Operand} : aOwn P S (.call ⟨.builtin .append, #[x, y], #[t, u]⟩) k = aAppO P S.hp t u (S.ev x) (S.ev y) k := nrfl rfl
theorem j4u {t : TypeId} {n : Nat} {ps : Array (Nat × Operand)} : aOwn P S (.buildSlice t n ps) k = aBuildO P S.hp t n (ps.toList.map fun x => (x.1, S.ev x.2)) k := nrfl rfl
end

theorem j5a {b : Bool} : PV.cells (.bool b) = [(.bool b)] := rfl
theorem j5b {b : Bool} : PV.isAgg (.bool b) = false := rfl
theorem j5c {b : Bool} : PV.ok (.bool b) = true := rfl
theorem j5d {k : IntKind} {i : Int} : PV.cells (.int k i) = [(.int k i)] := rfl
theorem j5e {k : IntKind} {i : Int} : PV.isAgg (.int k i) = false := rfl
theorem j5f {k : IntKind} {i : Int} : PV.ok (.int k i) = true := rfl
theorem j5g {b : ByteArray} : PV.cells (.str b) = [(.str b)] := rfl
theorem j5h {b : ByteArray} : PV.isAgg (.str b) = false := rfl
theorem j5i {b : ByteArray} : PV.ok (.str b) = true := rfl
theorem j5j  : PV.cells .nilptr = [.nilptr] := rfl
theorem j5k  : PV.isAgg .nilptr = false := rfl
theorem j5l  : PV.ok .nilptr = true := rfl
theorem j5m {l o : Nat} : PV.cells (.ptr l o) = [(.ptr l o)] := rfl
theorem j5n {l o : Nat} : PV.isAgg (.ptr l o) = false := rfl
theorem j5o {l o : Nat} : PV.ok (.ptr l o) = true := rfl
theorem j5p {v : PV} : PV.cells (.view v) = [(.view v)] := rfl
theorem j5q {v : PV} : PV.isAgg (.view v) = false := rfl
theorem j5r {v : PV} : PV.ok (.view v) = true := rfl
theorem j5s  : PV.cells .nil0 = [.nil0] := rfl
theorem j5t  : PV.isAgg .nil0 = false := rfl
theorem j5u  : PV.ok .nil0 = true := rfl
theorem j5v {c : SK} {es : List PV} : PV.cells (.slice c es) = [(.slice c es)] := rfl
theorem j5w {c : SK} {es : List PV} : PV.isAgg (.slice c es) = false := rfl
theorem j5x {c : SK} {es : List PV} : PV.ok (.slice c es) = true := rfl
theorem j5y {l o n s : Nat} : PV.cells (.mslice l o n s) = [(.mslice l o n s)] := rfl
theorem j5z {l o n s : Nat} : PV.isAgg (.mslice l o n s) = false := rfl
theorem j60 {l o n s : Nat} : PV.ok (.mslice l o n s) = true := rfl
theorem j61 {l : Nat} : PV.cells (.map l) = [(.map l)] := rfl
theorem j62 {l : Nat} : PV.isAgg (.map l) = false := rfl
theorem j63 {l : Nat} : PV.ok (.map l) = true := rfl
theorem j64  : PV.cells .nilmap = [.nilmap] := rfl
theorem j65  : PV.isAgg .nilmap = false := rfl
theorem j66  : PV.ok .nilmap = true := rfl
theorem j67 {f : FuncId} {cs : List PV} : PV.cells (.func f cs) = [(.func f cs)] := rfl
theorem j68 {f : FuncId} {cs : List PV} : PV.isAgg (.func f cs) = false := rfl
theorem j69 {f : FuncId} {cs : List PV} : PV.ok (.func f cs) = true := rfl
theorem j6a  : PV.cells .nilfunc = [.nilfunc] := rfl
theorem j6b  : PV.isAgg .nilfunc = false := rfl
theorem j6c  : PV.ok .nilfunc = true := rfl
theorem j6d {t : TypeId} {v : PV} : PV.cells (.iface t v) = [(.iface t v)] := rfl
theorem j6e {t : TypeId} {v : PV} : PV.isAgg (.iface t v) = false := rfl
theorem j6f {t : TypeId} {v : PV} : PV.ok (.iface t v) = true := rfl
theorem j6g  : PV.cells .niliface = [.niliface] := rfl
theorem j6h  : PV.isAgg .niliface = false := rfl
theorem j6i  : PV.ok .niliface = true := rfl
theorem j6j {cs : List PV} : PV.cells (.agg cs) = cs := rfl
theorem j6k {cs : List PV} : PV.isAgg (.agg cs) = true := rfl
theorem j6l {cs : List PV} : PV.ok (.agg cs) = true := rfl

theorem j56 (a b : Int) : (a == b) = decide (a = b) := by by_cases h : a = b <;> simp [h]
theorem j57 (a b : Int) : (a != b) = !decide (a = b) := by by_cases h : a = b <;> simp [h]
theorem j6m {cs : List PV} {o n : Nat} : partP cs o n false = cs.getD o .bad := rfl
theorem j6n {cs : List PV} {o n : Nat} : partP cs o n true = .agg ((cs.drop o).take n) := rfl

theorem kret_at {P : Program} {ts : List ResultVar} {m N : Nat} {p : PV} {s : XS} {v : PV} {L' : List AObj} (s' : XS) (rs : List Nat) (k : Bool) (hw : Wk m N s s') (h : resV P ts s' = some p) (hk : Kept m s'.hp rs) (hl : L' = handed s'.hp rs) (hv : p.imp k rs.idxOf? = v) : kret P ts m N (.ret v) L' s :=
  ⟨s', p, rs, k, hw, h, hk, hl, by rw [hv]⟩
theorem kpan_at {P : Program} {ts : List ResultVar} {m N : Nat} {p : PV} {s : XS} {v : PV} {L' : List AObj} (ks rs : List Nat) (k : Bool) (hk : Kept m (killAll s.hp ks) rs) (hl : L' = handed (killAll s.hp ks) rs) (hv : p.imp k rs.idxOf? = v) : kfin P ts m N (.pan v) L' (.pan p) s :=
  ⟨ks, rs, k, hk, hl, by rw [hv]⟩
theorem kret_keep {P : Program} {ts : List ResultVar} {m N : Nat} {p : PV} {s : XS} {v : PV} {L' : List AObj} (rs : List Nat) (h : resV P ts s = some p) (hk : Kept m s.hp rs) (hl : L' = handed s.hp rs) (hv : p.imp false rs.idxOf? = v) : kfin P ts m N (.ret v) L' .ret s :=
  kret_at s rs false (.refl _ _ _) h hk hl hv
theorem kret_pure {P : Program} {ts : List ResultVar} {N : Nat} {p : PV} {s : XS} {v : PV} (h : resV P ts s = some p) (hv : p.bare = v) : kret P ts 0 N (.ret v) [] s :=
  kret_at s [] false (.refl _ _ _) h ⟨by simp, by simp, fun i h => by omega⟩ rfl (by rw [← hv, ← imp_none]; rfl)
theorem kfin_ret {P : Program} {ts : List ResultVar} {N : Nat} {p : PV} {s : XS} {v : PV} (h : resV P ts s = some p) (hv : p.bare = v) : kfin P ts 0 N (.ret v) [] .ret s := kret_pure h hv
theorem kfin_normal {P : Program} {ts : List ResultVar} {N : Nat} {p : PV} {s : XS} {v : PV} (h : resV P ts s = some p) (hv : p.bare = v) : kfin P ts 0 N (.ret v) [] .normal s := kret_pure h hv
theorem kfin_pan {P : Program} {ts : List ResultVar} {N : Nat} {p : PV} {s : XS} {v : PV} (hv : p.bare = v) : kfin P ts 0 N (.pan v) [] (.pan p) s :=
  ⟨[], [], false, ⟨by simp, by simp, fun i h => by omega⟩, rfl, by rw [← hv, ← imp_none]; rfl⟩

/-- Slots are kept or forgotten; every object is dropped. -/
def keepsAll (l l' : List (Nat × PV)) : Prop := ∀ x ∈ l', x.2 = .bad ∨ x.2 = (look l x.1).bare
theorem look_mem : ∀ (l : List (Nat × PV)) (t : Nat), look l t = .bad ∨ (t, look l t) ∈ l
  | [], t => .inl rfl
  | (d, v) :: r, t => by
    rw [look_if]
    by_cases h : t = d
    · subst h; simp
    · rw [if_neg h]; rcases look_mem r t with h1 | h1
      · exact .inl h1
      · exact .inr (List.mem_cons_of_mem _ h1)
theorem Wk.all {N : Nat} {l l' : List (Nat × PV)} {hp : List AObj} (h : keepsAll l l') : Wk 0 N ⟨l, hp⟩ ⟨l', []⟩ :=
  Wk.drop [] ⟨by simp, by simp, fun i h => by omega⟩ rfl fun t => by
    rcases look_mem l' t with h1 | h1
    · exact .inl h1
    · rcases h _ h1 with h2 | h2
      · exact .inl h2
      · exact .inr ⟨false, by rw [show look l' t = (look l t).bare from h2, ← imp_none]; rfl⟩
/-- Slots and objects are kept or forgotten: the objects rs stay, in that order. -/
def keepsTo (rs : List Nat) (l l' : List (Nat × PV)) : Prop := ∀ x ∈ l', x.2 = .bad ∨ x.2 = (look l x.1).imp true rs.idxOf?
theorem Wk.to {m N : Nat} {l l' : List (Nat × PV)} {hp hp' : List AObj} (rs : List Nat) (h : keepsTo rs l l') (hh : hp' = handed hp rs) (hk : Kept m hp rs) : Wk m N ⟨l, hp⟩ ⟨l', hp'⟩ :=
  Wk.drop rs hk hh fun t => by
    rcases look_mem l' t with h1 | h1
    · exact .inl h1
    · rcases h _ h1 with h2 | h2
      · exact .inl h2
      · exact .inr ⟨true, h2⟩
end Go.Proofs.YtlfngjemfpjegaaDoor.Px
