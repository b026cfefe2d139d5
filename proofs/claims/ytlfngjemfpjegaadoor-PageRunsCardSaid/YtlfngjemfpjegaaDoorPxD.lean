/- The abstract machine (Px): what operations on values give; each is met by the model. -/
import Derived.Test.YtlfngjemfpjegaaDoorPxC
import Derived.Laws.BytesString
namespace Go.Proofs.YtlfngjemfpjegaaDoor.Px
open Go Go.RowKit
set_option linter.unusedVariables false
set_option linter.unusedSimpArgs false

/-! ### 1. Operators -/
def aInt (op : BinOp) (k : IntKind) (a b : Int) (K : PV → Prop) : Prop :=
  match op with
  | .add => K (.int k (k.wrap (a + b)))
  | .sub => K (.int k (k.wrap (a - b)))
  | .mul => K (.int k (k.wrap (a * b)))
  | .quo => b ≠ 0 ∧ K (.int k (k.wrap (a.tdiv b)))
  | .rem => b ≠ 0 ∧ K (.int k (a.tmod b))
  | .and => K (.int k (k.wrap (BitVec.ofInt k.bits a &&& BitVec.ofInt k.bits b).toNat))
  | .or => K (.int k (k.wrap (BitVec.ofInt k.bits a ||| BitVec.ofInt k.bits b).toNat))
  | .xor => K (.int k (k.wrap (BitVec.ofInt k.bits a ^^^ BitVec.ofInt k.bits b).toNat))
  | .eql => K (.bool (a == b))
  | .neq => K (.bool (a != b))
  | .lss => K (.bool (decide (a < b)))
  | .leq => K (.bool (decide (a ≤ b)))
  | .gtr => K (.bool (decide (a > b)))
  | .geq => K (.bool (decide (a ≥ b)))
  | _ => False

def aShift (op : BinOp) (k : IntKind) (a b : Int) (K : PV → Prop) : Prop :=
  match op with
  | .shl => 0 ≤ b ∧ K (.int k (k.wrap (a * 2 ^ (min b.toNat k.bits))))
  | .shr => 0 ≤ b ∧ K (.int k (a.fdiv (2 ^ (min b.toNat k.bits))))
  | _ => False

def aStr (op : BinOp) (a b : ByteArray) (K : PV → Prop) : Prop :=
  match op with
  | .add => a.size + b.size ≤ 9223372036854775807 ∧ K (.str (a ++ b))
  | .eql => K (.bool (decide (a = b)))
  | .neq => K (.bool (!decide (a = b)))
  | .lss => K (.bool (Op.bytesLess a.data.toList b.data.toList))
  | .gtr => K (.bool (!(Op.bytesLess a.data.toList b.data.toList || decide (a = b))))
  | _ => False

/-- Two cells of one plain kind (0: whole numbers, 1: texts, 2: bools). -/
def cellEq : Nat → PV → PV → Option Bool
  | 0, .int k a, .int k' b => if k = k' then some (a == b) else none
  | 1, .str a, .str b => some (decide (a = b))
  | 2, .bool a, .bool b => some (a == b)
  | _, _, _ => none
def cellsEq : List Nat → List PV → List PV → Option Bool
  | [], [], [] => some true
  | k :: ks, x :: xs, y :: ys => match cellEq k x y, cellsEq ks xs ys with
    | some a, some b => some (a && b)
    | _, _ => none
  | _, _, _ => none
/-- A struct all of whose fields are compared, each of one plain cell: their kinds. -/
def plainKind (P : Program) (f : Field) : Option Nat :=
  if f.name != "_" && ((P.info? f.type).map (·.size)) == some 1 then
    match P.underlying f.type with
    | some (.int _) => some 0
    | some .string => some 1
    | some .bool => some 2
    | _ => none
  else none
def plainOffs (fs : List Field) (i : Nat) : Bool :=
  match fs with
  | [] => true
  | f :: r => f.offset == i && plainOffs r (i + 1)
def plainStruct (P : Program) (t : TypeId) : Option (List Nat) :=
  match P.underlying t with
  | some (.struct fs) => if plainOffs fs.toList 0 && !P.stoodInHeld t && !P.eqGuardType P.depth t then fs.toList.mapM (plainKind P) else none
  | _ => none

def aBin (P : Program) (op : BinOp) (t : TypeId) (x y : PV) (K : PV → Prop) : Prop :=
  match x, y with
  | .int k a, .int k' b => match op with
    | .shl | .shr => aShift op k a b K
    | _ => k = k' ∧ aInt op k a b K
  | .str a, .str b => aStr op a b K
  | .bool a, .bool b => (∃ ti, tinf P t = some ti ∧ ti.kd = .bool) ∧ (match op with | .eql => K (.bool (a == b)) | .neq => K (.bool (!(a == b))) | _ => False)
  | .nilptr, .nilptr => (∃ ti e, tinf P t = some ti ∧ ti.kd = .ptr e) ∧ (match op with | .eql => K (.bool true) | .neq => K (.bool false) | _ => False)
  | .ptr _ _, .nilptr | .view _, .nilptr => (∃ ti e, tinf P t = some ti ∧ ti.kd = .ptr e) ∧ (match op with | .eql => K (.bool false) | .neq => K (.bool true) | _ => False)
  | .func _ _, .nilfunc => (∃ ti, tinf P t = some ti ∧ ti.kd = .func) ∧ (match op with | .eql => K (.bool false) | .neq => K (.bool true) | _ => False)
  | .agg xs, .agg ys => ∃ ks c, plainStruct P t = some ks ∧ cellsEq ks xs ys = some c ∧ (match op with | .eql => K (.bool c) | .neq => K (.bool (!c)) | _ => False)
  | _, _ => False

def aUn (op : UnOp) (x : PV) (K : PV → Prop) : Prop :=
  match op, x with
  | .neg, .int k n => K (.int k (k.wrap (0 - n)))
  | .not, .bool b => K (.bool (!b))
  | _, _ => False

theorem bytes_eq (a b : ByteArray) : (a.toList == b.toList) = decide (a = b) := by
  rw [ByteArray.toList_eq, ByteArray.toList_eq]
  rw [Bool.eq_iff_iff]
  simp only [beq_iff_eq, decide_eq_true_eq]
  constructor
  · intro h
    have := Array.ext' h
    cases a; cases b; simp_all
  · intro h; rw [h]

theorem ba_beq (a b : ByteArray) : (a == b) = decide (a = b) := by
  rw [Bool.eq_iff_iff, decide_eq_true_eq]
  show (a.data == b.data) = true ↔ a = b
  rw [beq_iff_eq]
  cases a; cases b; simp

theorem kd_func {P : Program} {d : TypeDesc} (h : TK.func = kdOf P d) : ∃ a b c, d = .func a b c := by
  cases d <;> simp only [kdOf] at h <;> first | exact ⟨_, _, _, rfl⟩ | (exfalso; revert h; (try split) <;> intro h <;> cases h)

section
variable {P : Program} {w : World} {G : Gh}

/-- The model's operator on two values: the guard first. -/
abbrev mBin (op : BinOp) (t : TypeId) (x y : Operand) (u v : Value) : Sem Value := do eqGuard op t x y u v; binOp op t u v

theorem sound_int (op : BinOp) (t : TypeId) (x y : Operand) (k : IntKind) (a b : Int) (K : PV → Prop) (h : aInt op k a b K) :
    ∃ r rv, K r ∧ (mBin op t x y (.int k a) (.int k b)).run P w = .ok rv w ∧ V G w r rv := by
  have hg : eqGuard op t x y (.int k a) (.int k b) = pure () := by cases op <;> rfl
  simp only [mBin, hg]
  cases op <;> simp only [aInt] at h
  case quo => exact ⟨_, _, h.2, by simp [binOp, Op.intDiv, h.1], .int _ _⟩
  case rem => exact ⟨_, _, h.2, by simp [binOp, Op.intDiv, h.1], .int _ _⟩
  case and => exact ⟨_, _, h, by simp only [Sem.run_bind, Sem.run_pure, Result.andThen_ok, binOp_and]; rfl, .int _ _⟩
  case or => exact ⟨_, _, h, by simp only [Sem.run_bind, Sem.run_pure, Result.andThen_ok, binOp_or]; rfl, .int _ _⟩
  case xor => exact ⟨_, _, h, by simp only [Sem.run_bind, Sem.run_pure, Result.andThen_ok, binOp_xor]; rfl, .int _ _⟩
  case add => exact ⟨_, _, h, by simp [binOp, Op.intArith], .int _ _⟩
  case sub => exact ⟨_, _, h, by simp [binOp, Op.intArith], .int _ _⟩
  case mul => exact ⟨_, _, h, by simp [binOp, Op.intArith], .int _ _⟩
  all_goals exact ⟨_, _, h, by simp [binOp, Op.intCmp], .bool _⟩

theorem sound_shift (op : BinOp) (t : TypeId) (x y : Operand) (k k' : IntKind) (a b : Int) (K : PV → Prop) (h : aShift op k a b K) :
    ∃ r rv, K r ∧ (mBin op t x y (.int k a) (.int k' b)).run P w = .ok rv w ∧ V G w r rv := by
  have hg : eqGuard op t x y (.int k a) (.int k' b) = pure () := by cases op <;> rfl
  simp only [mBin, hg]
  cases op <;> simp only [aShift] at h
  case shl => exact ⟨_, _, h.2, by have : ¬ b < 0 := by omega
                                   simp [binOp, Op.shift, this], .int _ _⟩
  case shr => exact ⟨_, _, h.2, by have : ¬ b < 0 := by omega
                                   simp [binOp, Op.shift, this], .int _ _⟩

theorem sound_str (op : BinOp) (t : TypeId) (x y : Operand) (a b : ByteArray) (K : PV → Prop) (h : aStr op a b K) :
    ∃ r rv, K r ∧ (mBin op t x y (.string a) (.string b)).run P w = .ok rv w ∧ V G w r rv := by
  have hg : eqGuard op t x y (.string a) (.string b) = pure () := by cases op <;> rfl
  simp only [mBin, hg]
  cases op <;> simp only [aStr] at h
  case add =>
    refine ⟨_, _, h.2, ?_, .str _ (by simpa using h.1)⟩
    have h1 := h.1
    have : ¬ (9223372036854775807 < (a.size : Int) + (b.size : Int)) := by omega
    simp [binOp, Op.stringOp, this]
  case eql => exact ⟨_, _, h, by simp [binOp, Op.stringOp, bytes_eq], .bool _⟩
  case neq => exact ⟨_, _, h, by simp [binOp, Op.stringOp, bytes_eq], .bool _⟩
  case lss => exact ⟨_, _, h, by simp [binOp, Op.stringOp, bytes_eq, ByteArray.toList_eq], .bool _⟩
  case gtr => exact ⟨_, _, h, by simp only [Sem.run_bind, Sem.run_pure, Result.andThen_ok, binOp, Op.stringOp, bytes_eq]; rw [ByteArray.toList_eq, ByteArray.toList_eq], .bool _⟩

theorem sound_un (op : UnOp) (x : PV) (u : Value) (K : PV → Prop) (h : aUn op x K) (hv : V G w x u) :
    ∃ r rv, K r ∧ (Op.unary op u).run P w = .ok rv w ∧ V G w r rv := by
  unfold aUn at h
  split at h
  · cases hv; exact ⟨_, _, h, by simp [Op.unary, Op.intArith], .int _ _⟩
  · cases hv; exact ⟨_, _, h, by simp [Op.unary], .bool _⟩
  · exact h.elim

theorem equalIn_cell {d : Nat} {f : Field} {n : Nat} {p q : PV} {u v : Value} {c : Bool} (hn : plainKind P f = some n) (hc : cellEq n p q = some c) (hp : V G w p u) (hq : V G w q v) :
    (Op.equalIn (d + 1) f.type u v).run P w = .ok c w := by
  unfold plainKind at hn
  split at hn
  · unfold cellEq at hc
    split at hc
    · split at hc
      · rename_i e
        subst e
        injection hc with hc
        subst hc
        cases hp; cases hq
        split at hn <;> first | cases hn | skip
        rename_i hu
        simp [Op.equalIn, run_underlying hu]
      · cases hc
    · injection hc with hc
      subst hc
      cases hp; cases hq
      split at hn <;> first | cases hn | skip
      rename_i hu
      simp [Op.equalIn, run_underlying hu, ba_beq]
    · injection hc with hc
      subst hc
      cases hp; cases hq
      split at hn <;> first | cases hn | skip
      rename_i hu
      simp [Op.equalIn, run_underlying hu]
    · cases hc
  · cases hn
theorem plainKind_name {f : Field} {n : Nat} (h : plainKind P f = some n) : f.name ≠ "_" ∧ ∃ i d, P.info? f.type = some i ∧ i.size = 1 ∧ P.underlying f.type = some d ∧ aggDesc d = false := by
  unfold plainKind at h
  split at h
  · rename_i hc
    simp only [Bool.and_eq_true, bne_iff_ne, ne_eq, beq_iff_eq, Option.map_eq_some_iff] at hc
    obtain ⟨h1, i, h2, h3⟩ := hc
    split at h
    · rename_i hu; exact ⟨h1, i, _, h2, h3, hu, rfl⟩
    · rename_i hu; exact ⟨h1, i, _, h2, h3, hu, rfl⟩
    · rename_i hu; exact ⟨h1, i, _, h2, h3, hu, rfl⟩
    · cases h
  · cases h
theorem eqFields_run (d : Nat) (us vs : Array Value) : ∀ (fs : List Field) (ks : List Nat) (i : Nat) (ps qs : List PV) (c : Bool), plainOffs fs i = true → fs.mapM (plainKind P) = some ks →
    cellsEq ks ps qs = some c → VL G w ps (us.toList.drop i) → VL G w qs (vs.toList.drop i) → (Op.eqFields (d + 1) us vs fs).run P w = .ok c w := by
  intro fs
  induction fs with
  | nil =>
    intro ks i ps qs c _ hm hc _ _
    simp at hm
    subst hm
    cases ps <;> cases qs <;> simp [cellsEq] at hc
    subst hc
    simp [Op.eqFields]
  | cons f fs ih =>
    intro ks i ps qs c ho hm hc hp hq
    simp only [plainOffs, Bool.and_eq_true, beq_iff_eq] at ho
    obtain ⟨ho1, ho2⟩ := ho
    rw [List.mapM_cons] at hm
    cases hk : plainKind P f with
    | none => rw [hk] at hm; cases hm
    | some k =>
      cases hks : fs.mapM (plainKind P) with
      | none => rw [hk, hks] at hm; cases hm
      | some ks' =>
        rw [hk, hks] at hm
        simp at hm
        subst hm
        cases ps with
        | nil => cases qs <;> simp [cellsEq] at hc
        | cons p ps =>
          cases qs with
          | nil => simp [cellsEq] at hc
          | cons q qs =>
            simp only [cellsEq] at hc
            cases h1 : cellEq k p q with
            | none => rw [h1] at hc; cases hc
            | some a =>
              cases h2 : cellsEq ks' ps qs with
              | none => rw [h1, h2] at hc; cases hc
              | some b =>
                rw [h1, h2] at hc
                injection hc with hc
                subst hc
                obtain ⟨hname, inf, de, hi, hsz, hde, hagg⟩ := plainKind_name hk
                have hul : i < us.size := by have := hp.1; simp at this; omega
                have hvl : i < vs.size := by have := hq.1; simp at this; omega
                have hu0 : us.toList.drop i = us[i] :: us.toList.drop (i + 1) := by rw [List.drop_eq_getElem_cons (by simpa using hul)]; simp
                have hv0 : vs.toList.drop i = vs[i] :: vs.toList.drop (i + 1) := by rw [List.drop_eq_getElem_cons (by simpa using hvl)]; simp
                rw [hu0] at hp
                rw [hv0] at hq
                have e1 : (part f.type us f.offset).run P w = .ok us[i] w := by
                  simp only [part, Sem.run_bind, run_isAgg hde, Result.andThen_ok, hagg, ho1]
                  simp [Array.getElem?_eq_getElem hul]
                have e2 : (part f.type vs f.offset).run P w = .ok vs[i] w := by
                  simp only [part, Sem.run_bind, run_isAgg hde, Result.andThen_ok, hagg, ho1]
                  simp [Array.getElem?_eq_getElem hvl]
                have e3 := equalIn_cell (d := d) hk h1 hp.head hq.head
                have hr := ih ks' (i + 1) ps qs b ho2 hks h2 hp.tail hq.tail
                simp only [Op.eqFields, ne_eq, hname, not_false_eq_true, if_true, Sem.run_bind, e1, e2, e3, Result.andThen_ok]
                cases a with
                | true => simpa using hr
                | false => simp

theorem run_equal {t : TypeId} {u v : Value} {c : Bool} (h : ∀ d, (Op.equalIn (d + 1) t u v).run P w = .ok c w) : (Op.equal t u v).run P w = .ok c w := h 9999

theorem sound_bin (op : BinOp) (t : TypeId) (x y : Operand) (p q : PV) (u v : Value) (K : PV → Prop) (h : aBin P op t p q K) (hp : V G w p u) (hq : V G w q v) :
    ∃ r rv, K r ∧ (mBin op t x y u v).run P w = .ok rv w ∧ V G w r rv := by
  unfold aBin at h
  split at h
  · cases hp; cases hq
    rename_i k a k' b
    by_cases hs : op = .shl ∨ op = .shr
    · have h' : aShift op k a b K := by rcases hs with rfl | rfl <;> exact h
      exact sound_shift op t x y k k' a b K h'
    · have h' : k = k' ∧ aInt op k a b K := by cases op <;> first | exact h | simp at hs
      obtain ⟨rfl, h'⟩ := h'
      exact sound_int op t x y k a b K h'
  · cases hp; cases hq; exact sound_str op t x y _ _ K h
  · cases hp; cases hq
    rename_i a b
    obtain ⟨⟨ti, hti, hkd⟩, h⟩ := h
    obtain ⟨i, d, z, hT⟩ := tinf_of hti
    have hd := kd_bool (hkd ▸ hT.kd)
    have hu := hT.und
    rw [hd] at hu
    have hg : eqGuard op t x y (.bool a) (.bool b) = pure () := by cases op <;> rfl
    have he : (Op.equal t (.bool a) (.bool b)).run P w = .ok (a == b) w := run_equal fun d => by simp [Op.equalIn, run_underlying hu]
    simp only [mBin, hg]
    cases op <;> simp only at h
    case eql => exact ⟨_, _, h, by simp only [Sem.run_bind, Sem.run_pure, Result.andThen_ok, binOp, he, Bool.not_true, Bool.not_false], .bool _⟩
    case neq => exact ⟨_, _, h, by simp only [Sem.run_bind, Sem.run_pure, Result.andThen_ok, binOp, he, Bool.not_true, Bool.not_false], .bool _⟩
  · cases hp; cases hq
    obtain ⟨⟨ti, e, hti, hkd⟩, h⟩ := h
    obtain ⟨i, d, z, hT⟩ := tinf_of hti
    have hd := kd_ptr (hkd ▸ hT.kd)
    have hu := hT.und
    rw [hd] at hu
    have hg : eqGuard op t x y (.pointer none) (.pointer none) = pure () := by cases op <;> rfl
    have he : (Op.equal t (.pointer none) (.pointer none)).run P w = .ok true w := run_equal fun d => by simp [Op.equalIn, run_underlying hu]
    simp only [mBin, hg]
    cases op <;> simp only at h
    case eql => exact ⟨_, _, h, by simp only [Sem.run_bind, Sem.run_pure, Result.andThen_ok, binOp, he, Bool.not_true, Bool.not_false], .bool _⟩
    case neq => exact ⟨_, _, h, by simp only [Sem.run_bind, Sem.run_pure, Result.andThen_ok, binOp, he, Bool.not_true, Bool.not_false], .bool _⟩
  · cases hp; cases hq
    obtain ⟨⟨ti, e, hti, hkd⟩, h⟩ := h
    obtain ⟨i, d, z, hT⟩ := tinf_of hti
    have hd := kd_ptr (hkd ▸ hT.kd)
    have hu := hT.und
    rw [hd] at hu
    have hg : ∀ a, eqGuard op t x y (.pointer a) (.pointer none) = pure () := by intro a; cases op <;> rfl
    have he : ∀ a, (Op.equal t (.pointer (some a)) (.pointer none)).run P w = .ok false w := fun a => run_equal fun d => by simp [Op.equalIn, run_underlying hu]
    simp only [mBin, hg]
    cases op <;> simp only at h
    case eql => exact ⟨_, _, h, by simp only [Sem.run_bind, Sem.run_pure, Result.andThen_ok, binOp, he, Bool.not_true, Bool.not_false], .bool _⟩
    case neq => exact ⟨_, _, h, by simp only [Sem.run_bind, Sem.run_pure, Result.andThen_ok, binOp, he, Bool.not_true, Bool.not_false], .bool _⟩
  · cases hp; cases hq
    obtain ⟨⟨ti, e, hti, hkd⟩, h⟩ := h
    obtain ⟨i, d, z, hT⟩ := tinf_of hti
    have hd := kd_ptr (hkd ▸ hT.kd)
    have hu := hT.und
    rw [hd] at hu
    have hg : ∀ a, eqGuard op t x y (.pointer a) (.pointer none) = pure () := by intro a; cases op <;> rfl
    have he : ∀ a, (Op.equal t (.pointer (some a)) (.pointer none)).run P w = .ok false w := fun a => run_equal fun d => by simp [Op.equalIn, run_underlying hu]
    simp only [mBin, hg]
    cases op <;> simp only at h
    case eql => exact ⟨_, _, h, by simp only [Sem.run_bind, Sem.run_pure, Result.andThen_ok, binOp, he, Bool.not_true, Bool.not_false], .bool _⟩
    case neq => exact ⟨_, _, h, by simp only [Sem.run_bind, Sem.run_pure, Result.andThen_ok, binOp, he, Bool.not_true, Bool.not_false], .bool _⟩
  · cases hp; cases hq
    obtain ⟨⟨ti, hti, hkd⟩, h⟩ := h
    obtain ⟨i, d, z, hT⟩ := tinf_of hti
    obtain ⟨_, _, _, hd⟩ := kd_func (hkd ▸ hT.kd)
    have hu := hT.und
    rw [hd] at hu
    have hg : ∀ f a b, eqGuard op t x y (.func f a b) .nilFunc = pure () := by intro _ _ _; cases op <;> rfl
    have he : ∀ f a b, (Op.equal t (.func f a b) .nilFunc).run P w = .ok false w := fun _ _ _ => run_equal fun d => by simp [Op.equalIn, run_underlying hu]
    simp only [mBin, hg]
    cases op <;> simp only at h
    case eql => exact ⟨_, _, h, by simp only [Sem.run_bind, Sem.run_pure, Result.andThen_ok, binOp, he, Bool.not_true, Bool.not_false], .bool _⟩
    case neq => exact ⟨_, _, h, by simp only [Sem.run_bind, Sem.run_pure, Result.andThen_ok, binOp, he, Bool.not_true, Bool.not_false], .bool _⟩
  · rename_i xs ys
    obtain ⟨ks, c, hks, hc, h⟩ := h
    have hpl := (hp.cells rfl).1
    have hql := (hq.cells rfl).1
    cases hp with
    | agg _ us hl1 ho1 hv1 =>
    cases hq with
    | agg _ vs hl2 ho2 hv2 =>
    unfold plainStruct at hks
    split at hks
    · rename_i fs hu
      split at hks
      · rename_i hcond
        simp only [Bool.and_eq_true, Bool.not_eq_true'] at hcond
        obtain ⟨⟨hof, hst⟩, hge⟩ := hcond
        have hf : P.fieldsOf t = fs := by simp [Program.fieldsOf, hu]
        have he : (Op.equal t (.agg us) (.agg vs)).run P w = .ok c w := by
          unfold Op.equal Op.maxDepth
          rw [run_equalIn_struct w 9999 t us vs (by rw [hf]; exact hu) hst, hf]
          exact eqFields_run 9998 us vs fs.toList ks 0 xs ys c hof hks hc (by simpa [PV.cells, Value.cells] using hpl) (by simpa [PV.cells, Value.cells] using hql)
        have hg : ∀ o, o = .eql ∨ o = .neq → (eqGuard o t x y (.agg us) (.agg vs)).run P w = .ok () w := by
          rintro o (rfl | rfl) <;> simp [eqGuard, hge]
        cases op <;> simp only at h
        case eql => exact ⟨_, _, h, by simp only [mBin, Sem.run_bind, hg _ (.inl rfl), Result.andThen_ok, binOp, he, Sem.run_pure], .bool _⟩
        case neq => exact ⟨_, _, h, by simp only [mBin, Sem.run_bind, hg _ (.inr rfl), Result.andThen_ok, binOp, he, Sem.run_pure], .bool _⟩
      · cases hks
    · cases hks
  · exact h.elim
end
end Go.Proofs.YtlfngjemfpjegaaDoor.Px
