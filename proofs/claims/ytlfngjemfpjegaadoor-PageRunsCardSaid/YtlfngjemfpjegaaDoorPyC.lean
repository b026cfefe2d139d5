/- Counting trees and templates. -/
import Derived.Test.YtlfngjemfpjegaaDoorPyA
namespace Go.Proofs.YtlfngjemfpjegaaDoor.Px
open Go Go.RowKit Go.Proofs
set_option linter.unusedVariables false
set_option linter.unnecessarySimpa false
set_option linter.unusedSimpArgs false
set_option maxRecDepth 4000
def x46 : XCode :=
  (.seq
   (.reg [⟨some 1, none, Op.box 28 (Operand.tmp 0), false⟩,
     ⟨some 2, none, Op.assign (Operand.const (Value.int IntKind.i64 0)), false⟩])
   (.seq
    (.reg [⟨some 3, none, Op.assign (Operand.const (Value.int IntKind.i64 1)), false⟩])
    (.seq
     (.seq
      (.reg [⟨some 6, none, Op.fieldAddr 28 (Operand.tmp 1) 4, false⟩,
        ⟨some 7, none, Op.load 26 (Operand.tmp 6), false⟩,
        ⟨some 8, none, Op.call { callee := Callee.builtin Builtin.len, args := #[Operand.tmp 7], argTypes := #[26] }, false⟩,
        ⟨some 9, none, Op.move (Operand.const (Value.int IntKind.i64 0)), false⟩])
      (.block 0
       (.loop
        (.seq
         (.reg [⟨some 10, none, Op.binOp BinOp.lss 3 (Operand.tmp 9) (Operand.tmp 8) 3, false⟩])
         (.seq
          (.cond (Operand.tmp 10)
           .skip
           (.exit 0))
          (.seq
           (.block 1
            (.seq
             (.reg [⟨some 11, none, Op.indexAddr 26 (Operand.tmp 7) (Operand.tmp 9), false⟩,
               ⟨some 12, none, Op.load 28 (Operand.tmp 11), false⟩,
               ⟨some 5, none, Op.alloc 28, false⟩,
               ⟨none, none, Op.store 28 (Operand.tmp 5) (Operand.tmp 12), false⟩])
             (.reg [⟨some 13, none, Op.move (Operand.tmp 3), false⟩,
               ⟨some 14, none, Op.load 28 (Operand.tmp 5), false⟩,
               ⟨some 15, none, Op.call { callee := Callee.value (Operand.func 46), args := #[Operand.tmp 14], argTypes := #[28] }, false⟩,
               ⟨some 16, none, Op.binOp BinOp.add 3 (Operand.tmp 13) (Operand.tmp 15) 3, false⟩,
               ⟨some 3, none, Op.assign (Operand.tmp 16), false⟩])))
           (.reg [⟨some 17, none, Op.binOp BinOp.add 3 (Operand.tmp 9) (Operand.const (Value.int IntKind.i64 1)) 3, false⟩,
             ⟨some 9, none, Op.move (Operand.tmp 17), false⟩])))))))
     (.seq
      (.reg [⟨some 18, none, Op.move (Operand.tmp 3), false⟩,
        ⟨some 2, none, Op.assign (Operand.tmp 18), false⟩])
      .ret))))
theorem ispec46 {args : List PV} {L L' : List AObj} {out : Out} (h : aw Tryd.prog L.length 19 x46 (kfin Tryd.prog [.tmp 2] L.length 19 out L') ⟨enum 0 args, L⟩) : ISpec Tryd.prog 46 args L out L' :=
  ispec_of_aw mixd (fn := Tryd.f46) (x := x46) Tryd.func46 rfl (by kernel_rfl) (by kernel_rfl) rfl h
theorem isfn46 : isFn Tryd.prog 46 = true := by kernel_rfl

def x22 : XCode :=
  (.seq
   (.reg [⟨some 1, none, Op.box 28 (Operand.tmp 0), false⟩,
     ⟨some 2, none, Op.assign (Operand.const (Value.int IntKind.i64 0)), false⟩])
   (.seq
    (.reg [⟨some 3, none, Op.assign (Operand.const (Value.int IntKind.i64 0)), false⟩])
    (.seq
     (.seq
      (.reg [⟨some 6, none, Op.fieldAddr 28 (Operand.tmp 1) 0, false⟩,
        ⟨some 7, none, Op.load 9 (Operand.tmp 6), false⟩,
        ⟨some 8, none, Op.binOp BinOp.eql 9 (Operand.tmp 7) (Operand.const (Value.string { data := #[111, 117, 116, 108, 101, 116] })) 9, false⟩])
      (.cond (Operand.tmp 8)
       (.reg [⟨some 3, none, Op.assign (Operand.const (Value.int IntKind.i64 1)), false⟩])
       .skip))
     (.seq
      (.seq
       (.reg [⟨some 9, none, Op.fieldAddr 28 (Operand.tmp 1) 4, false⟩,
         ⟨some 10, none, Op.load 26 (Operand.tmp 9), false⟩,
         ⟨some 11, none, Op.call { callee := Callee.builtin Builtin.len, args := #[Operand.tmp 10], argTypes := #[26] }, false⟩,
         ⟨some 12, none, Op.move (Operand.const (Value.int IntKind.i64 0)), false⟩])
       (.block 0
        (.loop
         (.seq
          (.reg [⟨some 13, none, Op.binOp BinOp.lss 3 (Operand.tmp 12) (Operand.tmp 11) 3, false⟩])
          (.seq
           (.cond (Operand.tmp 13)
            .skip
            (.exit 0))
           (.seq
            (.block 1
             (.seq
              (.reg [⟨some 14, none, Op.indexAddr 26 (Operand.tmp 10) (Operand.tmp 12), false⟩,
                ⟨some 15, none, Op.load 28 (Operand.tmp 14), false⟩,
                ⟨some 5, none, Op.alloc 28, false⟩,
                ⟨none, none, Op.store 28 (Operand.tmp 5) (Operand.tmp 15), false⟩])
              (.reg [⟨some 16, none, Op.move (Operand.tmp 3), false⟩,
                ⟨some 17, none, Op.load 28 (Operand.tmp 5), false⟩,
                ⟨some 18, none, Op.call { callee := Callee.value (Operand.func 22), args := #[Operand.tmp 17], argTypes := #[28] }, false⟩,
                ⟨some 19, none, Op.binOp BinOp.add 3 (Operand.tmp 16) (Operand.tmp 18) 3, false⟩,
                ⟨some 3, none, Op.assign (Operand.tmp 19), false⟩])))
            (.reg [⟨some 20, none, Op.binOp BinOp.add 3 (Operand.tmp 12) (Operand.const (Value.int IntKind.i64 1)) 3, false⟩,
              ⟨some 12, none, Op.move (Operand.tmp 20), false⟩])))))))
      (.seq
       (.reg [⟨some 21, none, Op.move (Operand.tmp 3), false⟩,
         ⟨some 2, none, Op.assign (Operand.tmp 21), false⟩])
       .ret)))))
theorem ispec22 {args : List PV} {L L' : List AObj} {out : Out} (h : aw Tryd.prog L.length 22 x22 (kfin Tryd.prog [.tmp 2] L.length 22 out L') ⟨enum 0 args, L⟩) : ISpec Tryd.prog 22 args L out L' :=
  ispec_of_aw mixd (fn := Tryd.f22) (x := x22) Tryd.func22 rfl (by kernel_rfl) (by kernel_rfl) rfl h
theorem isfn22 : isFn Tryd.prog 22 = true := by kernel_rfl

def x17 : XCode :=
  (.seq
   (.reg [⟨some 1, none, Op.box 25 (Operand.tmp 0), false⟩,
     ⟨some 2, none, Op.assign (Operand.const (Value.int IntKind.i64 0)), false⟩])
   (.seq
    (.reg [⟨some 3, none, Op.assign (Operand.const (Value.int IntKind.i64 0)), false⟩])
    (.seq
     (.seq
      (.reg [⟨some 6, none, Op.fieldAddr 25 (Operand.tmp 1) 0, false⟩,
        ⟨some 7, none, Op.load 3 (Operand.tmp 6), false⟩,
        ⟨some 8, none, Op.binOp BinOp.eql 3 (Operand.tmp 7) (Operand.const (Value.int IntKind.i64 7)) 3, false⟩])
      (.cond (Operand.tmp 8)
       (.reg [⟨some 3, none, Op.assign (Operand.const (Value.int IntKind.i64 1)), false⟩])
       .skip))
     (.seq
      (.seq
       (.reg [⟨some 9, none, Op.fieldAddr 25 (Operand.tmp 1) 5, false⟩,
         ⟨some 10, none, Op.load 23 (Operand.tmp 9), false⟩,
         ⟨some 11, none, Op.call { callee := Callee.builtin Builtin.len, args := #[Operand.tmp 10], argTypes := #[23] }, false⟩,
         ⟨some 12, none, Op.move (Operand.const (Value.int IntKind.i64 0)), false⟩])
       (.block 0
        (.loop
         (.seq
          (.reg [⟨some 13, none, Op.binOp BinOp.lss 3 (Operand.tmp 12) (Operand.tmp 11) 3, false⟩])
          (.seq
           (.cond (Operand.tmp 13)
            .skip
            (.exit 0))
           (.seq
            (.block 1
             (.seq
              (.reg [⟨some 14, none, Op.indexAddr 23 (Operand.tmp 10) (Operand.tmp 12), false⟩,
                ⟨some 15, none, Op.load 25 (Operand.tmp 14), false⟩,
                ⟨some 5, none, Op.alloc 25, false⟩,
                ⟨none, none, Op.store 25 (Operand.tmp 5) (Operand.tmp 15), false⟩])
              (.reg [⟨some 16, none, Op.move (Operand.tmp 3), false⟩,
                ⟨some 17, none, Op.load 25 (Operand.tmp 5), false⟩,
                ⟨some 18, none, Op.call { callee := Callee.value (Operand.func 17), args := #[Operand.tmp 17], argTypes := #[25] }, false⟩,
                ⟨some 19, none, Op.binOp BinOp.add 3 (Operand.tmp 16) (Operand.tmp 18) 3, false⟩,
                ⟨some 3, none, Op.assign (Operand.tmp 19), false⟩])))
            (.reg [⟨some 20, none, Op.binOp BinOp.add 3 (Operand.tmp 12) (Operand.const (Value.int IntKind.i64 1)) 3, false⟩,
              ⟨some 12, none, Op.move (Operand.tmp 20), false⟩])))))))
      (.seq
       (.reg [⟨some 21, none, Op.move (Operand.tmp 3), false⟩,
         ⟨some 2, none, Op.assign (Operand.tmp 21), false⟩])
       .ret)))))
theorem ispec17 {args : List PV} {L L' : List AObj} {out : Out} (h : aw Tryd.prog L.length 22 x17 (kfin Tryd.prog [.tmp 2] L.length 22 out L') ⟨enum 0 args, L⟩) : ISpec Tryd.prog 17 args L out L' :=
  ispec_of_aw mixd (fn := Tryd.f17) (x := x17) Tryd.func17 rfl (by kernel_rfl) (by kernel_rfl) rfl h
theorem isfn17 : isFn Tryd.prog 17 = true := by kernel_rfl

def x18 : XCode :=
  (.seq
   (.reg [⟨some 1, none, Op.box 25 (Operand.tmp 0), false⟩,
     ⟨some 2, none, Op.assign (Operand.const (Value.int IntKind.i64 0)), false⟩])
   (.seq
    (.reg [⟨some 3, none, Op.assign (Operand.const (Value.int IntKind.i64 0)), false⟩])
    (.seq
     (.seq
      (.reg [⟨some 6, none, Op.fieldAddr 25 (Operand.tmp 1) 0, false⟩,
        ⟨some 7, none, Op.load 3 (Operand.tmp 6), false⟩,
        ⟨some 8, none, Op.binOp BinOp.eql 3 (Operand.tmp 7) (Operand.const (Value.int IntKind.i64 7)) 3, false⟩])
      (.cond (Operand.tmp 8)
       (.reg [⟨some 3, none, Op.assign (Operand.const (Value.int IntKind.i64 1)), false⟩])
       .skip))
     (.seq
      (.seq
       (.reg [⟨some 9, none, Op.fieldAddr 25 (Operand.tmp 1) 5, false⟩,
         ⟨some 10, none, Op.load 23 (Operand.tmp 9), false⟩,
         ⟨some 11, none, Op.call { callee := Callee.builtin Builtin.len, args := #[Operand.tmp 10], argTypes := #[23] }, false⟩,
         ⟨some 12, none, Op.move (Operand.const (Value.int IntKind.i64 0)), false⟩])
       (.block 0
        (.loop
         (.seq
          (.reg [⟨some 13, none, Op.binOp BinOp.lss 3 (Operand.tmp 12) (Operand.tmp 11) 3, false⟩])
          (.seq
           (.cond (Operand.tmp 13)
            .skip
            (.exit 0))
           (.seq
            (.block 1
             (.seq
              (.reg [⟨some 14, none, Op.indexAddr 23 (Operand.tmp 10) (Operand.tmp 12), false⟩,
                ⟨some 15, none, Op.load 25 (Operand.tmp 14), false⟩,
                ⟨some 5, none, Op.alloc 25, false⟩,
                ⟨none, none, Op.store 25 (Operand.tmp 5) (Operand.tmp 15), false⟩])
              (.reg [⟨some 16, none, Op.move (Operand.tmp 3), false⟩,
                ⟨some 17, none, Op.load 25 (Operand.tmp 5), false⟩,
                ⟨some 18, none, Op.call { callee := Callee.value (Operand.func 18), args := #[Operand.tmp 17], argTypes := #[25] }, false⟩,
                ⟨some 19, none, Op.binOp BinOp.add 3 (Operand.tmp 16) (Operand.tmp 18) 3, false⟩,
                ⟨some 3, none, Op.assign (Operand.tmp 19), false⟩])))
            (.reg [⟨some 20, none, Op.binOp BinOp.add 3 (Operand.tmp 12) (Operand.const (Value.int IntKind.i64 1)) 3, false⟩,
              ⟨some 12, none, Op.move (Operand.tmp 20), false⟩])))))))
      (.seq
       (.reg [⟨some 21, none, Op.move (Operand.tmp 3), false⟩,
         ⟨some 2, none, Op.assign (Operand.tmp 21), false⟩])
       .ret)))))
theorem ispec18 {args : List PV} {L L' : List AObj} {out : Out} (h : aw Tryd.prog L.length 22 x18 (kfin Tryd.prog [.tmp 2] L.length 22 out L') ⟨enum 0 args, L⟩) : ISpec Tryd.prog 18 args L out L' :=
  ispec_of_aw mixd (fn := Tryd.f18) (x := x18) Tryd.func18 rfl (by kernel_rfl) (by kernel_rfl) rfl h
theorem isfn18 : isFn Tryd.prog 18 = true := by kernel_rfl

def x47 : XCode :=
  (.seq
   (.reg [⟨some 1, none, Op.box 28 (Operand.tmp 0), false⟩,
     ⟨some 2, none, Op.assign (Operand.const (Value.int IntKind.i64 0)), false⟩])
   (.seq
    (.reg [⟨some 3, none, Op.assign (Operand.const (Value.int IntKind.i64 0)), false⟩])
    (.seq
     (.seq
      (.reg [⟨some 6, none, Op.fieldAddr 28 (Operand.tmp 1) 4, false⟩,
        ⟨some 7, none, Op.load 26 (Operand.tmp 6), false⟩,
        ⟨some 8, none, Op.call { callee := Callee.builtin Builtin.len, args := #[Operand.tmp 7], argTypes := #[26] }, false⟩,
        ⟨some 9, none, Op.move (Operand.const (Value.int IntKind.i64 0)), false⟩])
      (.block 0
       (.loop
        (.seq
         (.reg [⟨some 10, none, Op.binOp BinOp.lss 3 (Operand.tmp 9) (Operand.tmp 8) 3, false⟩])
         (.seq
          (.cond (Operand.tmp 10)
           .skip
           (.exit 0))
          (.seq
           (.block 1
            (.seq
             (.reg [⟨some 11, none, Op.indexAddr 26 (Operand.tmp 7) (Operand.tmp 9), false⟩,
               ⟨some 12, none, Op.load 28 (Operand.tmp 11), false⟩,
               ⟨some 5, none, Op.alloc 28, false⟩,
               ⟨none, none, Op.store 28 (Operand.tmp 5) (Operand.tmp 12), false⟩])
             (.reg [⟨some 13, none, Op.move (Operand.tmp 3), false⟩,
               ⟨some 14, none, Op.load 28 (Operand.tmp 5), false⟩,
               ⟨some 15, none, Op.call { callee := Callee.value (Operand.func 47), args := #[Operand.tmp 14], argTypes := #[28] }, false⟩,
               ⟨some 16, none, Op.call { callee := Callee.builtin Builtin.max, args := #[Operand.tmp 13, Operand.tmp 15], argTypes := #[3, 3] }, false⟩,
               ⟨some 3, none, Op.assign (Operand.tmp 16), false⟩])))
           (.reg [⟨some 17, none, Op.binOp BinOp.add 3 (Operand.tmp 9) (Operand.const (Value.int IntKind.i64 1)) 3, false⟩,
             ⟨some 9, none, Op.move (Operand.tmp 17), false⟩])))))))
     (.seq
      (.reg [⟨some 18, none, Op.move (Operand.tmp 3), false⟩,
        ⟨some 19, none, Op.binOp BinOp.add 3 (Operand.tmp 18) (Operand.const (Value.int IntKind.i64 1)) 3, false⟩,
        ⟨some 2, none, Op.assign (Operand.tmp 19), false⟩])
      .ret))))
theorem ispec47 {args : List PV} {L L' : List AObj} {out : Out} (h : aw Tryd.prog L.length 20 x47 (kfin Tryd.prog [.tmp 2] L.length 20 out L') ⟨enum 0 args, L⟩) : ISpec Tryd.prog 47 args L out L' :=
  ispec_of_aw mixd (fn := Tryd.f47) (x := x47) Tryd.func47 rfl (by kernel_rfl) (by kernel_rfl) rfl h
theorem isfn47 : isFn Tryd.prog 47 = true := by kernel_rfl

def x34 : XCode :=
  (.seq
   (.reg [⟨some 1, none, Op.box 25 (Operand.tmp 0), false⟩,
     ⟨some 2, none, Op.assign (Operand.const (Value.int IntKind.i64 0)), false⟩,
     ⟨some 3, none, Op.assign (Operand.const (Value.int IntKind.i64 0)), false⟩])
   (.seq
    (.reg [⟨some 4, none, Op.assign (Operand.const (Value.int IntKind.i64 1)), false⟩,
      ⟨some 5, none, Op.assign (Operand.const (Value.int IntKind.i64 0)), false⟩])
    (.seq
     (.seq
      (.reg [⟨some 10, none, Op.fieldAddr 25 (Operand.tmp 1) 5, false⟩,
        ⟨some 11, none, Op.load 23 (Operand.tmp 10), false⟩,
        ⟨some 12, none, Op.call { callee := Callee.builtin Builtin.len, args := #[Operand.tmp 11], argTypes := #[23] }, false⟩,
        ⟨some 13, none, Op.move (Operand.const (Value.int IntKind.i64 0)), false⟩])
      (.block 0
       (.loop
        (.seq
         (.reg [⟨some 14, none, Op.binOp BinOp.lss 3 (Operand.tmp 13) (Operand.tmp 12) 3, false⟩])
         (.seq
          (.cond (Operand.tmp 14)
           .skip
           (.exit 0))
          (.seq
           (.block 1
            (.seq
             (.reg [⟨some 15, none, Op.indexAddr 23 (Operand.tmp 11) (Operand.tmp 13), false⟩,
               ⟨some 16, none, Op.load 25 (Operand.tmp 15), false⟩,
               ⟨some 7, none, Op.alloc 25, false⟩,
               ⟨none, none, Op.store 25 (Operand.tmp 7) (Operand.tmp 16), false⟩])
             (.seq
              (.reg [⟨some 18, none, Op.load 25 (Operand.tmp 7), false⟩,
                ⟨some 19, none, Op.call { callee := Callee.value (Operand.func 34), args := #[Operand.tmp 18], argTypes := #[25] }, false⟩,
                ⟨some 17, none, Op.move (Operand.tmp 19), false⟩,
                ⟨some 20, none, Op.extract (Operand.tmp 17) 0, false⟩,
                ⟨some 21, none, Op.extract (Operand.tmp 17) 1, false⟩,
                ⟨some 8, none, Op.assign (Operand.tmp 20), false⟩,
                ⟨some 9, none, Op.assign (Operand.tmp 21), false⟩])
              (.reg [⟨some 22, none, Op.move (Operand.tmp 4), false⟩,
                ⟨some 23, none, Op.move (Operand.tmp 8), false⟩,
                ⟨some 24, none, Op.binOp BinOp.add 3 (Operand.tmp 22) (Operand.tmp 23) 3, false⟩,
                ⟨some 25, none, Op.move (Operand.tmp 5), false⟩,
                ⟨some 26, none, Op.move (Operand.tmp 9), false⟩,
                ⟨some 27, none, Op.call { callee := Callee.builtin Builtin.max, args := #[Operand.tmp 25, Operand.tmp 26], argTypes := #[3, 3] }, false⟩,
                ⟨some 4, none, Op.assign (Operand.tmp 24), false⟩,
                ⟨some 5, none, Op.assign (Operand.tmp 27), false⟩]))))
           (.reg [⟨some 28, none, Op.binOp BinOp.add 3 (Operand.tmp 13) (Operand.const (Value.int IntKind.i64 1)) 3, false⟩,
             ⟨some 13, none, Op.move (Operand.tmp 28), false⟩])))))))
     (.seq
      (.reg [⟨some 29, none, Op.move (Operand.tmp 4), false⟩,
        ⟨some 30, none, Op.move (Operand.tmp 5), false⟩,
        ⟨some 31, none, Op.binOp BinOp.add 3 (Operand.tmp 30) (Operand.const (Value.int IntKind.i64 1)) 3, false⟩,
        ⟨some 2, none, Op.assign (Operand.tmp 29), false⟩,
        ⟨some 3, none, Op.assign (Operand.tmp 31), false⟩])
      .ret))))
theorem ispec34 {args : List PV} {L L' : List AObj} {out : Out} (h : aw Tryd.prog L.length 32 x34 (kfin Tryd.prog [.tmp 2, .tmp 3] L.length 32 out L') ⟨enum 0 args, L⟩) : ISpec Tryd.prog 34 args L out L' :=
  ispec_of_aw mixd (fn := Tryd.f34) (x := x34) Tryd.func34 rfl (by kernel_rfl) (by kernel_rfl) rfl h
theorem isfn34 : isFn Tryd.prog 34 = true := by kernel_rfl


/-- "outlet" -/
def outB : BA := ⟨#[111, 117, 116, 108, 101, 116]⟩
theorem outB_def : (⟨#[111, 117, 116, 108, 101, 116]⟩ : BA) = outB := rfl
theorem const_outB : ofConst (.string outB) = .str outB := j3y (by decide)

mutual
def cntT : Tr → Int
  | .mk g k t ats ks => cntTs (1) ks
def cntTs (a : Int) : List Tr → Int
  | [] => a
  | t :: r => cntTs (wadd a (cntT t)) r
end
theorem cntTs_fold (a : Int) (l : List Tr) : cntTs a l = l.foldl (fun n k => wadd n (cntT k)) a := by
  induction l generalizing a with
  | nil => rfl
  | cons t r ih => rw [cntTs, ih]; rfl
theorem cntT_eq (t : Tr) : cntT t = t.ks.foldl (fun n k => wadd n (cntT k)) (1) := by cases t; rw [cntT, cntTs_fold]; rfl

theorem spec46 (t : Tr) : PSpec Tryd.prog 46 [encT t] (.ret (.int .i64 (cntT t))) := by
  refine ispec_bd fun hbd => ispec46 ?_
  rw [encT_eq] at hbd ⊢
  simp only [PV.bdL, PV.bd, List.length_map, and_true] at hbd
  have hlen : t.ks.length ≤ 9223372036854775807 := by simp only [hbd]
  simp only [x46, enum, j00, j01, j02, j03, j04, j05, j06, j07, j08, j09, j0a, j0b, j0c, j0d, j0e, j0f, j0g, j0h, j0i, j0j, j0k, j0l, j0m, j0n, j0o, j0p, j0q, j0r, j0s, j0t, j3k, j3l, j3m, j3n, j3o, j3p, setAll, j3q, j3r, j3s, j3t, j3u, j3v, j3w, j3x, j3y, j3z, j40, j41, j42, j43, j44, j45, j46, j47, j48, j49, j4a, j4b, j4c, j4d, j4e, j4f, j4g, j4h, j4i, j4j, j4k, j4l, j4m, j4n, j4o, j4p, j4q, j4r, j4s, j4t, j4u, j4v, j4w, j4x, j4y, j4z, j50, j51, j52, j53, j54, j55, j56, j57, Bool.not_true, Bool.not_false, Bool.true_and, Bool.and_true, Bool.false_and, Bool.and_false, Bool.true_or, Bool.or_true, Bool.false_or, Bool.or_false, cond_true, cond_false, aAllocN, aIndex, xLoad, xStore, xField, xFA, xIA, xLen, xMM, xAlloc, xIface, xInt, xStr, xIs, xBin, xAgg, xUn, xPick, xExt, knd, fls, ifc, isBoolK, isPtrK, isFuncK, isIfK, j58, j59, Nat.reduceBEq, eq_self, j5a, j5b, j5c, j5d, j5e, j5f, j5g, j5h, j5i, j5j, j5k, j5l, j5m, j5n, j5o, j5p, j5q, j5r, j5s, j5t, j5u, j5v, j5w, j5x, j5y, j5z, j60, j61, j62, j63, j64, j65, j66, j67, j68, j69, j6a, j6b, j6c, j6d, j6e, j6f, j6g, j6h, j6i, j6j, j6k, j6l, j6m, j6n, splice, List.size_toArray, decide_true, decide_false, Nat.reduceLeDiff, List.getD_cons_zero, List.getD_cons_succ, List.drop_succ_cons, List.drop_zero, List.take_succ_cons, List.take_zero, List.take_nil, List.drop_nil, Bool.false_eq_true, List.length_map, List.length_cons, List.length_nil, List.append_nil, List.nil_append, List.cons_append, List.getElem?_cons_succ, List.getElem?_cons_zero, List.length_append, List.set_cons_succ, List.set_cons_zero, List.map_cons, List.map_nil, if_true, if_false, Nat.reduceEqDiff, Nat.reduceAdd, Nat.reduceLT, reduceIte, true_and, and_true, and_self, Nat.zero_add, Nat.add_zero, ge_iff_le, gt_iff_lt, List.filter_cons, List.filter_nil, List.replicate_zero, List.replicate_succ, List.reverse_cons, List.reverse_nil, Option.map_some, Option.map_none, ti28, ti26, ti9, ti3, outB_def, const_outB]
  refine aw_loop (fun i : Nat => ⟨[(9, .int .i64 i), (8, .int .i64 t.ks.length), (7, .slice .dead (t.ks.map encT)), (3, .int .i64 ((t.ks.take i).foldl (fun n k => wadd n (cntT k)) (1)))], []⟩) (fun i => i ≤ t.ks.length) (fun i => t.ks.length - i) 0 (by simp) (.all (by simp)) ?_
  intro i hi
  by_cases h : i < t.ks.length
  · have hr : (0 : Int) ≤ (i : Int) := by omega
    have hsz := Tr.size_ks t t.ks[i] (List.getElem_mem h)
    simp only [j00, j01, j02, j03, j04, j05, j06, j07, j08, j09, j0a, j0b, j0c, j0d, j0e, j0f, j0g, j0h, j0i, j0j, j0k, j0l, j0m, j0n, j0o, j0p, j0q, j0r, j0s, j0t, j3k, j3l, j3m, j3n, j3o, j3p, setAll, j3q, j3r, j3s, j3t, j3u, j3v, j3w, j3x, j3y, j3z, j40, j41, j42, j43, j44, j45, j46, j47, j48, j49, j4a, j4b, j4c, j4d, j4e, j4f, j4g, j4h, j4i, j4j, j4k, j4l, j4m, j4n, j4o, j4p, j4q, j4r, j4s, j4t, j4u, j4v, j4w, j4x, j4y, j4z, j50, j51, j52, j53, j54, j55, j56, j57, Bool.not_true, Bool.not_false, Bool.true_and, Bool.and_true, Bool.false_and, Bool.and_false, Bool.true_or, Bool.or_true, Bool.false_or, Bool.or_false, cond_true, cond_false, aAllocN, aIndex, xLoad, xStore, xField, xFA, xIA, xLen, xMM, xAlloc, xIface, xInt, xStr, xIs, xBin, xAgg, xUn, xPick, xExt, knd, fls, ifc, isBoolK, isPtrK, isFuncK, isIfK, j58, j59, Nat.reduceBEq, eq_self, j5a, j5b, j5c, j5d, j5e, j5f, j5g, j5h, j5i, j5j, j5k, j5l, j5m, j5n, j5o, j5p, j5q, j5r, j5s, j5t, j5u, j5v, j5w, j5x, j5y, j5z, j60, j61, j62, j63, j64, j65, j66, j67, j68, j69, j6a, j6b, j6c, j6d, j6e, j6f, j6g, j6h, j6i, j6j, j6k, j6l, j6m, j6n, splice, List.size_toArray, decide_true, decide_false, Nat.reduceLeDiff, List.getD_cons_zero, List.getD_cons_succ, List.drop_succ_cons, List.drop_zero, List.take_succ_cons, List.take_zero, List.take_nil, List.drop_nil, Bool.false_eq_true, List.length_map, List.length_cons, List.length_nil, List.append_nil, List.nil_append, List.cons_append, List.getElem?_cons_succ, List.getElem?_cons_zero, List.length_append, List.set_cons_succ, List.set_cons_zero, List.map_cons, List.map_nil, if_true, if_false, Nat.reduceEqDiff, Nat.reduceAdd, Nat.reduceLT, reduceIte, true_and, and_true, and_self, Nat.zero_add, Nat.add_zero, ge_iff_le, gt_iff_lt, List.filter_cons, List.filter_nil, List.replicate_zero, List.replicate_succ, List.reverse_cons, List.reverse_nil, Option.map_some, Option.map_none, ti3, ti26, ti28, hr, Int.toNat_natCast, getD_map h, encT_eq t.ks[i], Int.ofNat_lt, h]
    refine fun_ret (r := .int .i64 (cntT t.ks[i])) isfn46 ?_ fun hb => ?_
    · rw [← encT_eq]; simp only [j00, j01, j02, j03, j04, j05, j06, j07, j08, j09, j0a, j0b, j0c, j0d, j0e, j0f, j0g, j0h, j0i, j0j, j0k, j0l, j0m, j0n, j0o, j0p, j0q, j0r, j0s, j0t, j3k, j3l, j3m, j3n, j3o, j3p, setAll, j3q, j3r, j3s, j3t, j3u, j3v, j3w, j3x, j3y, j3z, j40, j41, j42, j43, j44, j45, j46, j47, j48, j49, j4a, j4b, j4c, j4d, j4e, j4f, j4g, j4h, j4i, j4j, j4k, j4l, j4m, j4n, j4o, j4p, j4q, j4r, j4s, j4t, j4u, j4v, j4w, j4x, j4y, j4z, j50, j51, j52, j53, j54, j55, j56, j57, Bool.not_true, Bool.not_false, Bool.true_and, Bool.and_true, Bool.false_and, Bool.and_false, Bool.true_or, Bool.or_true, Bool.false_or, Bool.or_false, cond_true, cond_false, aAllocN, aIndex, xLoad, xStore, xField, xFA, xIA, xLen, xMM, xAlloc, xIface, xInt, xStr, xIs, xBin, xAgg, xUn, xPick, xExt, knd, fls, ifc, isBoolK, isPtrK, isFuncK, isIfK, j58, j59, Nat.reduceBEq, eq_self, j5a, j5b, j5c, j5d, j5e, j5f, j5g, j5h, j5i, j5j, j5k, j5l, j5m, j5n, j5o, j5p, j5q, j5r, j5s, j5t, j5u, j5v, j5w, j5x, j5y, j5z, j60, j61, j62, j63, j64, j65, j66, j67, j68, j69, j6a, j6b, j6c, j6d, j6e, j6f, j6g, j6h, j6i, j6j, j6k, j6l, j6m, j6n, splice, List.size_toArray, decide_true, decide_false, Nat.reduceLeDiff, List.getD_cons_zero, List.getD_cons_succ, List.drop_succ_cons, List.drop_zero, List.take_succ_cons, List.take_zero, List.take_nil, List.drop_nil, Bool.false_eq_true, List.length_map, List.length_cons, List.length_nil, List.append_nil, List.nil_append, List.cons_append, List.getElem?_cons_succ, List.getElem?_cons_zero, List.length_append, List.set_cons_succ, List.set_cons_zero, List.map_cons, List.map_nil, if_true, if_false, Nat.reduceEqDiff, Nat.reduceAdd, Nat.reduceLT, reduceIte, true_and, and_true, and_self, Nat.zero_add, Nat.add_zero, ge_iff_le, gt_iff_lt, List.filter_cons, List.filter_nil, List.replicate_zero, List.replicate_succ, List.reverse_cons, List.reverse_nil, Option.map_some, Option.map_none, bare_encT]; exact spec46 _
    simp only [j00, j01, j02, j03, j04, j05, j06, j07, j08, j09, j0a, j0b, j0c, j0d, j0e, j0f, j0g, j0h, j0i, j0j, j0k, j0l, j0m, j0n, j0o, j0p, j0q, j0r, j0s, j0t, j3k, j3l, j3m, j3n, j3o, j3p, setAll, j3q, j3r, j3s, j3t, j3u, j3v, j3w, j3x, j3y, j3z, j40, j41, j42, j43, j44, j45, j46, j47, j48, j49, j4a, j4b, j4c, j4d, j4e, j4f, j4g, j4h, j4i, j4j, j4k, j4l, j4m, j4n, j4o, j4p, j4q, j4r, j4s, j4t, j4u, j4v, j4w, j4x, j4y, j4z, j50, j51, j52, j53, j54, j55, j56, j57, Bool.not_true, Bool.not_false, Bool.true_and, Bool.and_true, Bool.false_and, Bool.and_false, Bool.true_or, Bool.or_true, Bool.false_or, Bool.or_false, cond_true, cond_false, aAllocN, aIndex, xLoad, xStore, xField, xFA, xIA, xLen, xMM, xAlloc, xIface, xInt, xStr, xIs, xBin, xAgg, xUn, xPick, xExt, knd, fls, ifc, isBoolK, isPtrK, isFuncK, isIfK, j58, j59, Nat.reduceBEq, eq_self, j5a, j5b, j5c, j5d, j5e, j5f, j5g, j5h, j5i, j5j, j5k, j5l, j5m, j5n, j5o, j5p, j5q, j5r, j5s, j5t, j5u, j5v, j5w, j5x, j5y, j5z, j60, j61, j62, j63, j64, j65, j66, j67, j68, j69, j6a, j6b, j6c, j6d, j6e, j6f, j6g, j6h, j6i, j6j, j6k, j6l, j6m, j6n, splice, List.size_toArray, decide_true, decide_false, Nat.reduceLeDiff, List.getD_cons_zero, List.getD_cons_succ, List.drop_succ_cons, List.drop_zero, List.take_succ_cons, List.take_zero, List.take_nil, List.drop_nil, Bool.false_eq_true, List.length_map, List.length_cons, List.length_nil, List.append_nil, List.nil_append, List.cons_append, List.getElem?_cons_succ, List.getElem?_cons_zero, List.length_append, List.set_cons_succ, List.set_cons_zero, List.map_cons, List.map_nil, if_true, if_false, Nat.reduceEqDiff, Nat.reduceAdd, Nat.reduceLT, reduceIte, true_and, and_true, and_self, Nat.zero_add, Nat.add_zero, ge_iff_le, gt_iff_lt, List.filter_cons, List.filter_nil, List.replicate_zero, List.replicate_succ, List.reverse_cons, List.reverse_nil, Option.map_some, Option.map_none, ti3, wrapS i _ h hlen, aMax]
    exact ⟨i + 1, by omega, .all (by simp [foldl_take_succ _ _ _ _ h, wadd]), by omega⟩
  · simp only [j00, j01, j02, j03, j04, j05, j06, j07, j08, j09, j0a, j0b, j0c, j0d, j0e, j0f, j0g, j0h, j0i, j0j, j0k, j0l, j0m, j0n, j0o, j0p, j0q, j0r, j0s, j0t, j3k, j3l, j3m, j3n, j3o, j3p, setAll, j3q, j3r, j3s, j3t, j3u, j3v, j3w, j3x, j3y, j3z, j40, j41, j42, j43, j44, j45, j46, j47, j48, j49, j4a, j4b, j4c, j4d, j4e, j4f, j4g, j4h, j4i, j4j, j4k, j4l, j4m, j4n, j4o, j4p, j4q, j4r, j4s, j4t, j4u, j4v, j4w, j4x, j4y, j4z, j50, j51, j52, j53, j54, j55, j56, j57, Bool.not_true, Bool.not_false, Bool.true_and, Bool.and_true, Bool.false_and, Bool.and_false, Bool.true_or, Bool.or_true, Bool.false_or, Bool.or_false, cond_true, cond_false, aAllocN, aIndex, xLoad, xStore, xField, xFA, xIA, xLen, xMM, xAlloc, xIface, xInt, xStr, xIs, xBin, xAgg, xUn, xPick, xExt, knd, fls, ifc, isBoolK, isPtrK, isFuncK, isIfK, j58, j59, Nat.reduceBEq, eq_self, j5a, j5b, j5c, j5d, j5e, j5f, j5g, j5h, j5i, j5j, j5k, j5l, j5m, j5n, j5o, j5p, j5q, j5r, j5s, j5t, j5u, j5v, j5w, j5x, j5y, j5z, j60, j61, j62, j63, j64, j65, j66, j67, j68, j69, j6a, j6b, j6c, j6d, j6e, j6f, j6g, j6h, j6i, j6j, j6k, j6l, j6m, j6n, splice, List.size_toArray, decide_true, decide_false, Nat.reduceLeDiff, List.getD_cons_zero, List.getD_cons_succ, List.drop_succ_cons, List.drop_zero, List.take_succ_cons, List.take_zero, List.take_nil, List.drop_nil, Bool.false_eq_true, List.length_map, List.length_cons, List.length_nil, List.append_nil, List.nil_append, List.cons_append, List.getElem?_cons_succ, List.getElem?_cons_zero, List.length_append, List.set_cons_succ, List.set_cons_zero, List.map_cons, List.map_nil, if_true, if_false, Nat.reduceEqDiff, Nat.reduceAdd, Nat.reduceLT, reduceIte, true_and, and_true, and_self, Nat.zero_add, Nat.add_zero, ge_iff_le, gt_iff_lt, List.filter_cons, List.filter_nil, List.replicate_zero, List.replicate_succ, List.reverse_cons, List.reverse_nil, Option.map_some, Option.map_none, ti3, Int.ofNat_lt, h]
    refine kfin_ret (p := .int .i64 (cntT t)) ?_ rfl
    have : i = t.ks.length := by omega
    subst this
    simp [resV, rvOf, cntT_eq t]
termination_by SizeOf.sizeOf t
decreasing_by all_goals exact hsz

mutual
def slotT : Tr → Int
  | .mk g k t ats ks => slotTs (if g = outB then 1 else 0) ks
def slotTs (a : Int) : List Tr → Int
  | [] => a
  | t :: r => slotTs (wadd a (slotT t)) r
end
theorem slotTs_fold (a : Int) (l : List Tr) : slotTs a l = l.foldl (fun n k => wadd n (slotT k)) a := by
  induction l generalizing a with
  | nil => rfl
  | cons t r ih => rw [slotTs, ih]; rfl
theorem slotT_eq (t : Tr) : slotT t = t.ks.foldl (fun n k => wadd n (slotT k)) (if t.g = outB then 1 else 0) := by cases t; rw [slotT, slotTs_fold]; rfl

theorem spec22 (t : Tr) : PSpec Tryd.prog 22 [encT t] (.ret (.int .i64 (slotT t))) := by
  refine ispec_bd fun hbd => ispec22 ?_
  rw [encT_eq] at hbd ⊢
  simp only [PV.bdL, PV.bd, List.length_map, and_true] at hbd
  have hlen : t.ks.length ≤ 9223372036854775807 := by simp only [hbd]
  simp only [x22, enum, j00, j01, j02, j03, j04, j05, j06, j07, j08, j09, j0a, j0b, j0c, j0d, j0e, j0f, j0g, j0h, j0i, j0j, j0k, j0l, j0m, j0n, j0o, j0p, j0q, j0r, j0s, j0t, j3k, j3l, j3m, j3n, j3o, j3p, setAll, j3q, j3r, j3s, j3t, j3u, j3v, j3w, j3x, j3y, j3z, j40, j41, j42, j43, j44, j45, j46, j47, j48, j49, j4a, j4b, j4c, j4d, j4e, j4f, j4g, j4h, j4i, j4j, j4k, j4l, j4m, j4n, j4o, j4p, j4q, j4r, j4s, j4t, j4u, j4v, j4w, j4x, j4y, j4z, j50, j51, j52, j53, j54, j55, j56, j57, Bool.not_true, Bool.not_false, Bool.true_and, Bool.and_true, Bool.false_and, Bool.and_false, Bool.true_or, Bool.or_true, Bool.false_or, Bool.or_false, cond_true, cond_false, aAllocN, aIndex, xLoad, xStore, xField, xFA, xIA, xLen, xMM, xAlloc, xIface, xInt, xStr, xIs, xBin, xAgg, xUn, xPick, xExt, knd, fls, ifc, isBoolK, isPtrK, isFuncK, isIfK, j58, j59, Nat.reduceBEq, eq_self, j5a, j5b, j5c, j5d, j5e, j5f, j5g, j5h, j5i, j5j, j5k, j5l, j5m, j5n, j5o, j5p, j5q, j5r, j5s, j5t, j5u, j5v, j5w, j5x, j5y, j5z, j60, j61, j62, j63, j64, j65, j66, j67, j68, j69, j6a, j6b, j6c, j6d, j6e, j6f, j6g, j6h, j6i, j6j, j6k, j6l, j6m, j6n, splice, List.size_toArray, decide_true, decide_false, Nat.reduceLeDiff, List.getD_cons_zero, List.getD_cons_succ, List.drop_succ_cons, List.drop_zero, List.take_succ_cons, List.take_zero, List.take_nil, List.drop_nil, Bool.false_eq_true, List.length_map, List.length_cons, List.length_nil, List.append_nil, List.nil_append, List.cons_append, List.getElem?_cons_succ, List.getElem?_cons_zero, List.length_append, List.set_cons_succ, List.set_cons_zero, List.map_cons, List.map_nil, if_true, if_false, Nat.reduceEqDiff, Nat.reduceAdd, Nat.reduceLT, reduceIte, true_and, and_true, and_self, Nat.zero_add, Nat.add_zero, ge_iff_le, gt_iff_lt, List.filter_cons, List.filter_nil, List.replicate_zero, List.replicate_succ, List.reverse_cons, List.reverse_nil, Option.map_some, Option.map_none, ti28, ti26, ti9, ti3, outB_def, const_outB]
  by_cases hc : t.g = outB
  all_goals simp only [hc, j00, j01, j02, j03, j04, j05, j06, j07, j08, j09, j0a, j0b, j0c, j0d, j0e, j0f, j0g, j0h, j0i, j0j, j0k, j0l, j0m, j0n, j0o, j0p, j0q, j0r, j0s, j0t, j3k, j3l, j3m, j3n, j3o, j3p, setAll, j3q, j3r, j3s, j3t, j3u, j3v, j3w, j3x, j3y, j3z, j40, j41, j42, j43, j44, j45, j46, j47, j48, j49, j4a, j4b, j4c, j4d, j4e, j4f, j4g, j4h, j4i, j4j, j4k, j4l, j4m, j4n, j4o, j4p, j4q, j4r, j4s, j4t, j4u, j4v, j4w, j4x, j4y, j4z, j50, j51, j52, j53, j54, j55, j56, j57, Bool.not_true, Bool.not_false, Bool.true_and, Bool.and_true, Bool.false_and, Bool.and_false, Bool.true_or, Bool.or_true, Bool.false_or, Bool.or_false, cond_true, cond_false, aAllocN, aIndex, xLoad, xStore, xField, xFA, xIA, xLen, xMM, xAlloc, xIface, xInt, xStr, xIs, xBin, xAgg, xUn, xPick, xExt, knd, fls, ifc, isBoolK, isPtrK, isFuncK, isIfK, j58, j59, Nat.reduceBEq, eq_self, j5a, j5b, j5c, j5d, j5e, j5f, j5g, j5h, j5i, j5j, j5k, j5l, j5m, j5n, j5o, j5p, j5q, j5r, j5s, j5t, j5u, j5v, j5w, j5x, j5y, j5z, j60, j61, j62, j63, j64, j65, j66, j67, j68, j69, j6a, j6b, j6c, j6d, j6e, j6f, j6g, j6h, j6i, j6j, j6k, j6l, j6m, j6n, splice, List.size_toArray, decide_true, decide_false, Nat.reduceLeDiff, List.getD_cons_zero, List.getD_cons_succ, List.drop_succ_cons, List.drop_zero, List.take_succ_cons, List.take_zero, List.take_nil, List.drop_nil, Bool.false_eq_true, List.length_map, List.length_cons, List.length_nil, List.append_nil, List.nil_append, List.cons_append, List.getElem?_cons_succ, List.getElem?_cons_zero, List.length_append, List.set_cons_succ, List.set_cons_zero, List.map_cons, List.map_nil, if_true, if_false, Nat.reduceEqDiff, Nat.reduceAdd, Nat.reduceLT, reduceIte, true_and, and_true, and_self, Nat.zero_add, Nat.add_zero, ge_iff_le, gt_iff_lt, List.filter_cons, List.filter_nil, List.replicate_zero, List.replicate_succ, List.reverse_cons, List.reverse_nil, Option.map_some, Option.map_none, ti28, ti26, ti9, ti3]
  all_goals clear hbd
  all_goals
    refine aw_loop (fun i : Nat => ⟨[(12, .int .i64 i), (11, .int .i64 t.ks.length), (10, .slice .dead (t.ks.map encT)), (3, .int .i64 ((t.ks.take i).foldl (fun n k => wadd n (slotT k)) (if t.g = outB then 1 else 0)))], []⟩) (fun i => i ≤ t.ks.length) (fun i => t.ks.length - i) 0 (by simp) (.all (by simp [hc])) ?_
    intro i hi
    by_cases h : i < t.ks.length
    · have hr : (0 : Int) ≤ (i : Int) := by omega
      have hsz := Tr.size_ks t t.ks[i] (List.getElem_mem h)
      simp only [j00, j01, j02, j03, j04, j05, j06, j07, j08, j09, j0a, j0b, j0c, j0d, j0e, j0f, j0g, j0h, j0i, j0j, j0k, j0l, j0m, j0n, j0o, j0p, j0q, j0r, j0s, j0t, j3k, j3l, j3m, j3n, j3o, j3p, setAll, j3q, j3r, j3s, j3t, j3u, j3v, j3w, j3x, j3y, j3z, j40, j41, j42, j43, j44, j45, j46, j47, j48, j49, j4a, j4b, j4c, j4d, j4e, j4f, j4g, j4h, j4i, j4j, j4k, j4l, j4m, j4n, j4o, j4p, j4q, j4r, j4s, j4t, j4u, j4v, j4w, j4x, j4y, j4z, j50, j51, j52, j53, j54, j55, j56, j57, Bool.not_true, Bool.not_false, Bool.true_and, Bool.and_true, Bool.false_and, Bool.and_false, Bool.true_or, Bool.or_true, Bool.false_or, Bool.or_false, cond_true, cond_false, aAllocN, aIndex, xLoad, xStore, xField, xFA, xIA, xLen, xMM, xAlloc, xIface, xInt, xStr, xIs, xBin, xAgg, xUn, xPick, xExt, knd, fls, ifc, isBoolK, isPtrK, isFuncK, isIfK, j58, j59, Nat.reduceBEq, eq_self, j5a, j5b, j5c, j5d, j5e, j5f, j5g, j5h, j5i, j5j, j5k, j5l, j5m, j5n, j5o, j5p, j5q, j5r, j5s, j5t, j5u, j5v, j5w, j5x, j5y, j5z, j60, j61, j62, j63, j64, j65, j66, j67, j68, j69, j6a, j6b, j6c, j6d, j6e, j6f, j6g, j6h, j6i, j6j, j6k, j6l, j6m, j6n, splice, List.size_toArray, decide_true, decide_false, Nat.reduceLeDiff, List.getD_cons_zero, List.getD_cons_succ, List.drop_succ_cons, List.drop_zero, List.take_succ_cons, List.take_zero, List.take_nil, List.drop_nil, Bool.false_eq_true, List.length_map, List.length_cons, List.length_nil, List.append_nil, List.nil_append, List.cons_append, List.getElem?_cons_succ, List.getElem?_cons_zero, List.length_append, List.set_cons_succ, List.set_cons_zero, List.map_cons, List.map_nil, if_true, if_false, Nat.reduceEqDiff, Nat.reduceAdd, Nat.reduceLT, reduceIte, true_and, and_true, and_self, Nat.zero_add, Nat.add_zero, ge_iff_le, gt_iff_lt, List.filter_cons, List.filter_nil, List.replicate_zero, List.replicate_succ, List.reverse_cons, List.reverse_nil, Option.map_some, Option.map_none, ti3, ti26, ti28, hr, Int.toNat_natCast, getD_map h, encT_eq t.ks[i], Int.ofNat_lt, h]
      refine fun_ret (r := .int .i64 (slotT t.ks[i])) isfn22 ?_ fun hb => ?_
      · rw [← encT_eq]; simp only [j00, j01, j02, j03, j04, j05, j06, j07, j08, j09, j0a, j0b, j0c, j0d, j0e, j0f, j0g, j0h, j0i, j0j, j0k, j0l, j0m, j0n, j0o, j0p, j0q, j0r, j0s, j0t, j3k, j3l, j3m, j3n, j3o, j3p, setAll, j3q, j3r, j3s, j3t, j3u, j3v, j3w, j3x, j3y, j3z, j40, j41, j42, j43, j44, j45, j46, j47, j48, j49, j4a, j4b, j4c, j4d, j4e, j4f, j4g, j4h, j4i, j4j, j4k, j4l, j4m, j4n, j4o, j4p, j4q, j4r, j4s, j4t, j4u, j4v, j4w, j4x, j4y, j4z, j50, j51, j52, j53, j54, j55, j56, j57, Bool.not_true, Bool.not_false, Bool.true_and, Bool.and_true, Bool.false_and, Bool.and_false, Bool.true_or, Bool.or_true, Bool.false_or, Bool.or_false, cond_true, cond_false, aAllocN, aIndex, xLoad, xStore, xField, xFA, xIA, xLen, xMM, xAlloc, xIface, xInt, xStr, xIs, xBin, xAgg, xUn, xPick, xExt, knd, fls, ifc, isBoolK, isPtrK, isFuncK, isIfK, j58, j59, Nat.reduceBEq, eq_self, j5a, j5b, j5c, j5d, j5e, j5f, j5g, j5h, j5i, j5j, j5k, j5l, j5m, j5n, j5o, j5p, j5q, j5r, j5s, j5t, j5u, j5v, j5w, j5x, j5y, j5z, j60, j61, j62, j63, j64, j65, j66, j67, j68, j69, j6a, j6b, j6c, j6d, j6e, j6f, j6g, j6h, j6i, j6j, j6k, j6l, j6m, j6n, splice, List.size_toArray, decide_true, decide_false, Nat.reduceLeDiff, List.getD_cons_zero, List.getD_cons_succ, List.drop_succ_cons, List.drop_zero, List.take_succ_cons, List.take_zero, List.take_nil, List.drop_nil, Bool.false_eq_true, List.length_map, List.length_cons, List.length_nil, List.append_nil, List.nil_append, List.cons_append, List.getElem?_cons_succ, List.getElem?_cons_zero, List.length_append, List.set_cons_succ, List.set_cons_zero, List.map_cons, List.map_nil, if_true, if_false, Nat.reduceEqDiff, Nat.reduceAdd, Nat.reduceLT, reduceIte, true_and, and_true, and_self, Nat.zero_add, Nat.add_zero, ge_iff_le, gt_iff_lt, List.filter_cons, List.filter_nil, List.replicate_zero, List.replicate_succ, List.reverse_cons, List.reverse_nil, Option.map_some, Option.map_none, bare_encT]; exact spec22 _
      simp only [j00, j01, j02, j03, j04, j05, j06, j07, j08, j09, j0a, j0b, j0c, j0d, j0e, j0f, j0g, j0h, j0i, j0j, j0k, j0l, j0m, j0n, j0o, j0p, j0q, j0r, j0s, j0t, j3k, j3l, j3m, j3n, j3o, j3p, setAll, j3q, j3r, j3s, j3t, j3u, j3v, j3w, j3x, j3y, j3z, j40, j41, j42, j43, j44, j45, j46, j47, j48, j49, j4a, j4b, j4c, j4d, j4e, j4f, j4g, j4h, j4i, j4j, j4k, j4l, j4m, j4n, j4o, j4p, j4q, j4r, j4s, j4t, j4u, j4v, j4w, j4x, j4y, j4z, j50, j51, j52, j53, j54, j55, j56, j57, Bool.not_true, Bool.not_false, Bool.true_and, Bool.and_true, Bool.false_and, Bool.and_false, Bool.true_or, Bool.or_true, Bool.false_or, Bool.or_false, cond_true, cond_false, aAllocN, aIndex, xLoad, xStore, xField, xFA, xIA, xLen, xMM, xAlloc, xIface, xInt, xStr, xIs, xBin, xAgg, xUn, xPick, xExt, knd, fls, ifc, isBoolK, isPtrK, isFuncK, isIfK, j58, j59, Nat.reduceBEq, eq_self, j5a, j5b, j5c, j5d, j5e, j5f, j5g, j5h, j5i, j5j, j5k, j5l, j5m, j5n, j5o, j5p, j5q, j5r, j5s, j5t, j5u, j5v, j5w, j5x, j5y, j5z, j60, j61, j62, j63, j64, j65, j66, j67, j68, j69, j6a, j6b, j6c, j6d, j6e, j6f, j6g, j6h, j6i, j6j, j6k, j6l, j6m, j6n, splice, List.size_toArray, decide_true, decide_false, Nat.reduceLeDiff, List.getD_cons_zero, List.getD_cons_succ, List.drop_succ_cons, List.drop_zero, List.take_succ_cons, List.take_zero, List.take_nil, List.drop_nil, Bool.false_eq_true, List.length_map, List.length_cons, List.length_nil, List.append_nil, List.nil_append, List.cons_append, List.getElem?_cons_succ, List.getElem?_cons_zero, List.length_append, List.set_cons_succ, List.set_cons_zero, List.map_cons, List.map_nil, if_true, if_false, Nat.reduceEqDiff, Nat.reduceAdd, Nat.reduceLT, reduceIte, true_and, and_true, and_self, Nat.zero_add, Nat.add_zero, ge_iff_le, gt_iff_lt, List.filter_cons, List.filter_nil, List.replicate_zero, List.replicate_succ, List.reverse_cons, List.reverse_nil, Option.map_some, Option.map_none, ti3, wrapS i _ h hlen, aMax]
      exact ⟨i + 1, by omega, .all (by simp [foldl_take_succ _ _ _ _ h, wadd]), by omega⟩
    · simp only [j00, j01, j02, j03, j04, j05, j06, j07, j08, j09, j0a, j0b, j0c, j0d, j0e, j0f, j0g, j0h, j0i, j0j, j0k, j0l, j0m, j0n, j0o, j0p, j0q, j0r, j0s, j0t, j3k, j3l, j3m, j3n, j3o, j3p, setAll, j3q, j3r, j3s, j3t, j3u, j3v, j3w, j3x, j3y, j3z, j40, j41, j42, j43, j44, j45, j46, j47, j48, j49, j4a, j4b, j4c, j4d, j4e, j4f, j4g, j4h, j4i, j4j, j4k, j4l, j4m, j4n, j4o, j4p, j4q, j4r, j4s, j4t, j4u, j4v, j4w, j4x, j4y, j4z, j50, j51, j52, j53, j54, j55, j56, j57, Bool.not_true, Bool.not_false, Bool.true_and, Bool.and_true, Bool.false_and, Bool.and_false, Bool.true_or, Bool.or_true, Bool.false_or, Bool.or_false, cond_true, cond_false, aAllocN, aIndex, xLoad, xStore, xField, xFA, xIA, xLen, xMM, xAlloc, xIface, xInt, xStr, xIs, xBin, xAgg, xUn, xPick, xExt, knd, fls, ifc, isBoolK, isPtrK, isFuncK, isIfK, j58, j59, Nat.reduceBEq, eq_self, j5a, j5b, j5c, j5d, j5e, j5f, j5g, j5h, j5i, j5j, j5k, j5l, j5m, j5n, j5o, j5p, j5q, j5r, j5s, j5t, j5u, j5v, j5w, j5x, j5y, j5z, j60, j61, j62, j63, j64, j65, j66, j67, j68, j69, j6a, j6b, j6c, j6d, j6e, j6f, j6g, j6h, j6i, j6j, j6k, j6l, j6m, j6n, splice, List.size_toArray, decide_true, decide_false, Nat.reduceLeDiff, List.getD_cons_zero, List.getD_cons_succ, List.drop_succ_cons, List.drop_zero, List.take_succ_cons, List.take_zero, List.take_nil, List.drop_nil, Bool.false_eq_true, List.length_map, List.length_cons, List.length_nil, List.append_nil, List.nil_append, List.cons_append, List.getElem?_cons_succ, List.getElem?_cons_zero, List.length_append, List.set_cons_succ, List.set_cons_zero, List.map_cons, List.map_nil, if_true, if_false, Nat.reduceEqDiff, Nat.reduceAdd, Nat.reduceLT, reduceIte, true_and, and_true, and_self, Nat.zero_add, Nat.add_zero, ge_iff_le, gt_iff_lt, List.filter_cons, List.filter_nil, List.replicate_zero, List.replicate_succ, List.reverse_cons, List.reverse_nil, Option.map_some, Option.map_none, ti3, Int.ofNat_lt, h]
      refine kfin_ret (p := .int .i64 (slotT t)) ?_ rfl
      have : i = t.ks.length := by omega
      subst this
      simp [resV, rvOf, slotT_eq t]
termination_by SizeOf.sizeOf t
decreasing_by all_goals exact hsz

mutual
def slotP : Tp → Int
  | .mk c n g t ats ks => slotPs (if c = 7 then 1 else 0) ks
def slotPs (a : Int) : List Tp → Int
  | [] => a
  | t :: r => slotPs (wadd a (slotP t)) r
end
theorem slotPs_fold (a : Int) (l : List Tp) : slotPs a l = l.foldl (fun n k => wadd n (slotP k)) a := by
  induction l generalizing a with
  | nil => rfl
  | cons t r ih => rw [slotPs, ih]; rfl
theorem slotP_eq (t : Tp) : slotP t = t.ks.foldl (fun n k => wadd n (slotP k)) (if t.c = 7 then 1 else 0) := by cases t; rw [slotP, slotPs_fold]; rfl

theorem spec17 (t : Tp) : PSpec Tryd.prog 17 [encP t] (.ret (.int .i64 (slotP t))) := by
  refine ispec_bd fun hbd => ispec17 ?_
  rw [encP_eq] at hbd ⊢
  simp only [PV.bdL, PV.bd, List.length_map, and_true] at hbd
  have hlen : t.ks.length ≤ 9223372036854775807 := by simp only [hbd]
  simp only [x17, enum, j00, j01, j02, j03, j04, j05, j06, j07, j08, j09, j0a, j0b, j0c, j0d, j0e, j0f, j0g, j0h, j0i, j0j, j0k, j0l, j0m, j0n, j0o, j0p, j0q, j0r, j0s, j0t, j3k, j3l, j3m, j3n, j3o, j3p, setAll, j3q, j3r, j3s, j3t, j3u, j3v, j3w, j3x, j3y, j3z, j40, j41, j42, j43, j44, j45, j46, j47, j48, j49, j4a, j4b, j4c, j4d, j4e, j4f, j4g, j4h, j4i, j4j, j4k, j4l, j4m, j4n, j4o, j4p, j4q, j4r, j4s, j4t, j4u, j4v, j4w, j4x, j4y, j4z, j50, j51, j52, j53, j54, j55, j56, j57, Bool.not_true, Bool.not_false, Bool.true_and, Bool.and_true, Bool.false_and, Bool.and_false, Bool.true_or, Bool.or_true, Bool.false_or, Bool.or_false, cond_true, cond_false, aAllocN, aIndex, xLoad, xStore, xField, xFA, xIA, xLen, xMM, xAlloc, xIface, xInt, xStr, xIs, xBin, xAgg, xUn, xPick, xExt, knd, fls, ifc, isBoolK, isPtrK, isFuncK, isIfK, j58, j59, Nat.reduceBEq, eq_self, j5a, j5b, j5c, j5d, j5e, j5f, j5g, j5h, j5i, j5j, j5k, j5l, j5m, j5n, j5o, j5p, j5q, j5r, j5s, j5t, j5u, j5v, j5w, j5x, j5y, j5z, j60, j61, j62, j63, j64, j65, j66, j67, j68, j69, j6a, j6b, j6c, j6d, j6e, j6f, j6g, j6h, j6i, j6j, j6k, j6l, j6m, j6n, splice, List.size_toArray, decide_true, decide_false, Nat.reduceLeDiff, List.getD_cons_zero, List.getD_cons_succ, List.drop_succ_cons, List.drop_zero, List.take_succ_cons, List.take_zero, List.take_nil, List.drop_nil, Bool.false_eq_true, List.length_map, List.length_cons, List.length_nil, List.append_nil, List.nil_append, List.cons_append, List.getElem?_cons_succ, List.getElem?_cons_zero, List.length_append, List.set_cons_succ, List.set_cons_zero, List.map_cons, List.map_nil, if_true, if_false, Nat.reduceEqDiff, Nat.reduceAdd, Nat.reduceLT, reduceIte, true_and, and_true, and_self, Nat.zero_add, Nat.add_zero, ge_iff_le, gt_iff_lt, List.filter_cons, List.filter_nil, List.replicate_zero, List.replicate_succ, List.reverse_cons, List.reverse_nil, Option.map_some, Option.map_none, ti25, ti23, ti9, ti3, outB_def, const_outB]
  by_cases hc : t.c = 7
  all_goals simp only [hc, j00, j01, j02, j03, j04, j05, j06, j07, j08, j09, j0a, j0b, j0c, j0d, j0e, j0f, j0g, j0h, j0i, j0j, j0k, j0l, j0m, j0n, j0o, j0p, j0q, j0r, j0s, j0t, j3k, j3l, j3m, j3n, j3o, j3p, setAll, j3q, j3r, j3s, j3t, j3u, j3v, j3w, j3x, j3y, j3z, j40, j41, j42, j43, j44, j45, j46, j47, j48, j49, j4a, j4b, j4c, j4d, j4e, j4f, j4g, j4h, j4i, j4j, j4k, j4l, j4m, j4n, j4o, j4p, j4q, j4r, j4s, j4t, j4u, j4v, j4w, j4x, j4y, j4z, j50, j51, j52, j53, j54, j55, j56, j57, Bool.not_true, Bool.not_false, Bool.true_and, Bool.and_true, Bool.false_and, Bool.and_false, Bool.true_or, Bool.or_true, Bool.false_or, Bool.or_false, cond_true, cond_false, aAllocN, aIndex, xLoad, xStore, xField, xFA, xIA, xLen, xMM, xAlloc, xIface, xInt, xStr, xIs, xBin, xAgg, xUn, xPick, xExt, knd, fls, ifc, isBoolK, isPtrK, isFuncK, isIfK, j58, j59, Nat.reduceBEq, eq_self, j5a, j5b, j5c, j5d, j5e, j5f, j5g, j5h, j5i, j5j, j5k, j5l, j5m, j5n, j5o, j5p, j5q, j5r, j5s, j5t, j5u, j5v, j5w, j5x, j5y, j5z, j60, j61, j62, j63, j64, j65, j66, j67, j68, j69, j6a, j6b, j6c, j6d, j6e, j6f, j6g, j6h, j6i, j6j, j6k, j6l, j6m, j6n, splice, List.size_toArray, decide_true, decide_false, Nat.reduceLeDiff, List.getD_cons_zero, List.getD_cons_succ, List.drop_succ_cons, List.drop_zero, List.take_succ_cons, List.take_zero, List.take_nil, List.drop_nil, Bool.false_eq_true, List.length_map, List.length_cons, List.length_nil, List.append_nil, List.nil_append, List.cons_append, List.getElem?_cons_succ, List.getElem?_cons_zero, List.length_append, List.set_cons_succ, List.set_cons_zero, List.map_cons, List.map_nil, if_true, if_false, Nat.reduceEqDiff, Nat.reduceAdd, Nat.reduceLT, reduceIte, true_and, and_true, and_self, Nat.zero_add, Nat.add_zero, ge_iff_le, gt_iff_lt, List.filter_cons, List.filter_nil, List.replicate_zero, List.replicate_succ, List.reverse_cons, List.reverse_nil, Option.map_some, Option.map_none, ti25, ti23, ti9, ti3]
  all_goals clear hbd
  all_goals
    refine aw_loop (fun i : Nat => ⟨[(12, .int .i64 i), (11, .int .i64 t.ks.length), (10, .slice .dead (t.ks.map encP)), (3, .int .i64 ((t.ks.take i).foldl (fun n k => wadd n (slotP k)) (if t.c = 7 then 1 else 0)))], []⟩) (fun i => i ≤ t.ks.length) (fun i => t.ks.length - i) 0 (by simp) (.all (by simp [hc])) ?_
    intro i hi
    by_cases h : i < t.ks.length
    · have hr : (0 : Int) ≤ (i : Int) := by omega
      have hsz := Tp.size_ks t t.ks[i] (List.getElem_mem h)
      simp only [j00, j01, j02, j03, j04, j05, j06, j07, j08, j09, j0a, j0b, j0c, j0d, j0e, j0f, j0g, j0h, j0i, j0j, j0k, j0l, j0m, j0n, j0o, j0p, j0q, j0r, j0s, j0t, j3k, j3l, j3m, j3n, j3o, j3p, setAll, j3q, j3r, j3s, j3t, j3u, j3v, j3w, j3x, j3y, j3z, j40, j41, j42, j43, j44, j45, j46, j47, j48, j49, j4a, j4b, j4c, j4d, j4e, j4f, j4g, j4h, j4i, j4j, j4k, j4l, j4m, j4n, j4o, j4p, j4q, j4r, j4s, j4t, j4u, j4v, j4w, j4x, j4y, j4z, j50, j51, j52, j53, j54, j55, j56, j57, Bool.not_true, Bool.not_false, Bool.true_and, Bool.and_true, Bool.false_and, Bool.and_false, Bool.true_or, Bool.or_true, Bool.false_or, Bool.or_false, cond_true, cond_false, aAllocN, aIndex, xLoad, xStore, xField, xFA, xIA, xLen, xMM, xAlloc, xIface, xInt, xStr, xIs, xBin, xAgg, xUn, xPick, xExt, knd, fls, ifc, isBoolK, isPtrK, isFuncK, isIfK, j58, j59, Nat.reduceBEq, eq_self, j5a, j5b, j5c, j5d, j5e, j5f, j5g, j5h, j5i, j5j, j5k, j5l, j5m, j5n, j5o, j5p, j5q, j5r, j5s, j5t, j5u, j5v, j5w, j5x, j5y, j5z, j60, j61, j62, j63, j64, j65, j66, j67, j68, j69, j6a, j6b, j6c, j6d, j6e, j6f, j6g, j6h, j6i, j6j, j6k, j6l, j6m, j6n, splice, List.size_toArray, decide_true, decide_false, Nat.reduceLeDiff, List.getD_cons_zero, List.getD_cons_succ, List.drop_succ_cons, List.drop_zero, List.take_succ_cons, List.take_zero, List.take_nil, List.drop_nil, Bool.false_eq_true, List.length_map, List.length_cons, List.length_nil, List.append_nil, List.nil_append, List.cons_append, List.getElem?_cons_succ, List.getElem?_cons_zero, List.length_append, List.set_cons_succ, List.set_cons_zero, List.map_cons, List.map_nil, if_true, if_false, Nat.reduceEqDiff, Nat.reduceAdd, Nat.reduceLT, reduceIte, true_and, and_true, and_self, Nat.zero_add, Nat.add_zero, ge_iff_le, gt_iff_lt, List.filter_cons, List.filter_nil, List.replicate_zero, List.replicate_succ, List.reverse_cons, List.reverse_nil, Option.map_some, Option.map_none, ti3, ti23, ti25, hr, Int.toNat_natCast, getD_map h, encP_eq t.ks[i], Int.ofNat_lt, h]
      refine fun_ret (r := .int .i64 (slotP t.ks[i])) isfn17 ?_ fun hb => ?_
      · rw [← encP_eq]; simp only [j00, j01, j02, j03, j04, j05, j06, j07, j08, j09, j0a, j0b, j0c, j0d, j0e, j0f, j0g, j0h, j0i, j0j, j0k, j0l, j0m, j0n, j0o, j0p, j0q, j0r, j0s, j0t, j3k, j3l, j3m, j3n, j3o, j3p, setAll, j3q, j3r, j3s, j3t, j3u, j3v, j3w, j3x, j3y, j3z, j40, j41, j42, j43, j44, j45, j46, j47, j48, j49, j4a, j4b, j4c, j4d, j4e, j4f, j4g, j4h, j4i, j4j, j4k, j4l, j4m, j4n, j4o, j4p, j4q, j4r, j4s, j4t, j4u, j4v, j4w, j4x, j4y, j4z, j50, j51, j52, j53, j54, j55, j56, j57, Bool.not_true, Bool.not_false, Bool.true_and, Bool.and_true, Bool.false_and, Bool.and_false, Bool.true_or, Bool.or_true, Bool.false_or, Bool.or_false, cond_true, cond_false, aAllocN, aIndex, xLoad, xStore, xField, xFA, xIA, xLen, xMM, xAlloc, xIface, xInt, xStr, xIs, xBin, xAgg, xUn, xPick, xExt, knd, fls, ifc, isBoolK, isPtrK, isFuncK, isIfK, j58, j59, Nat.reduceBEq, eq_self, j5a, j5b, j5c, j5d, j5e, j5f, j5g, j5h, j5i, j5j, j5k, j5l, j5m, j5n, j5o, j5p, j5q, j5r, j5s, j5t, j5u, j5v, j5w, j5x, j5y, j5z, j60, j61, j62, j63, j64, j65, j66, j67, j68, j69, j6a, j6b, j6c, j6d, j6e, j6f, j6g, j6h, j6i, j6j, j6k, j6l, j6m, j6n, splice, List.size_toArray, decide_true, decide_false, Nat.reduceLeDiff, List.getD_cons_zero, List.getD_cons_succ, List.drop_succ_cons, List.drop_zero, List.take_succ_cons, List.take_zero, List.take_nil, List.drop_nil, Bool.false_eq_true, List.length_map, List.length_cons, List.length_nil, List.append_nil, List.nil_append, List.cons_append, List.getElem?_cons_succ, List.getElem?_cons_zero, List.length_append, List.set_cons_succ, List.set_cons_zero, List.map_cons, List.map_nil, if_true, if_false, Nat.reduceEqDiff, Nat.reduceAdd, Nat.reduceLT, reduceIte, true_and, and_true, and_self, Nat.zero_add, Nat.add_zero, ge_iff_le, gt_iff_lt, List.filter_cons, List.filter_nil, List.replicate_zero, List.replicate_succ, List.reverse_cons, List.reverse_nil, Option.map_some, Option.map_none, bare_encP]; exact spec17 _
      simp only [j00, j01, j02, j03, j04, j05, j06, j07, j08, j09, j0a, j0b, j0c, j0d, j0e, j0f, j0g, j0h, j0i, j0j, j0k, j0l, j0m, j0n, j0o, j0p, j0q, j0r, j0s, j0t, j3k, j3l, j3m, j3n, j3o, j3p, setAll, j3q, j3r, j3s, j3t, j3u, j3v, j3w, j3x, j3y, j3z, j40, j41, j42, j43, j44, j45, j46, j47, j48, j49, j4a, j4b, j4c, j4d, j4e, j4f, j4g, j4h, j4i, j4j, j4k, j4l, j4m, j4n, j4o, j4p, j4q, j4r, j4s, j4t, j4u, j4v, j4w, j4x, j4y, j4z, j50, j51, j52, j53, j54, j55, j56, j57, Bool.not_true, Bool.not_false, Bool.true_and, Bool.and_true, Bool.false_and, Bool.and_false, Bool.true_or, Bool.or_true, Bool.false_or, Bool.or_false, cond_true, cond_false, aAllocN, aIndex, xLoad, xStore, xField, xFA, xIA, xLen, xMM, xAlloc, xIface, xInt, xStr, xIs, xBin, xAgg, xUn, xPick, xExt, knd, fls, ifc, isBoolK, isPtrK, isFuncK, isIfK, j58, j59, Nat.reduceBEq, eq_self, j5a, j5b, j5c, j5d, j5e, j5f, j5g, j5h, j5i, j5j, j5k, j5l, j5m, j5n, j5o, j5p, j5q, j5r, j5s, j5t, j5u, j5v, j5w, j5x, j5y, j5z, j60, j61, j62, j63, j64, j65, j66, j67, j68, j69, j6a, j6b, j6c, j6d, j6e, j6f, j6g, j6h, j6i, j6j, j6k, j6l, j6m, j6n, splice, List.size_toArray, decide_true, decide_false, Nat.reduceLeDiff, List.getD_cons_zero, List.getD_cons_succ, List.drop_succ_cons, List.drop_zero, List.take_succ_cons, List.take_zero, List.take_nil, List.drop_nil, Bool.false_eq_true, List.length_map, List.length_cons, List.length_nil, List.append_nil, List.nil_append, List.cons_append, List.getElem?_cons_succ, List.getElem?_cons_zero, List.length_append, List.set_cons_succ, List.set_cons_zero, List.map_cons, List.map_nil, if_true, if_false, Nat.reduceEqDiff, Nat.reduceAdd, Nat.reduceLT, reduceIte, true_and, and_true, and_self, Nat.zero_add, Nat.add_zero, ge_iff_le, gt_iff_lt, List.filter_cons, List.filter_nil, List.replicate_zero, List.replicate_succ, List.reverse_cons, List.reverse_nil, Option.map_some, Option.map_none, ti3, wrapS i _ h hlen, aMax]
      exact ⟨i + 1, by omega, .all (by simp [foldl_take_succ _ _ _ _ h, wadd]), by omega⟩
    · simp only [j00, j01, j02, j03, j04, j05, j06, j07, j08, j09, j0a, j0b, j0c, j0d, j0e, j0f, j0g, j0h, j0i, j0j, j0k, j0l, j0m, j0n, j0o, j0p, j0q, j0r, j0s, j0t, j3k, j3l, j3m, j3n, j3o, j3p, setAll, j3q, j3r, j3s, j3t, j3u, j3v, j3w, j3x, j3y, j3z, j40, j41, j42, j43, j44, j45, j46, j47, j48, j49, j4a, j4b, j4c, j4d, j4e, j4f, j4g, j4h, j4i, j4j, j4k, j4l, j4m, j4n, j4o, j4p, j4q, j4r, j4s, j4t, j4u, j4v, j4w, j4x, j4y, j4z, j50, j51, j52, j53, j54, j55, j56, j57, Bool.not_true, Bool.not_false, Bool.true_and, Bool.and_true, Bool.false_and, Bool.and_false, Bool.true_or, Bool.or_true, Bool.false_or, Bool.or_false, cond_true, cond_false, aAllocN, aIndex, xLoad, xStore, xField, xFA, xIA, xLen, xMM, xAlloc, xIface, xInt, xStr, xIs, xBin, xAgg, xUn, xPick, xExt, knd, fls, ifc, isBoolK, isPtrK, isFuncK, isIfK, j58, j59, Nat.reduceBEq, eq_self, j5a, j5b, j5c, j5d, j5e, j5f, j5g, j5h, j5i, j5j, j5k, j5l, j5m, j5n, j5o, j5p, j5q, j5r, j5s, j5t, j5u, j5v, j5w, j5x, j5y, j5z, j60, j61, j62, j63, j64, j65, j66, j67, j68, j69, j6a, j6b, j6c, j6d, j6e, j6f, j6g, j6h, j6i, j6j, j6k, j6l, j6m, j6n, splice, List.size_toArray, decide_true, decide_false, Nat.reduceLeDiff, List.getD_cons_zero, List.getD_cons_succ, List.drop_succ_cons, List.drop_zero, List.take_succ_cons, List.take_zero, List.take_nil, List.drop_nil, Bool.false_eq_true, List.length_map, List.length_cons, List.length_nil, List.append_nil, List.nil_append, List.cons_append, List.getElem?_cons_succ, List.getElem?_cons_zero, List.length_append, List.set_cons_succ, List.set_cons_zero, List.map_cons, List.map_nil, if_true, if_false, Nat.reduceEqDiff, Nat.reduceAdd, Nat.reduceLT, reduceIte, true_and, and_true, and_self, Nat.zero_add, Nat.add_zero, ge_iff_le, gt_iff_lt, List.filter_cons, List.filter_nil, List.replicate_zero, List.replicate_succ, List.reverse_cons, List.reverse_nil, Option.map_some, Option.map_none, ti3, Int.ofNat_lt, h]
      refine kfin_ret (p := .int .i64 (slotP t)) ?_ rfl
      have : i = t.ks.length := by omega
      subst this
      simp [resV, rvOf, slotP_eq t]
termination_by SizeOf.sizeOf t
decreasing_by all_goals exact hsz

theorem spec18 (t : Tp) : PSpec Tryd.prog 18 [encP t] (.ret (.int .i64 (slotP t))) := by
  refine ispec_bd fun hbd => ispec18 ?_
  rw [encP_eq] at hbd ⊢
  simp only [PV.bdL, PV.bd, List.length_map, and_true] at hbd
  have hlen : t.ks.length ≤ 9223372036854775807 := by simp only [hbd]
  simp only [x18, enum, j00, j01, j02, j03, j04, j05, j06, j07, j08, j09, j0a, j0b, j0c, j0d, j0e, j0f, j0g, j0h, j0i, j0j, j0k, j0l, j0m, j0n, j0o, j0p, j0q, j0r, j0s, j0t, j3k, j3l, j3m, j3n, j3o, j3p, setAll, j3q, j3r, j3s, j3t, j3u, j3v, j3w, j3x, j3y, j3z, j40, j41, j42, j43, j44, j45, j46, j47, j48, j49, j4a, j4b, j4c, j4d, j4e, j4f, j4g, j4h, j4i, j4j, j4k, j4l, j4m, j4n, j4o, j4p, j4q, j4r, j4s, j4t, j4u, j4v, j4w, j4x, j4y, j4z, j50, j51, j52, j53, j54, j55, j56, j57, Bool.not_true, Bool.not_false, Bool.true_and, Bool.and_true, Bool.false_and, Bool.and_false, Bool.true_or, Bool.or_true, Bool.false_or, Bool.or_false, cond_true, cond_false, aAllocN, aIndex, xLoad, xStore, xField, xFA, xIA, xLen, xMM, xAlloc, xIface, xInt, xStr, xIs, xBin, xAgg, xUn, xPick, xExt, knd, fls, ifc, isBoolK, isPtrK, isFuncK, isIfK, j58, j59, Nat.reduceBEq, eq_self, j5a, j5b, j5c, j5d, j5e, j5f, j5g, j5h, j5i, j5j, j5k, j5l, j5m, j5n, j5o, j5p, j5q, j5r, j5s, j5t, j5u, j5v, j5w, j5x, j5y, j5z, j60, j61, j62, j63, j64, j65, j66, j67, j68, j69, j6a, j6b, j6c, j6d, j6e, j6f, j6g, j6h, j6i, j6j, j6k, j6l, j6m, j6n, splice, List.size_toArray, decide_true, decide_false, Nat.reduceLeDiff, List.getD_cons_zero, List.getD_cons_succ, List.drop_succ_cons, List.drop_zero, List.take_succ_cons, List.take_zero, List.take_nil, List.drop_nil, Bool.false_eq_true, List.length_map, List.length_cons, List.length_nil, List.append_nil, List.nil_append, List.cons_append, List.getElem?_cons_succ, List.getElem?_cons_zero, List.length_append, List.set_cons_succ, List.set_cons_zero, List.map_cons, List.map_nil, if_true, if_false, Nat.reduceEqDiff, Nat.reduceAdd, Nat.reduceLT, reduceIte, true_and, and_true, and_self, Nat.zero_add, Nat.add_zero, ge_iff_le, gt_iff_lt, List.filter_cons, List.filter_nil, List.replicate_zero, List.replicate_succ, List.reverse_cons, List.reverse_nil, Option.map_some, Option.map_none, ti25, ti23, ti9, ti3, outB_def, const_outB]
  by_cases hc : t.c = 7
  all_goals simp only [hc, j00, j01, j02, j03, j04, j05, j06, j07, j08, j09, j0a, j0b, j0c, j0d, j0e, j0f, j0g, j0h, j0i, j0j, j0k, j0l, j0m, j0n, j0o, j0p, j0q, j0r, j0s, j0t, j3k, j3l, j3m, j3n, j3o, j3p, setAll, j3q, j3r, j3s, j3t, j3u, j3v, j3w, j3x, j3y, j3z, j40, j41, j42, j43, j44, j45, j46, j47, j48, j49, j4a, j4b, j4c, j4d, j4e, j4f, j4g, j4h, j4i, j4j, j4k, j4l, j4m, j4n, j4o, j4p, j4q, j4r, j4s, j4t, j4u, j4v, j4w, j4x, j4y, j4z, j50, j51, j52, j53, j54, j55, j56, j57, Bool.not_true, Bool.not_false, Bool.true_and, Bool.and_true, Bool.false_and, Bool.and_false, Bool.true_or, Bool.or_true, Bool.false_or, Bool.or_false, cond_true, cond_false, aAllocN, aIndex, xLoad, xStore, xField, xFA, xIA, xLen, xMM, xAlloc, xIface, xInt, xStr, xIs, xBin, xAgg, xUn, xPick, xExt, knd, fls, ifc, isBoolK, isPtrK, isFuncK, isIfK, j58, j59, Nat.reduceBEq, eq_self, j5a, j5b, j5c, j5d, j5e, j5f, j5g, j5h, j5i, j5j, j5k, j5l, j5m, j5n, j5o, j5p, j5q, j5r, j5s, j5t, j5u, j5v, j5w, j5x, j5y, j5z, j60, j61, j62, j63, j64, j65, j66, j67, j68, j69, j6a, j6b, j6c, j6d, j6e, j6f, j6g, j6h, j6i, j6j, j6k, j6l, j6m, j6n, splice, List.size_toArray, decide_true, decide_false, Nat.reduceLeDiff, List.getD_cons_zero, List.getD_cons_succ, List.drop_succ_cons, List.drop_zero, List.take_succ_cons, List.take_zero, List.take_nil, List.drop_nil, Bool.false_eq_true, List.length_map, List.length_cons, List.length_nil, List.append_nil, List.nil_append, List.cons_append, List.getElem?_cons_succ, List.getElem?_cons_zero, List.length_append, List.set_cons_succ, List.set_cons_zero, List.map_cons, List.map_nil, if_true, if_false, Nat.reduceEqDiff, Nat.reduceAdd, Nat.reduceLT, reduceIte, true_and, and_true, and_self, Nat.zero_add, Nat.add_zero, ge_iff_le, gt_iff_lt, List.filter_cons, List.filter_nil, List.replicate_zero, List.replicate_succ, List.reverse_cons, List.reverse_nil, Option.map_some, Option.map_none, ti25, ti23, ti9, ti3]
  all_goals clear hbd
  all_goals
    refine aw_loop (fun i : Nat => ⟨[(12, .int .i64 i), (11, .int .i64 t.ks.length), (10, .slice .dead (t.ks.map encP)), (3, .int .i64 ((t.ks.take i).foldl (fun n k => wadd n (slotP k)) (if t.c = 7 then 1 else 0)))], []⟩) (fun i => i ≤ t.ks.length) (fun i => t.ks.length - i) 0 (by simp) (.all (by simp [hc])) ?_
    intro i hi
    by_cases h : i < t.ks.length
    · have hr : (0 : Int) ≤ (i : Int) := by omega
      have hsz := Tp.size_ks t t.ks[i] (List.getElem_mem h)
      simp only [j00, j01, j02, j03, j04, j05, j06, j07, j08, j09, j0a, j0b, j0c, j0d, j0e, j0f, j0g, j0h, j0i, j0j, j0k, j0l, j0m, j0n, j0o, j0p, j0q, j0r, j0s, j0t, j3k, j3l, j3m, j3n, j3o, j3p, setAll, j3q, j3r, j3s, j3t, j3u, j3v, j3w, j3x, j3y, j3z, j40, j41, j42, j43, j44, j45, j46, j47, j48, j49, j4a, j4b, j4c, j4d, j4e, j4f, j4g, j4h, j4i, j4j, j4k, j4l, j4m, j4n, j4o, j4p, j4q, j4r, j4s, j4t, j4u, j4v, j4w, j4x, j4y, j4z, j50, j51, j52, j53, j54, j55, j56, j57, Bool.not_true, Bool.not_false, Bool.true_and, Bool.and_true, Bool.false_and, Bool.and_false, Bool.true_or, Bool.or_true, Bool.false_or, Bool.or_false, cond_true, cond_false, aAllocN, aIndex, xLoad, xStore, xField, xFA, xIA, xLen, xMM, xAlloc, xIface, xInt, xStr, xIs, xBin, xAgg, xUn, xPick, xExt, knd, fls, ifc, isBoolK, isPtrK, isFuncK, isIfK, j58, j59, Nat.reduceBEq, eq_self, j5a, j5b, j5c, j5d, j5e, j5f, j5g, j5h, j5i, j5j, j5k, j5l, j5m, j5n, j5o, j5p, j5q, j5r, j5s, j5t, j5u, j5v, j5w, j5x, j5y, j5z, j60, j61, j62, j63, j64, j65, j66, j67, j68, j69, j6a, j6b, j6c, j6d, j6e, j6f, j6g, j6h, j6i, j6j, j6k, j6l, j6m, j6n, splice, List.size_toArray, decide_true, decide_false, Nat.reduceLeDiff, List.getD_cons_zero, List.getD_cons_succ, List.drop_succ_cons, List.drop_zero, List.take_succ_cons, List.take_zero, List.take_nil, List.drop_nil, Bool.false_eq_true, List.length_map, List.length_cons, List.length_nil, List.append_nil, List.nil_append, List.cons_append, List.getElem?_cons_succ, List.getElem?_cons_zero, List.length_append, List.set_cons_succ, List.set_cons_zero, List.map_cons, List.map_nil, if_true, if_false, Nat.reduceEqDiff, Nat.reduceAdd, Nat.reduceLT, reduceIte, true_and, and_true, and_self, Nat.zero_add, Nat.add_zero, ge_iff_le, gt_iff_lt, List.filter_cons, List.filter_nil, List.replicate_zero, List.replicate_succ, List.reverse_cons, List.reverse_nil, Option.map_some, Option.map_none, ti3, ti23, ti25, hr, Int.toNat_natCast, getD_map h, encP_eq t.ks[i], Int.ofNat_lt, h]
      refine fun_ret (r := .int .i64 (slotP t.ks[i])) isfn18 ?_ fun hb => ?_
      · rw [← encP_eq]; simp only [j00, j01, j02, j03, j04, j05, j06, j07, j08, j09, j0a, j0b, j0c, j0d, j0e, j0f, j0g, j0h, j0i, j0j, j0k, j0l, j0m, j0n, j0o, j0p, j0q, j0r, j0s, j0t, j3k, j3l, j3m, j3n, j3o, j3p, setAll, j3q, j3r, j3s, j3t, j3u, j3v, j3w, j3x, j3y, j3z, j40, j41, j42, j43, j44, j45, j46, j47, j48, j49, j4a, j4b, j4c, j4d, j4e, j4f, j4g, j4h, j4i, j4j, j4k, j4l, j4m, j4n, j4o, j4p, j4q, j4r, j4s, j4t, j4u, j4v, j4w, j4x, j4y, j4z, j50, j51, j52, j53, j54, j55, j56, j57, Bool.not_true, Bool.not_false, Bool.true_and, Bool.and_true, Bool.false_and, Bool.and_false, Bool.true_or, Bool.or_true, Bool.false_or, Bool.or_false, cond_true, cond_false, aAllocN, aIndex, xLoad, xStore, xField, xFA, xIA, xLen, xMM, xAlloc, xIface, xInt, xStr, xIs, xBin, xAgg, xUn, xPick, xExt, knd, fls, ifc, isBoolK, isPtrK, isFuncK, isIfK, j58, j59, Nat.reduceBEq, eq_self, j5a, j5b, j5c, j5d, j5e, j5f, j5g, j5h, j5i, j5j, j5k, j5l, j5m, j5n, j5o, j5p, j5q, j5r, j5s, j5t, j5u, j5v, j5w, j5x, j5y, j5z, j60, j61, j62, j63, j64, j65, j66, j67, j68, j69, j6a, j6b, j6c, j6d, j6e, j6f, j6g, j6h, j6i, j6j, j6k, j6l, j6m, j6n, splice, List.size_toArray, decide_true, decide_false, Nat.reduceLeDiff, List.getD_cons_zero, List.getD_cons_succ, List.drop_succ_cons, List.drop_zero, List.take_succ_cons, List.take_zero, List.take_nil, List.drop_nil, Bool.false_eq_true, List.length_map, List.length_cons, List.length_nil, List.append_nil, List.nil_append, List.cons_append, List.getElem?_cons_succ, List.getElem?_cons_zero, List.length_append, List.set_cons_succ, List.set_cons_zero, List.map_cons, List.map_nil, if_true, if_false, Nat.reduceEqDiff, Nat.reduceAdd, Nat.reduceLT, reduceIte, true_and, and_true, and_self, Nat.zero_add, Nat.add_zero, ge_iff_le, gt_iff_lt, List.filter_cons, List.filter_nil, List.replicate_zero, List.replicate_succ, List.reverse_cons, List.reverse_nil, Option.map_some, Option.map_none, bare_encP]; exact spec18 _
      simp only [j00, j01, j02, j03, j04, j05, j06, j07, j08, j09, j0a, j0b, j0c, j0d, j0e, j0f, j0g, j0h, j0i, j0j, j0k, j0l, j0m, j0n, j0o, j0p, j0q, j0r, j0s, j0t, j3k, j3l, j3m, j3n, j3o, j3p, setAll, j3q, j3r, j3s, j3t, j3u, j3v, j3w, j3x, j3y, j3z, j40, j41, j42, j43, j44, j45, j46, j47, j48, j49, j4a, j4b, j4c, j4d, j4e, j4f, j4g, j4h, j4i, j4j, j4k, j4l, j4m, j4n, j4o, j4p, j4q, j4r, j4s, j4t, j4u, j4v, j4w, j4x, j4y, j4z, j50, j51, j52, j53, j54, j55, j56, j57, Bool.not_true, Bool.not_false, Bool.true_and, Bool.and_true, Bool.false_and, Bool.and_false, Bool.true_or, Bool.or_true, Bool.false_or, Bool.or_false, cond_true, cond_false, aAllocN, aIndex, xLoad, xStore, xField, xFA, xIA, xLen, xMM, xAlloc, xIface, xInt, xStr, xIs, xBin, xAgg, xUn, xPick, xExt, knd, fls, ifc, isBoolK, isPtrK, isFuncK, isIfK, j58, j59, Nat.reduceBEq, eq_self, j5a, j5b, j5c, j5d, j5e, j5f, j5g, j5h, j5i, j5j, j5k, j5l, j5m, j5n, j5o, j5p, j5q, j5r, j5s, j5t, j5u, j5v, j5w, j5x, j5y, j5z, j60, j61, j62, j63, j64, j65, j66, j67, j68, j69, j6a, j6b, j6c, j6d, j6e, j6f, j6g, j6h, j6i, j6j, j6k, j6l, j6m, j6n, splice, List.size_toArray, decide_true, decide_false, Nat.reduceLeDiff, List.getD_cons_zero, List.getD_cons_succ, List.drop_succ_cons, List.drop_zero, List.take_succ_cons, List.take_zero, List.take_nil, List.drop_nil, Bool.false_eq_true, List.length_map, List.length_cons, List.length_nil, List.append_nil, List.nil_append, List.cons_append, List.getElem?_cons_succ, List.getElem?_cons_zero, List.length_append, List.set_cons_succ, List.set_cons_zero, List.map_cons, List.map_nil, if_true, if_false, Nat.reduceEqDiff, Nat.reduceAdd, Nat.reduceLT, reduceIte, true_and, and_true, and_self, Nat.zero_add, Nat.add_zero, ge_iff_le, gt_iff_lt, List.filter_cons, List.filter_nil, List.replicate_zero, List.replicate_succ, List.reverse_cons, List.reverse_nil, Option.map_some, Option.map_none, ti3, wrapS i _ h hlen, aMax]
      exact ⟨i + 1, by omega, .all (by simp [foldl_take_succ _ _ _ _ h, wadd]), by omega⟩
    · simp only [j00, j01, j02, j03, j04, j05, j06, j07, j08, j09, j0a, j0b, j0c, j0d, j0e, j0f, j0g, j0h, j0i, j0j, j0k, j0l, j0m, j0n, j0o, j0p, j0q, j0r, j0s, j0t, j3k, j3l, j3m, j3n, j3o, j3p, setAll, j3q, j3r, j3s, j3t, j3u, j3v, j3w, j3x, j3y, j3z, j40, j41, j42, j43, j44, j45, j46, j47, j48, j49, j4a, j4b, j4c, j4d, j4e, j4f, j4g, j4h, j4i, j4j, j4k, j4l, j4m, j4n, j4o, j4p, j4q, j4r, j4s, j4t, j4u, j4v, j4w, j4x, j4y, j4z, j50, j51, j52, j53, j54, j55, j56, j57, Bool.not_true, Bool.not_false, Bool.true_and, Bool.and_true, Bool.false_and, Bool.and_false, Bool.true_or, Bool.or_true, Bool.false_or, Bool.or_false, cond_true, cond_false, aAllocN, aIndex, xLoad, xStore, xField, xFA, xIA, xLen, xMM, xAlloc, xIface, xInt, xStr, xIs, xBin, xAgg, xUn, xPick, xExt, knd, fls, ifc, isBoolK, isPtrK, isFuncK, isIfK, j58, j59, Nat.reduceBEq, eq_self, j5a, j5b, j5c, j5d, j5e, j5f, j5g, j5h, j5i, j5j, j5k, j5l, j5m, j5n, j5o, j5p, j5q, j5r, j5s, j5t, j5u, j5v, j5w, j5x, j5y, j5z, j60, j61, j62, j63, j64, j65, j66, j67, j68, j69, j6a, j6b, j6c, j6d, j6e, j6f, j6g, j6h, j6i, j6j, j6k, j6l, j6m, j6n, splice, List.size_toArray, decide_true, decide_false, Nat.reduceLeDiff, List.getD_cons_zero, List.getD_cons_succ, List.drop_succ_cons, List.drop_zero, List.take_succ_cons, List.take_zero, List.take_nil, List.drop_nil, Bool.false_eq_true, List.length_map, List.length_cons, List.length_nil, List.append_nil, List.nil_append, List.cons_append, List.getElem?_cons_succ, List.getElem?_cons_zero, List.length_append, List.set_cons_succ, List.set_cons_zero, List.map_cons, List.map_nil, if_true, if_false, Nat.reduceEqDiff, Nat.reduceAdd, Nat.reduceLT, reduceIte, true_and, and_true, and_self, Nat.zero_add, Nat.add_zero, ge_iff_le, gt_iff_lt, List.filter_cons, List.filter_nil, List.replicate_zero, List.replicate_succ, List.reverse_cons, List.reverse_nil, Option.map_some, Option.map_none, ti3, Int.ofNat_lt, h]
      refine kfin_ret (p := .int .i64 (slotP t)) ?_ rfl
      have : i = t.ks.length := by omega
      subst this
      simp [resV, rvOf, slotP_eq t]
termination_by SizeOf.sizeOf t
decreasing_by all_goals exact hsz

mutual
/-- How deep, less one for the node itself. -/
def deepT : Tr → Int
  | .mk g k t ats ks => wadd (deepTs 0 ks) 1
def deepTs (a : Int) : List Tr → Int
  | [] => a
  | t :: r => deepTs (maxI a (deepT t)) r
end
theorem deepTs_fold (a : Int) (l : List Tr) : deepTs a l = l.foldl (fun n k => maxI n (deepT k)) a := by
  induction l generalizing a with
  | nil => rfl
  | cons t r ih => rw [deepTs, ih]; rfl
theorem deepT_eq (t : Tr) : deepT t = wadd (t.ks.foldl (fun n k => maxI n (deepT k)) 0) 1 := by cases t; rw [deepT, deepTs_fold]; rfl

theorem spec47 (t : Tr) : PSpec Tryd.prog 47 [encT t] (.ret (.int .i64 (deepT t))) := by
  refine ispec_bd fun hbd => ispec47 ?_
  rw [encT_eq] at hbd ⊢
  simp only [PV.bdL, PV.bd, List.length_map, and_true] at hbd
  have hlen : t.ks.length ≤ 9223372036854775807 := by simp only [hbd]
  simp only [x47, enum, j00, j01, j02, j03, j04, j05, j06, j07, j08, j09, j0a, j0b, j0c, j0d, j0e, j0f, j0g, j0h, j0i, j0j, j0k, j0l, j0m, j0n, j0o, j0p, j0q, j0r, j0s, j0t, j3k, j3l, j3m, j3n, j3o, j3p, setAll, j3q, j3r, j3s, j3t, j3u, j3v, j3w, j3x, j3y, j3z, j40, j41, j42, j43, j44, j45, j46, j47, j48, j49, j4a, j4b, j4c, j4d, j4e, j4f, j4g, j4h, j4i, j4j, j4k, j4l, j4m, j4n, j4o, j4p, j4q, j4r, j4s, j4t, j4u, j4v, j4w, j4x, j4y, j4z, j50, j51, j52, j53, j54, j55, j56, j57, Bool.not_true, Bool.not_false, Bool.true_and, Bool.and_true, Bool.false_and, Bool.and_false, Bool.true_or, Bool.or_true, Bool.false_or, Bool.or_false, cond_true, cond_false, aAllocN, aIndex, xLoad, xStore, xField, xFA, xIA, xLen, xMM, xAlloc, xIface, xInt, xStr, xIs, xBin, xAgg, xUn, xPick, xExt, knd, fls, ifc, isBoolK, isPtrK, isFuncK, isIfK, j58, j59, Nat.reduceBEq, eq_self, j5a, j5b, j5c, j5d, j5e, j5f, j5g, j5h, j5i, j5j, j5k, j5l, j5m, j5n, j5o, j5p, j5q, j5r, j5s, j5t, j5u, j5v, j5w, j5x, j5y, j5z, j60, j61, j62, j63, j64, j65, j66, j67, j68, j69, j6a, j6b, j6c, j6d, j6e, j6f, j6g, j6h, j6i, j6j, j6k, j6l, j6m, j6n, splice, List.size_toArray, decide_true, decide_false, Nat.reduceLeDiff, List.getD_cons_zero, List.getD_cons_succ, List.drop_succ_cons, List.drop_zero, List.take_succ_cons, List.take_zero, List.take_nil, List.drop_nil, Bool.false_eq_true, List.length_map, List.length_cons, List.length_nil, List.append_nil, List.nil_append, List.cons_append, List.getElem?_cons_succ, List.getElem?_cons_zero, List.length_append, List.set_cons_succ, List.set_cons_zero, List.map_cons, List.map_nil, if_true, if_false, Nat.reduceEqDiff, Nat.reduceAdd, Nat.reduceLT, reduceIte, true_and, and_true, and_self, Nat.zero_add, Nat.add_zero, ge_iff_le, gt_iff_lt, List.filter_cons, List.filter_nil, List.replicate_zero, List.replicate_succ, List.reverse_cons, List.reverse_nil, Option.map_some, Option.map_none, ti28, ti26, ti9, ti3, outB_def, const_outB]
  refine aw_loop (fun i : Nat => ⟨[(9, .int .i64 i), (8, .int .i64 t.ks.length), (7, .slice .dead (t.ks.map encT)), (3, .int .i64 ((t.ks.take i).foldl (fun n k => maxI n (deepT k)) (0)))], []⟩) (fun i => i ≤ t.ks.length) (fun i => t.ks.length - i) 0 (by simp) (.all (by simp)) ?_
  intro i hi
  by_cases h : i < t.ks.length
  · have hr : (0 : Int) ≤ (i : Int) := by omega
    have hsz := Tr.size_ks t t.ks[i] (List.getElem_mem h)
    simp only [j00, j01, j02, j03, j04, j05, j06, j07, j08, j09, j0a, j0b, j0c, j0d, j0e, j0f, j0g, j0h, j0i, j0j, j0k, j0l, j0m, j0n, j0o, j0p, j0q, j0r, j0s, j0t, j3k, j3l, j3m, j3n, j3o, j3p, setAll, j3q, j3r, j3s, j3t, j3u, j3v, j3w, j3x, j3y, j3z, j40, j41, j42, j43, j44, j45, j46, j47, j48, j49, j4a, j4b, j4c, j4d, j4e, j4f, j4g, j4h, j4i, j4j, j4k, j4l, j4m, j4n, j4o, j4p, j4q, j4r, j4s, j4t, j4u, j4v, j4w, j4x, j4y, j4z, j50, j51, j52, j53, j54, j55, j56, j57, Bool.not_true, Bool.not_false, Bool.true_and, Bool.and_true, Bool.false_and, Bool.and_false, Bool.true_or, Bool.or_true, Bool.false_or, Bool.or_false, cond_true, cond_false, aAllocN, aIndex, xLoad, xStore, xField, xFA, xIA, xLen, xMM, xAlloc, xIface, xInt, xStr, xIs, xBin, xAgg, xUn, xPick, xExt, knd, fls, ifc, isBoolK, isPtrK, isFuncK, isIfK, j58, j59, Nat.reduceBEq, eq_self, j5a, j5b, j5c, j5d, j5e, j5f, j5g, j5h, j5i, j5j, j5k, j5l, j5m, j5n, j5o, j5p, j5q, j5r, j5s, j5t, j5u, j5v, j5w, j5x, j5y, j5z, j60, j61, j62, j63, j64, j65, j66, j67, j68, j69, j6a, j6b, j6c, j6d, j6e, j6f, j6g, j6h, j6i, j6j, j6k, j6l, j6m, j6n, splice, List.size_toArray, decide_true, decide_false, Nat.reduceLeDiff, List.getD_cons_zero, List.getD_cons_succ, List.drop_succ_cons, List.drop_zero, List.take_succ_cons, List.take_zero, List.take_nil, List.drop_nil, Bool.false_eq_true, List.length_map, List.length_cons, List.length_nil, List.append_nil, List.nil_append, List.cons_append, List.getElem?_cons_succ, List.getElem?_cons_zero, List.length_append, List.set_cons_succ, List.set_cons_zero, List.map_cons, List.map_nil, if_true, if_false, Nat.reduceEqDiff, Nat.reduceAdd, Nat.reduceLT, reduceIte, true_and, and_true, and_self, Nat.zero_add, Nat.add_zero, ge_iff_le, gt_iff_lt, List.filter_cons, List.filter_nil, List.replicate_zero, List.replicate_succ, List.reverse_cons, List.reverse_nil, Option.map_some, Option.map_none, ti3, ti26, ti28, hr, Int.toNat_natCast, getD_map h, encT_eq t.ks[i], Int.ofNat_lt, h]
    refine fun_ret (r := .int .i64 (deepT t.ks[i])) isfn47 ?_ fun hb => ?_
    · rw [← encT_eq]; simp only [j00, j01, j02, j03, j04, j05, j06, j07, j08, j09, j0a, j0b, j0c, j0d, j0e, j0f, j0g, j0h, j0i, j0j, j0k, j0l, j0m, j0n, j0o, j0p, j0q, j0r, j0s, j0t, j3k, j3l, j3m, j3n, j3o, j3p, setAll, j3q, j3r, j3s, j3t, j3u, j3v, j3w, j3x, j3y, j3z, j40, j41, j42, j43, j44, j45, j46, j47, j48, j49, j4a, j4b, j4c, j4d, j4e, j4f, j4g, j4h, j4i, j4j, j4k, j4l, j4m, j4n, j4o, j4p, j4q, j4r, j4s, j4t, j4u, j4v, j4w, j4x, j4y, j4z, j50, j51, j52, j53, j54, j55, j56, j57, Bool.not_true, Bool.not_false, Bool.true_and, Bool.and_true, Bool.false_and, Bool.and_false, Bool.true_or, Bool.or_true, Bool.false_or, Bool.or_false, cond_true, cond_false, aAllocN, aIndex, xLoad, xStore, xField, xFA, xIA, xLen, xMM, xAlloc, xIface, xInt, xStr, xIs, xBin, xAgg, xUn, xPick, xExt, knd, fls, ifc, isBoolK, isPtrK, isFuncK, isIfK, j58, j59, Nat.reduceBEq, eq_self, j5a, j5b, j5c, j5d, j5e, j5f, j5g, j5h, j5i, j5j, j5k, j5l, j5m, j5n, j5o, j5p, j5q, j5r, j5s, j5t, j5u, j5v, j5w, j5x, j5y, j5z, j60, j61, j62, j63, j64, j65, j66, j67, j68, j69, j6a, j6b, j6c, j6d, j6e, j6f, j6g, j6h, j6i, j6j, j6k, j6l, j6m, j6n, splice, List.size_toArray, decide_true, decide_false, Nat.reduceLeDiff, List.getD_cons_zero, List.getD_cons_succ, List.drop_succ_cons, List.drop_zero, List.take_succ_cons, List.take_zero, List.take_nil, List.drop_nil, Bool.false_eq_true, List.length_map, List.length_cons, List.length_nil, List.append_nil, List.nil_append, List.cons_append, List.getElem?_cons_succ, List.getElem?_cons_zero, List.length_append, List.set_cons_succ, List.set_cons_zero, List.map_cons, List.map_nil, if_true, if_false, Nat.reduceEqDiff, Nat.reduceAdd, Nat.reduceLT, reduceIte, true_and, and_true, and_self, Nat.zero_add, Nat.add_zero, ge_iff_le, gt_iff_lt, List.filter_cons, List.filter_nil, List.replicate_zero, List.replicate_succ, List.reverse_cons, List.reverse_nil, Option.map_some, Option.map_none, bare_encT]; exact spec47 _
    simp only [j00, j01, j02, j03, j04, j05, j06, j07, j08, j09, j0a, j0b, j0c, j0d, j0e, j0f, j0g, j0h, j0i, j0j, j0k, j0l, j0m, j0n, j0o, j0p, j0q, j0r, j0s, j0t, j3k, j3l, j3m, j3n, j3o, j3p, setAll, j3q, j3r, j3s, j3t, j3u, j3v, j3w, j3x, j3y, j3z, j40, j41, j42, j43, j44, j45, j46, j47, j48, j49, j4a, j4b, j4c, j4d, j4e, j4f, j4g, j4h, j4i, j4j, j4k, j4l, j4m, j4n, j4o, j4p, j4q, j4r, j4s, j4t, j4u, j4v, j4w, j4x, j4y, j4z, j50, j51, j52, j53, j54, j55, j56, j57, Bool.not_true, Bool.not_false, Bool.true_and, Bool.and_true, Bool.false_and, Bool.and_false, Bool.true_or, Bool.or_true, Bool.false_or, Bool.or_false, cond_true, cond_false, aAllocN, aIndex, xLoad, xStore, xField, xFA, xIA, xLen, xMM, xAlloc, xIface, xInt, xStr, xIs, xBin, xAgg, xUn, xPick, xExt, knd, fls, ifc, isBoolK, isPtrK, isFuncK, isIfK, j58, j59, Nat.reduceBEq, eq_self, j5a, j5b, j5c, j5d, j5e, j5f, j5g, j5h, j5i, j5j, j5k, j5l, j5m, j5n, j5o, j5p, j5q, j5r, j5s, j5t, j5u, j5v, j5w, j5x, j5y, j5z, j60, j61, j62, j63, j64, j65, j66, j67, j68, j69, j6a, j6b, j6c, j6d, j6e, j6f, j6g, j6h, j6i, j6j, j6k, j6l, j6m, j6n, splice, List.size_toArray, decide_true, decide_false, Nat.reduceLeDiff, List.getD_cons_zero, List.getD_cons_succ, List.drop_succ_cons, List.drop_zero, List.take_succ_cons, List.take_zero, List.take_nil, List.drop_nil, Bool.false_eq_true, List.length_map, List.length_cons, List.length_nil, List.append_nil, List.nil_append, List.cons_append, List.getElem?_cons_succ, List.getElem?_cons_zero, List.length_append, List.set_cons_succ, List.set_cons_zero, List.map_cons, List.map_nil, if_true, if_false, Nat.reduceEqDiff, Nat.reduceAdd, Nat.reduceLT, reduceIte, true_and, and_true, and_self, Nat.zero_add, Nat.add_zero, ge_iff_le, gt_iff_lt, List.filter_cons, List.filter_nil, List.replicate_zero, List.replicate_succ, List.reverse_cons, List.reverse_nil, Option.map_some, Option.map_none, ti3, wrapS i _ h hlen, aMax]
    exact ⟨i + 1, by omega, .all (by simp [foldl_take_succ _ _ _ _ h, wadd]), by omega⟩
  · simp only [j00, j01, j02, j03, j04, j05, j06, j07, j08, j09, j0a, j0b, j0c, j0d, j0e, j0f, j0g, j0h, j0i, j0j, j0k, j0l, j0m, j0n, j0o, j0p, j0q, j0r, j0s, j0t, j3k, j3l, j3m, j3n, j3o, j3p, setAll, j3q, j3r, j3s, j3t, j3u, j3v, j3w, j3x, j3y, j3z, j40, j41, j42, j43, j44, j45, j46, j47, j48, j49, j4a, j4b, j4c, j4d, j4e, j4f, j4g, j4h, j4i, j4j, j4k, j4l, j4m, j4n, j4o, j4p, j4q, j4r, j4s, j4t, j4u, j4v, j4w, j4x, j4y, j4z, j50, j51, j52, j53, j54, j55, j56, j57, Bool.not_true, Bool.not_false, Bool.true_and, Bool.and_true, Bool.false_and, Bool.and_false, Bool.true_or, Bool.or_true, Bool.false_or, Bool.or_false, cond_true, cond_false, aAllocN, aIndex, xLoad, xStore, xField, xFA, xIA, xLen, xMM, xAlloc, xIface, xInt, xStr, xIs, xBin, xAgg, xUn, xPick, xExt, knd, fls, ifc, isBoolK, isPtrK, isFuncK, isIfK, j58, j59, Nat.reduceBEq, eq_self, j5a, j5b, j5c, j5d, j5e, j5f, j5g, j5h, j5i, j5j, j5k, j5l, j5m, j5n, j5o, j5p, j5q, j5r, j5s, j5t, j5u, j5v, j5w, j5x, j5y, j5z, j60, j61, j62, j63, j64, j65, j66, j67, j68, j69, j6a, j6b, j6c, j6d, j6e, j6f, j6g, j6h, j6i, j6j, j6k, j6l, j6m, j6n, splice, List.size_toArray, decide_true, decide_false, Nat.reduceLeDiff, List.getD_cons_zero, List.getD_cons_succ, List.drop_succ_cons, List.drop_zero, List.take_succ_cons, List.take_zero, List.take_nil, List.drop_nil, Bool.false_eq_true, List.length_map, List.length_cons, List.length_nil, List.append_nil, List.nil_append, List.cons_append, List.getElem?_cons_succ, List.getElem?_cons_zero, List.length_append, List.set_cons_succ, List.set_cons_zero, List.map_cons, List.map_nil, if_true, if_false, Nat.reduceEqDiff, Nat.reduceAdd, Nat.reduceLT, reduceIte, true_and, and_true, and_self, Nat.zero_add, Nat.add_zero, ge_iff_le, gt_iff_lt, List.filter_cons, List.filter_nil, List.replicate_zero, List.replicate_succ, List.reverse_cons, List.reverse_nil, Option.map_some, Option.map_none, ti3, Int.ofNat_lt, h]
    refine kfin_ret (p := .int .i64 (deepT t)) ?_ rfl
    have : i = t.ks.length := by omega
    subst this
    simp [resV, rvOf, wadd, deepT_eq t]
termination_by SizeOf.sizeOf t
decreasing_by all_goals exact hsz

end Go.Proofs.YtlfngjemfpjegaaDoor.Px
