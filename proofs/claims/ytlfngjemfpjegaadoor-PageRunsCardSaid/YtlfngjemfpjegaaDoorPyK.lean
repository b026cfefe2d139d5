/- shape.Right. -/
import Derived.Test.YtlfngjemfpjegaaDoorPyF
import Derived.Test.YtlfngjemfpjegaaDoorPyJ
import Derived.Test.YtlfngjemfpjegaaDoorPyC
namespace Go.Proofs.YtlfngjemfpjegaaDoor.Px
open Go Go.RowKit Go.Proofs
set_option linter.unusedVariables false
set_option linter.unnecessarySimpa false
set_option linter.unusedSimpArgs false
set_option maxRecDepth 4000
def x75 : XCode :=
  (.seq
   (.reg [⟨some 2, none, Op.box 47 (Operand.tmp 0), false⟩,
     ⟨some 3, none, Op.assign (Operand.const (Value.bool false)), false⟩])
   (.seq
    (.reg [⟨some 4, none, Op.fieldAddr 47 (Operand.tmp 2) 0, false⟩,
      ⟨some 5, none, Op.load 9 (Operand.tmp 4), false⟩,
      ⟨some 6, none, Op.fieldAddr 47 (Operand.tmp 1) 0, false⟩,
      ⟨some 7, none, Op.load 9 (Operand.tmp 6), false⟩,
      ⟨some 8, none, Op.binOp BinOp.eql 9 (Operand.tmp 5) (Operand.tmp 7) 9, false⟩,
      ⟨some 3, none, Op.assign (Operand.tmp 8), false⟩])
    .ret))
theorem ispec75 {args : List PV} {L L' : List AObj} {out : Out} (h : aw Tryd.prog L.length 9 x75 (kfin Tryd.prog [.tmp 3] L.length 9 out L') ⟨enum 0 args, L⟩) : ISpec Tryd.prog 75 args L out L' :=
  ispec_of_aw mixd (fn := Tryd.f75) (x := x75) Tryd.func75 rfl (by kernel_rfl) (by kernel_rfl) rfl h
theorem isfn75 : isFn Tryd.prog 75 = true := by kernel_rfl

def x89 : XCode :=
  (.seq
   (.reg [⟨some 4, none, Op.assign (Operand.const (Value.int IntKind.i64 0)), false⟩])
   (.seq
    (.seq
     (.reg [⟨some 6, none, Op.move (Operand.tmp 0), false⟩,
       ⟨some 7, none, Op.call { callee := Callee.builtin Builtin.len, args := #[Operand.tmp 6], argTypes := #[22] }, false⟩,
       ⟨some 8, none, Op.move (Operand.const (Value.int IntKind.i64 0)), false⟩])
     (.block 0
      (.loop
       (.seq
        (.reg [⟨some 9, none, Op.binOp BinOp.lss 3 (Operand.tmp 8) (Operand.tmp 7) 3, false⟩])
        (.seq
         (.cond (Operand.tmp 9)
          .skip
          (.exit 0))
         (.seq
          (.block 1
           (.seq
            (.reg [⟨some 10, none, Op.move (Operand.tmp 8), false⟩,
              ⟨some 5, none, Op.assign (Operand.tmp 10), false⟩])
            (.seq
             (.reg [⟨some 11, none, Op.move (Operand.tmp 1), false⟩,
               ⟨some 12, none, Op.move (Operand.tmp 0), false⟩,
               ⟨some 13, none, Op.move (Operand.tmp 5), false⟩,
               ⟨some 14, none, Op.indexAddr 22 (Operand.tmp 12) (Operand.tmp 13), false⟩,
               ⟨some 15, none, Op.load 47 (Operand.tmp 14), false⟩,
               ⟨some 16, none, Op.call { callee := Callee.value (Operand.tmp 11), args := #[Operand.tmp 15], argTypes := #[47] }, false⟩])
             (.cond (Operand.tmp 16)
              (.seq
               (.reg [⟨some 17, none, Op.move (Operand.tmp 5), false⟩,
                 ⟨some 4, none, Op.assign (Operand.tmp 17), false⟩])
               .ret)
              .skip))))
          (.reg [⟨some 18, none, Op.binOp BinOp.add 3 (Operand.tmp 8) (Operand.const (Value.int IntKind.i64 1)) 3, false⟩,
            ⟨some 8, none, Op.move (Operand.tmp 18), false⟩])))))))
    (.seq
     (.reg [⟨some 4, none, Op.assign (Operand.const (Value.int IntKind.i64 (-1))), false⟩])
     .ret)))
theorem ispec89 {args : List PV} {L L' : List AObj} {out : Out} (h : aw Tryd.prog L.length 19 x89 (kfin Tryd.prog [.tmp 4] L.length 19 out L') ⟨enum 0 args, L⟩) : ISpec Tryd.prog 89 args L out L' :=
  ispec_of_aw mixd (fn := Tryd.f89) (x := x89) Tryd.func89 rfl (by kernel_rfl) (by kernel_rfl) rfl h
theorem isfn89 : isFn Tryd.prog 89 = true := by kernel_rfl

def x76 : XCode :=
  (.seq
   (.reg [⟨some 4, none, Op.assign (Operand.const (Value.bool false)), false⟩])
   (.seq
    (.reg [⟨some 5, none, Op.move (Operand.tmp 0), false⟩,
      ⟨some 6, none, Op.move (Operand.tmp 1), false⟩,
      ⟨some 7, none, Op.call { callee := Callee.value (Operand.func 89), args := #[Operand.tmp 5, Operand.tmp 6], argTypes := #[22, 117] }, false⟩,
      ⟨some 8, none, Op.binOp BinOp.geq 3 (Operand.tmp 7) (Operand.const (Value.int IntKind.i64 0)) 3, false⟩,
      ⟨some 4, none, Op.assign (Operand.tmp 8), false⟩])
    .ret))
theorem ispec76 {args : List PV} {L L' : List AObj} {out : Out} (h : aw Tryd.prog L.length 9 x76 (kfin Tryd.prog [.tmp 4] L.length 9 out L') ⟨enum 0 args, L⟩) : ISpec Tryd.prog 76 args L out L' :=
  ispec_of_aw mixd (fn := Tryd.f76) (x := x76) Tryd.func76 rfl (by kernel_rfl) (by kernel_rfl) rfl h
theorem isfn76 : isFn Tryd.prog 76 = true := by kernel_rfl

def x63 : XCode :=
  (.seq
   (.reg [⟨some 1, none, Op.box 28 (Operand.tmp 0), false⟩,
     ⟨some 2, none, Op.assign (Operand.const (Value.bool false)), false⟩])
   (.seq
    (.seq
     (.reg [⟨some 6, none, Op.fieldAddr 28 (Operand.tmp 1) 0, false⟩,
       ⟨some 7, none, Op.load 9 (Operand.tmp 6), false⟩,
       ⟨some 8, none, Op.call { callee := Callee.builtin Builtin.len, args := #[Operand.tmp 7], argTypes := #[9] }, false⟩,
       ⟨some 9, none, Op.binOp BinOp.gtr 3 (Operand.tmp 8) (Operand.const (Value.int IntKind.i64 16)) 3, false⟩,
       ⟨some 10, none, Op.move (Operand.tmp 9), false⟩,
       ⟨some 11, some (10, false), Op.fieldAddr 28 (Operand.tmp 1) 0, false⟩,
       ⟨some 12, some (10, false), Op.load 9 (Operand.tmp 11), false⟩,
       ⟨some 13, some (10, false), Op.call { callee := Callee.value (Operand.func 74), args := #[Operand.tmp 12, Operand.const (Value.string { data := #[97, 98, 99, 100, 101, 102, 103, 104, 105, 106, 107, 108, 109, 110, 111, 112, 113, 114, 115, 116, 117, 118, 119, 120, 121, 122, 48, 49, 50, 51, 52, 53, 54, 55, 56, 57] })], argTypes := #[9, 9] }, false⟩,
       ⟨some 14, some (10, false), Op.binOp BinOp.neq 9 (Operand.tmp 13) (Operand.const (Value.string { data := #[] })) 9, false⟩,
       ⟨some 15, none, Op.pick (Operand.tmp 10) (Operand.const (Value.bool true)) (Operand.tmp 14), false⟩,
       ⟨some 16, none, Op.move (Operand.tmp 15), false⟩,
       ⟨some 17, some (16, false), Op.fieldAddr 28 (Operand.tmp 1) 2, false⟩,
       ⟨some 18, some (16, false), Op.load 9 (Operand.tmp 17), false⟩,
       ⟨some 19, some (16, false), Op.binOp BinOp.neq 9 (Operand.tmp 18) (Operand.const (Value.string { data := #[] })) 9, false⟩,
       ⟨some 20, none, Op.pick (Operand.tmp 16) (Operand.const (Value.bool true)) (Operand.tmp 19), false⟩,
       ⟨some 21, none, Op.move (Operand.tmp 20), false⟩,
       ⟨some 22, some (21, false), Op.fieldAddr 28 (Operand.tmp 1) 4, false⟩,
       ⟨some 23, some (21, false), Op.load 26 (Operand.tmp 22), false⟩,
       ⟨some 24, some (21, false), Op.call { callee := Callee.builtin Builtin.len, args := #[Operand.tmp 23], argTypes := #[26] }, false⟩,
       ⟨some 25, some (21, false), Op.binOp BinOp.gtr 3 (Operand.tmp 24) (Operand.const (Value.int IntKind.i64 24)) 3, false⟩,
       ⟨some 26, none, Op.pick (Operand.tmp 21) (Operand.const (Value.bool true)) (Operand.tmp 25), false⟩,
       ⟨some 27, none, Op.move (Operand.tmp 26), false⟩,
       ⟨some 28, some (27, false), Op.fieldAddr 28 (Operand.tmp 1) 1, false⟩,
       ⟨some 29, some (27, false), Op.load 9 (Operand.tmp 28), false⟩,
       ⟨some 30, some (27, false), Op.call { callee := Callee.builtin Builtin.len, args := #[Operand.tmp 29], argTypes := #[9] }, false⟩,
       ⟨some 31, some (27, false), Op.binOp BinOp.gtr 3 (Operand.tmp 30) (Operand.const (Value.int IntKind.i64 64)) 3, false⟩,
       ⟨some 32, none, Op.pick (Operand.tmp 27) (Operand.const (Value.bool true)) (Operand.tmp 31), false⟩])
     (.cond (Operand.tmp 32)
      (.seq
       (.reg [⟨some 2, none, Op.assign (Operand.const (Value.bool false)), false⟩])
       .ret)
      .skip))
    (.seq
     (.seq
      (.reg [⟨some 33, none, Op.fieldAddr 28 (Operand.tmp 1) 3, false⟩,
        ⟨some 34, none, Op.load 22 (Operand.tmp 33), false⟩,
        ⟨some 35, none, Op.call { callee := Callee.builtin Builtin.len, args := #[Operand.tmp 34], argTypes := #[22] }, false⟩,
        ⟨some 36, none, Op.move (Operand.const (Value.int IntKind.i64 0)), false⟩])
      (.block 0
       (.loop
        (.seq
         (.reg [⟨some 37, none, Op.binOp BinOp.lss 3 (Operand.tmp 36) (Operand.tmp 35) 3, false⟩])
         (.seq
          (.cond (Operand.tmp 37)
           .skip
           (.exit 0))
          (.seq
           (.block 1
            (.seq
             (.reg [⟨some 38, none, Op.move (Operand.tmp 36), false⟩,
               ⟨some 39, none, Op.indexAddr 22 (Operand.tmp 34) (Operand.tmp 36), false⟩,
               ⟨some 40, none, Op.load 47 (Operand.tmp 39), false⟩,
               ⟨some 4, none, Op.alloc 47, false⟩,
               ⟨some 3, none, Op.assign (Operand.tmp 38), false⟩,
               ⟨none, none, Op.store 47 (Operand.tmp 4) (Operand.tmp 40), false⟩])
             (.seq
              (.reg [⟨some 41, none, Op.makeFunc (Fn.func 75) #[] #[Operand.tmp 4], false⟩,
                ⟨some 5, none, Op.assign (Operand.tmp 41), false⟩])
              (.seq
               (.reg [⟨some 42, none, Op.fieldAddr 47 (Operand.tmp 4) 0, false⟩,
                 ⟨some 43, none, Op.load 9 (Operand.tmp 42), false⟩,
                 ⟨some 44, none, Op.binOp BinOp.eql 9 (Operand.tmp 43) (Operand.const (Value.string { data := #[] })) 9, false⟩,
                 ⟨some 45, none, Op.move (Operand.tmp 44), false⟩,
                 ⟨some 46, some (45, false), Op.fieldAddr 47 (Operand.tmp 4) 0, false⟩,
                 ⟨some 47, some (45, false), Op.load 9 (Operand.tmp 46), false⟩,
                 ⟨some 48, some (45, false), Op.call { callee := Callee.builtin Builtin.len, args := #[Operand.tmp 47], argTypes := #[9] }, false⟩,
                 ⟨some 49, some (45, false), Op.binOp BinOp.gtr 3 (Operand.tmp 48) (Operand.const (Value.int IntKind.i64 64)) 3, false⟩,
                 ⟨some 50, none, Op.pick (Operand.tmp 45) (Operand.const (Value.bool true)) (Operand.tmp 49), false⟩,
                 ⟨some 51, none, Op.move (Operand.tmp 50), false⟩,
                 ⟨some 52, some (51, false), Op.fieldAddr 47 (Operand.tmp 4) 1, false⟩,
                 ⟨some 53, some (51, false), Op.load 9 (Operand.tmp 52), false⟩,
                 ⟨some 54, some (51, false), Op.call { callee := Callee.builtin Builtin.len, args := #[Operand.tmp 53], argTypes := #[9] }, false⟩,
                 ⟨some 55, some (51, false), Op.binOp BinOp.gtr 3 (Operand.tmp 54) (Operand.const (Value.int IntKind.i64 64)) 3, false⟩,
                 ⟨some 56, none, Op.pick (Operand.tmp 51) (Operand.const (Value.bool true)) (Operand.tmp 55), false⟩,
                 ⟨some 57, none, Op.move (Operand.tmp 56), false⟩,
                 ⟨some 58, some (57, false), Op.fieldAddr 28 (Operand.tmp 1) 3, false⟩,
                 ⟨some 59, some (57, false), Op.load 22 (Operand.tmp 58), false⟩,
                 ⟨some 60, some (57, false), Op.move (Operand.tmp 3), false⟩,
                 ⟨some 61, some (57, false), Op.slice 22 (Operand.tmp 59) none (some (Operand.tmp 60)) none, false⟩,
                 ⟨some 62, some (57, false), Op.move (Operand.tmp 5), false⟩,
                 ⟨some 63, some (57, false), Op.call { callee := Callee.value (Operand.func 76), args := #[Operand.tmp 61, Operand.tmp 62], argTypes := #[22, 117] }, false⟩,
                 ⟨some 64, none, Op.pick (Operand.tmp 57) (Operand.const (Value.bool true)) (Operand.tmp 63), false⟩])
               (.cond (Operand.tmp 64)
                (.seq
                 (.reg [⟨some 2, none, Op.assign (Operand.const (Value.bool false)), false⟩])
                 .ret)
                .skip)))))
           (.reg [⟨some 65, none, Op.binOp BinOp.add 3 (Operand.tmp 36) (Operand.const (Value.int IntKind.i64 1)) 3, false⟩,
             ⟨some 36, none, Op.move (Operand.tmp 65), false⟩])))))))
     (.seq
      (.reg [⟨some 2, none, Op.assign (Operand.const (Value.bool true)), false⟩])
      .ret))))
theorem ispec63 {args : List PV} {L L' : List AObj} {out : Out} (h : aw Tryd.prog L.length 66 x63 (kfin Tryd.prog [.tmp 2] L.length 66 out L') ⟨enum 0 args, L⟩) : ISpec Tryd.prog 63 args L out L' :=
  ispec_of_aw mixd (fn := Tryd.f63) (x := x63) Tryd.func63 rfl (by kernel_rfl) (by kernel_rfl) rfl h
theorem isfn63 : isFn Tryd.prog 63 = true := by kernel_rfl

def x45 : XCode :=
  (.seq
   (.reg [⟨some 1, none, Op.box 28 (Operand.tmp 0), false⟩,
     ⟨some 2, none, Op.assign (Operand.const (Value.bool false)), false⟩])
   (.seq
    (.seq
     (.reg [⟨some 5, none, Op.fieldAddr 28 (Operand.tmp 1) 0, false⟩,
       ⟨some 6, none, Op.load 9 (Operand.tmp 5), false⟩,
       ⟨some 7, none, Op.binOp BinOp.eql 9 (Operand.tmp 6) (Operand.const (Value.string { data := #[] })) 9, false⟩])
     (.cond (Operand.tmp 7)
      (.seq
       (.reg [⟨some 8, none, Op.fieldAddr 28 (Operand.tmp 1) 1, false⟩,
         ⟨some 9, none, Op.load 9 (Operand.tmp 8), false⟩,
         ⟨some 10, none, Op.binOp BinOp.eql 9 (Operand.tmp 9) (Operand.const (Value.string { data := #[] })) 9, false⟩,
         ⟨some 11, none, Op.move (Operand.tmp 10), false⟩,
         ⟨some 12, some (11, true), Op.fieldAddr 28 (Operand.tmp 1) 3, false⟩,
         ⟨some 13, some (11, true), Op.load 22 (Operand.tmp 12), false⟩,
         ⟨some 14, some (11, true), Op.call { callee := Callee.builtin Builtin.len, args := #[Operand.tmp 13], argTypes := #[22] }, false⟩,
         ⟨some 15, some (11, true), Op.binOp BinOp.eql 3 (Operand.tmp 14) (Operand.const (Value.int IntKind.i64 0)) 3, false⟩,
         ⟨some 16, none, Op.pick (Operand.tmp 11) (Operand.tmp 15) (Operand.const (Value.bool false)), false⟩,
         ⟨some 17, none, Op.move (Operand.tmp 16), false⟩,
         ⟨some 18, some (17, true), Op.fieldAddr 28 (Operand.tmp 1) 4, false⟩,
         ⟨some 19, some (17, true), Op.load 26 (Operand.tmp 18), false⟩,
         ⟨some 20, some (17, true), Op.call { callee := Callee.builtin Builtin.len, args := #[Operand.tmp 19], argTypes := #[26] }, false⟩,
         ⟨some 21, some (17, true), Op.binOp BinOp.eql 3 (Operand.tmp 20) (Operand.const (Value.int IntKind.i64 0)) 3, false⟩,
         ⟨some 22, none, Op.pick (Operand.tmp 17) (Operand.tmp 21) (Operand.const (Value.bool false)), false⟩,
         ⟨some 23, none, Op.move (Operand.tmp 22), false⟩,
         ⟨some 24, some (23, true), Op.fieldAddr 28 (Operand.tmp 1) 2, false⟩,
         ⟨some 25, some (23, true), Op.load 9 (Operand.tmp 24), false⟩,
         ⟨some 26, some (23, true), Op.call { callee := Callee.builtin Builtin.len, args := #[Operand.tmp 25], argTypes := #[9] }, false⟩,
         ⟨some 27, some (23, true), Op.binOp BinOp.leq 3 (Operand.tmp 26) (Operand.const (Value.int IntKind.i64 64)) 3, false⟩,
         ⟨some 28, none, Op.pick (Operand.tmp 23) (Operand.tmp 27) (Operand.const (Value.bool false)), false⟩,
         ⟨some 2, none, Op.assign (Operand.tmp 28), false⟩])
       .ret)
      .skip))
    (.seq
     (.seq
      (.reg [⟨some 29, none, Op.load 28 (Operand.tmp 1), false⟩,
        ⟨some 30, none, Op.call { callee := Callee.value (Operand.func 63), args := #[Operand.tmp 29], argTypes := #[28] }, false⟩,
        ⟨some 31, none, Op.unOp UnOp.not 4 (Operand.tmp 30), false⟩])
      (.cond (Operand.tmp 31)
       (.seq
        (.reg [⟨some 2, none, Op.assign (Operand.const (Value.bool false)), false⟩])
        .ret)
       .skip))
     (.seq
      (.seq
       (.reg [⟨some 32, none, Op.fieldAddr 28 (Operand.tmp 1) 4, false⟩,
         ⟨some 33, none, Op.load 26 (Operand.tmp 32), false⟩,
         ⟨some 34, none, Op.call { callee := Callee.builtin Builtin.len, args := #[Operand.tmp 33], argTypes := #[26] }, false⟩,
         ⟨some 35, none, Op.move (Operand.const (Value.int IntKind.i64 0)), false⟩])
       (.block 0
        (.loop
         (.seq
          (.reg [⟨some 36, none, Op.binOp BinOp.lss 3 (Operand.tmp 35) (Operand.tmp 34) 3, false⟩])
          (.seq
           (.cond (Operand.tmp 36)
            .skip
            (.exit 0))
           (.seq
            (.block 1
             (.seq
              (.reg [⟨some 37, none, Op.indexAddr 26 (Operand.tmp 33) (Operand.tmp 35), false⟩,
                ⟨some 38, none, Op.load 28 (Operand.tmp 37), false⟩,
                ⟨some 4, none, Op.alloc 28, false⟩,
                ⟨none, none, Op.store 28 (Operand.tmp 4) (Operand.tmp 38), false⟩])
              (.seq
               (.reg [⟨some 39, none, Op.load 28 (Operand.tmp 4), false⟩,
                 ⟨some 40, none, Op.call { callee := Callee.value (Operand.func 45), args := #[Operand.tmp 39], argTypes := #[28] }, false⟩,
                 ⟨some 41, none, Op.unOp UnOp.not 4 (Operand.tmp 40), false⟩])
               (.cond (Operand.tmp 41)
                (.seq
                 (.reg [⟨some 2, none, Op.assign (Operand.const (Value.bool false)), false⟩])
                 .ret)
                .skip))))
            (.reg [⟨some 42, none, Op.binOp BinOp.add 3 (Operand.tmp 35) (Operand.const (Value.int IntKind.i64 1)) 3, false⟩,
              ⟨some 35, none, Op.move (Operand.tmp 42), false⟩])))))))
      (.seq
       (.reg [⟨some 2, none, Op.assign (Operand.const (Value.bool true)), false⟩])
       .ret)))))
theorem ispec45 {args : List PV} {L L' : List AObj} {out : Out} (h : aw Tryd.prog L.length 43 x45 (kfin Tryd.prog [.tmp 2] L.length 43 out L') ⟨enum 0 args, L⟩) : ISpec Tryd.prog 45 args L out L' :=
  ispec_of_aw mixd (fn := Tryd.f45) (x := x45) Tryd.func45 rfl (by kernel_rfl) (by kernel_rfl) rfl h
theorem isfn45 : isFn Tryd.prog 45 = true := by kernel_rfl

def x21 : XCode :=
  (.seq
   (.reg [⟨some 1, none, Op.box 28 (Operand.tmp 0), false⟩,
     ⟨some 2, none, Op.assign (Operand.const (Value.bool false)), false⟩])
   (.seq
    (.reg [⟨some 3, none, Op.load 28 (Operand.tmp 1), false⟩,
      ⟨some 4, none, Op.call { callee := Callee.value (Operand.func 45), args := #[Operand.tmp 3], argTypes := #[28] }, false⟩,
      ⟨some 5, none, Op.move (Operand.tmp 4), false⟩,
      ⟨some 6, some (5, true), Op.load 28 (Operand.tmp 1), false⟩,
      ⟨some 7, some (5, true), Op.call { callee := Callee.value (Operand.func 46), args := #[Operand.tmp 6], argTypes := #[28] }, false⟩,
      ⟨some 8, some (5, true), Op.binOp BinOp.leq 3 (Operand.tmp 7) (Operand.const (Value.int IntKind.i64 60)) 3, false⟩,
      ⟨some 9, none, Op.pick (Operand.tmp 5) (Operand.tmp 8) (Operand.const (Value.bool false)), false⟩,
      ⟨some 10, none, Op.move (Operand.tmp 9), false⟩,
      ⟨some 11, some (10, true), Op.load 28 (Operand.tmp 1), false⟩,
      ⟨some 12, some (10, true), Op.call { callee := Callee.value (Operand.func 47), args := #[Operand.tmp 11], argTypes := #[28] }, false⟩,
      ⟨some 13, some (10, true), Op.binOp BinOp.leq 3 (Operand.tmp 12) (Operand.const (Value.int IntKind.i64 12)) 3, false⟩,
      ⟨some 14, none, Op.pick (Operand.tmp 10) (Operand.tmp 13) (Operand.const (Value.bool false)), false⟩,
      ⟨some 2, none, Op.assign (Operand.tmp 14), false⟩])
    .ret))
theorem ispec21 {args : List PV} {L L' : List AObj} {out : Out} (h : aw Tryd.prog L.length 15 x21 (kfin Tryd.prog [.tmp 2] L.length 15 out L') ⟨enum 0 args, L⟩) : ISpec Tryd.prog 21 args L out L' :=
  ispec_of_aw mixd (fn := Tryd.f21) (x := x21) Tryd.func21 rfl (by kernel_rfl) (by kernel_rfl) rfl h
theorem isfn21 : isFn Tryd.prog 21 = true := by kernel_rfl



noncomputable def dec (P : Prop) : Bool := @decide P (Classical.propDecidable P)
theorem dec_true {P : Prop} (h : P) : dec P = true := by unfold dec; exact @decide_eq_true P (Classical.propDecidable P) h
theorem dec_false {P : Prop} (h : ¬ P) : dec P = false := by unfold dec; exact @decide_eq_false P (Classical.propDecidable P) h

theorem spec75 (a : At) (k v : BA) : ISpec Tryd.prog 75 [encA a, .ptr 0 0] [.cells [.str k, .str v]] (.ret (.bool (decide (a.1 = k)))) [.cells [.str k, .str v]] := by
  refine ispec75 ?_
  simp only [x75, enum, encA, j00,j01,j02,j03,j04,j05,j06,j07,j08,j09,j0a,j0b,j0c,j0d,j0e,j0f,j0g,j0h,j0i,j0j,j0k,j0l,j0m,j0n,j0o,j0p,j0q,j0r,j0s,j0t,j3k,j3l,j3m,j3n,j3o,j3p,setAll,j3q,j3r,j3s,j3t,j3u,j3v,j3w,j3x,j3y,j3z,j40,j41,j42,j43,j44,j45,j46,j47,j48,j49,j4a,j4b,j4c,j4d,j4e,j4f,j4g,j4h,j4i,j4j,j4k,j4l,j4m,j4n,j4o,j4p,j4q,j4r,j4s,j4t,j4u,j4v,j4w,j4x,j4y,j4z,j50,j51,j52,j53,j54,j55,j56,j57,Bool.not_true,Bool.not_false,Bool.true_and,Bool.and_true,Bool.false_and,Bool.and_false,Bool.true_or,Bool.or_true,Bool.false_or,Bool.or_false,cond_true,cond_false,aAllocN,aIndex,xLoad,xStore,xField,xFA,xIA,xLen,xMM,xAlloc,xIface,xInt,xStr,xIs,xBin,xAgg,xUn,xPick,xExt,knd,fls,ifc,isBoolK,isPtrK,isFuncK,isIfK,j58,j59,Nat.reduceBEq,eq_self,j5a,j5b,j5c,j5d,j5e,j5f,j5g,j5h,j5i,j5j,j5k,j5l,j5m,j5n,j5o,j5p,j5q,j5r,j5s,j5t,j5u,j5v,j5w,j5x,j5y,j5z,j60,j61,j62,j63,j64,j65,j66,j67,j68,j69,j6a,j6b,j6c,j6d,j6e,j6f,j6g,j6h,j6i,j6j,j6k,j6l,j6m,j6n,splice,List.size_toArray,decide_true,decide_false,Nat.reduceLeDiff,List.getD_cons_zero,List.getD_cons_succ,List.drop_succ_cons,List.drop_zero,List.take_succ_cons,List.take_zero,List.take_nil,List.drop_nil,Bool.false_eq_true,List.length_map,List.length_cons,List.length_nil,List.append_nil,List.nil_append,List.cons_append,List.getElem?_cons_succ,List.getElem?_cons_zero,List.length_append,List.set_cons_succ,List.set_cons_zero,List.map_cons,List.map_nil,if_true,if_false,Nat.reduceEqDiff,Nat.reduceAdd,Nat.reduceLT,reduceIte,true_and,and_true,and_self,Nat.zero_add,Nat.add_zero,ge_iff_le,gt_iff_lt,List.filter_cons,List.filter_nil,List.replicate_zero,List.replicate_succ,List.reverse_cons,List.reverse_nil,Option.map_some,Option.map_none, ti4, ti9, ti47]
  exact kret_keep [0] rfl (by simp) (by simp) (by simp)
def idxK (k : BA) (l : List At) : Int := match l.findIdx? fun a => decide (a.1 = k) with
  | some i => i
  | none => -1
theorem idxK_nonneg (k : BA) (l : List At) : 0 ≤ idxK k l ↔ ∃ a ∈ l, a.1 = k := by
  unfold idxK
  cases h : l.findIdx? fun a => decide (a.1 = k) with
  | none =>
    rw [List.findIdx?_eq_none_iff] at h
    simp only [decide_eq_false_iff_not] at h ⊢
    constructor
    · intro h1; omega
    · rintro ⟨a, ha, hk⟩; exact absurd hk (h a ha)
  | some i =>
    rw [List.findIdx?_eq_some_iff_getElem] at h
    obtain ⟨h1, h2, h3⟩ := h
    simp only
    constructor
    · intro _; exact ⟨l[i], List.getElem_mem h1, by simpa using h2⟩
    · intro _; omega
theorem spec89 (l : List At) (k v : BA) : ISpec Tryd.prog 89 [.slice .dead (l.map encA), .func 75 [.ptr 0 0]] [.cells [.str k, .str v]] (.ret (.int .i64 (idxK k l))) [.cells [.str k, .str v]] := by
  have key : ∀ {out : Out}, (∀ (i : Nat) (h : i < l.length), l[i].1 = k → (∀ (j : Nat) (hj : j < i), l[j].1 ≠ k) → out = .ret (.int .i64 i)) → ((∀ (j : Nat) (hj : j < l.length), l[j].1 ≠ k) → out = .ret (.int .i64 (-1))) →
      ISpec Tryd.prog 89 [.slice .dead (l.map encA), .func 75 [.ptr 0 0]] [.cells [.str k, .str v]] out [.cells [.str k, .str v]] := by
    intro out hyes hno
    refine ispec_bd fun hbd => ispec89 ?_
    have hlen : l.length ≤ 9223372036854775807 := by
      simp only [PV.bdL, PV.bd, List.length_map] at hbd
      exact hbd.1.1
    clear hbd
    simp only [x89, enum, j00,j01,j02,j03,j04,j05,j06,j07,j08,j09,j0a,j0b,j0c,j0d,j0e,j0f,j0g,j0h,j0i,j0j,j0k,j0l,j0m,j0n,j0o,j0p,j0q,j0r,j0s,j0t,j3k,j3l,j3m,j3n,j3o,j3p,setAll,j3q,j3r,j3s,j3t,j3u,j3v,j3w,j3x,j3y,j3z,j40,j41,j42,j43,j44,j45,j46,j47,j48,j49,j4a,j4b,j4c,j4d,j4e,j4f,j4g,j4h,j4i,j4j,j4k,j4l,j4m,j4n,j4o,j4p,j4q,j4r,j4s,j4t,j4u,j4v,j4w,j4x,j4y,j4z,j50,j51,j52,j53,j54,j55,j56,j57,Bool.not_true,Bool.not_false,Bool.true_and,Bool.and_true,Bool.false_and,Bool.and_false,Bool.true_or,Bool.or_true,Bool.false_or,Bool.or_false,cond_true,cond_false,aAllocN,aIndex,xLoad,xStore,xField,xFA,xIA,xLen,xMM,xAlloc,xIface,xInt,xStr,xIs,xBin,xAgg,xUn,xPick,xExt,knd,fls,ifc,isBoolK,isPtrK,isFuncK,isIfK,j58,j59,Nat.reduceBEq,eq_self,j5a,j5b,j5c,j5d,j5e,j5f,j5g,j5h,j5i,j5j,j5k,j5l,j5m,j5n,j5o,j5p,j5q,j5r,j5s,j5t,j5u,j5v,j5w,j5x,j5y,j5z,j60,j61,j62,j63,j64,j65,j66,j67,j68,j69,j6a,j6b,j6c,j6d,j6e,j6f,j6g,j6h,j6i,j6j,j6k,j6l,j6m,j6n,splice,List.size_toArray,decide_true,decide_false,Nat.reduceLeDiff,List.getD_cons_zero,List.getD_cons_succ,List.drop_succ_cons,List.drop_zero,List.take_succ_cons,List.take_zero,List.take_nil,List.drop_nil,Bool.false_eq_true,List.length_map,List.length_cons,List.length_nil,List.append_nil,List.nil_append,List.cons_append,List.getElem?_cons_succ,List.getElem?_cons_zero,List.length_append,List.set_cons_succ,List.set_cons_zero,List.map_cons,List.map_nil,if_true,if_false,Nat.reduceEqDiff,Nat.reduceAdd,Nat.reduceLT,reduceIte,true_and,and_true,and_self,Nat.zero_add,Nat.add_zero,ge_iff_le,gt_iff_lt,List.filter_cons,List.filter_nil,List.replicate_zero,List.replicate_succ,List.reverse_cons,List.reverse_nil,Option.map_some,Option.map_none, ti3, ti22]
    refine aw_loop (fun i : Nat => ⟨[(0, .slice .dead (l.map encA)), (1, .func 75 [.ptr 0 0]), (7, .int .i64 l.length), (8, .int .i64 i)], [.cells [.str k, .str v]]⟩) (fun i => i ≤ l.length ∧ ∀ (j : Nat) (hj : j < i) (hl : j < l.length), l[j].1 ≠ k) (fun i => l.length - i) 0 (by simp) (.to [0] (by simp) (by simp) (by simp)) ?_
    rintro i ⟨hi, hb⟩
    by_cases h : i < l.length
    · have hr : (0 : Int) ≤ (i : Int) := by omega
      simp only [j00,j01,j02,j03,j04,j05,j06,j07,j08,j09,j0a,j0b,j0c,j0d,j0e,j0f,j0g,j0h,j0i,j0j,j0k,j0l,j0m,j0n,j0o,j0p,j0q,j0r,j0s,j0t,j3k,j3l,j3m,j3n,j3o,j3p,setAll,j3q,j3r,j3s,j3t,j3u,j3v,j3w,j3x,j3y,j3z,j40,j41,j42,j43,j44,j45,j46,j47,j48,j49,j4a,j4b,j4c,j4d,j4e,j4f,j4g,j4h,j4i,j4j,j4k,j4l,j4m,j4n,j4o,j4p,j4q,j4r,j4s,j4t,j4u,j4v,j4w,j4x,j4y,j4z,j50,j51,j52,j53,j54,j55,j56,j57,Bool.not_true,Bool.not_false,Bool.true_and,Bool.and_true,Bool.false_and,Bool.and_false,Bool.true_or,Bool.or_true,Bool.false_or,Bool.or_false,cond_true,cond_false,aAllocN,aIndex,xLoad,xStore,xField,xFA,xIA,xLen,xMM,xAlloc,xIface,xInt,xStr,xIs,xBin,xAgg,xUn,xPick,xExt,knd,fls,ifc,isBoolK,isPtrK,isFuncK,isIfK,j58,j59,Nat.reduceBEq,eq_self,j5a,j5b,j5c,j5d,j5e,j5f,j5g,j5h,j5i,j5j,j5k,j5l,j5m,j5n,j5o,j5p,j5q,j5r,j5s,j5t,j5u,j5v,j5w,j5x,j5y,j5z,j60,j61,j62,j63,j64,j65,j66,j67,j68,j69,j6a,j6b,j6c,j6d,j6e,j6f,j6g,j6h,j6i,j6j,j6k,j6l,j6m,j6n,splice,List.size_toArray,decide_true,decide_false,Nat.reduceLeDiff,List.getD_cons_zero,List.getD_cons_succ,List.drop_succ_cons,List.drop_zero,List.take_succ_cons,List.take_zero,List.take_nil,List.drop_nil,Bool.false_eq_true,List.length_map,List.length_cons,List.length_nil,List.append_nil,List.nil_append,List.cons_append,List.getElem?_cons_succ,List.getElem?_cons_zero,List.length_append,List.set_cons_succ,List.set_cons_zero,List.map_cons,List.map_nil,if_true,if_false,Nat.reduceEqDiff,Nat.reduceAdd,Nat.reduceLT,reduceIte,true_and,and_true,and_self,Nat.zero_add,Nat.add_zero,ge_iff_le,gt_iff_lt,List.filter_cons,List.filter_nil,List.replicate_zero,List.replicate_succ,List.reverse_cons,List.reverse_nil,Option.map_some,Option.map_none, ti3, ti22, ti47, hr, Int.toNat_natCast, getD_map h, Int.ofNat_lt, h, encA]
      refine fun_iret [0] [.cells [.str k, .str v]] isfn75 (r := .bool (decide (l[i].1 = k))) ?_ (by simp) fun _ => ?_
      · simpa [encA] using spec75 l[i] k v
      simp only [j00,j01,j02,j03,j04,j05,j06,j07,j08,j09,j0a,j0b,j0c,j0d,j0e,j0f,j0g,j0h,j0i,j0j,j0k,j0l,j0m,j0n,j0o,j0p,j0q,j0r,j0s,j0t,j3k,j3l,j3m,j3n,j3o,j3p,setAll,j3q,j3r,j3s,j3t,j3u,j3v,j3w,j3x,j3y,j3z,j40,j41,j42,j43,j44,j45,j46,j47,j48,j49,j4a,j4b,j4c,j4d,j4e,j4f,j4g,j4h,j4i,j4j,j4k,j4l,j4m,j4n,j4o,j4p,j4q,j4r,j4s,j4t,j4u,j4v,j4w,j4x,j4y,j4z,j50,j51,j52,j53,j54,j55,j56,j57,Bool.not_true,Bool.not_false,Bool.true_and,Bool.and_true,Bool.false_and,Bool.and_false,Bool.true_or,Bool.or_true,Bool.false_or,Bool.or_false,cond_true,cond_false,aAllocN,aIndex,xLoad,xStore,xField,xFA,xIA,xLen,xMM,xAlloc,xIface,xInt,xStr,xIs,xBin,xAgg,xUn,xPick,xExt,knd,fls,ifc,isBoolK,isPtrK,isFuncK,isIfK,j58,j59,Nat.reduceBEq,eq_self,j5a,j5b,j5c,j5d,j5e,j5f,j5g,j5h,j5i,j5j,j5k,j5l,j5m,j5n,j5o,j5p,j5q,j5r,j5s,j5t,j5u,j5v,j5w,j5x,j5y,j5z,j60,j61,j62,j63,j64,j65,j66,j67,j68,j69,j6a,j6b,j6c,j6d,j6e,j6f,j6g,j6h,j6i,j6j,j6k,j6l,j6m,j6n,splice,List.size_toArray,decide_true,decide_false,Nat.reduceLeDiff,List.getD_cons_zero,List.getD_cons_succ,List.drop_succ_cons,List.drop_zero,List.take_succ_cons,List.take_zero,List.take_nil,List.drop_nil,Bool.false_eq_true,List.length_map,List.length_cons,List.length_nil,List.append_nil,List.nil_append,List.cons_append,List.getElem?_cons_succ,List.getElem?_cons_zero,List.length_append,List.set_cons_succ,List.set_cons_zero,List.map_cons,List.map_nil,if_true,if_false,Nat.reduceEqDiff,Nat.reduceAdd,Nat.reduceLT,reduceIte,true_and,and_true,and_self,Nat.zero_add,Nat.add_zero,ge_iff_le,gt_iff_lt,List.filter_cons,List.filter_nil,List.replicate_zero,List.replicate_succ,List.reverse_cons,List.reverse_nil,Option.map_some,Option.map_none, ti4, backN, backSet, backNew, AObj.ren, PV.ren, PV.renL]
      by_cases hk : l[i].1 = k
      · obtain rfl := hyes i h hk fun j hj => hb j hj (by omega)
        simp only [hk, j00,j01,j02,j03,j04,j05,j06,j07,j08,j09,j0a,j0b,j0c,j0d,j0e,j0f,j0g,j0h,j0i,j0j,j0k,j0l,j0m,j0n,j0o,j0p,j0q,j0r,j0s,j0t,j3k,j3l,j3m,j3n,j3o,j3p,setAll,j3q,j3r,j3s,j3t,j3u,j3v,j3w,j3x,j3y,j3z,j40,j41,j42,j43,j44,j45,j46,j47,j48,j49,j4a,j4b,j4c,j4d,j4e,j4f,j4g,j4h,j4i,j4j,j4k,j4l,j4m,j4n,j4o,j4p,j4q,j4r,j4s,j4t,j4u,j4v,j4w,j4x,j4y,j4z,j50,j51,j52,j53,j54,j55,j56,j57,Bool.not_true,Bool.not_false,Bool.true_and,Bool.and_true,Bool.false_and,Bool.and_false,Bool.true_or,Bool.or_true,Bool.false_or,Bool.or_false,cond_true,cond_false,aAllocN,aIndex,xLoad,xStore,xField,xFA,xIA,xLen,xMM,xAlloc,xIface,xInt,xStr,xIs,xBin,xAgg,xUn,xPick,xExt,knd,fls,ifc,isBoolK,isPtrK,isFuncK,isIfK,j58,j59,Nat.reduceBEq,eq_self,j5a,j5b,j5c,j5d,j5e,j5f,j5g,j5h,j5i,j5j,j5k,j5l,j5m,j5n,j5o,j5p,j5q,j5r,j5s,j5t,j5u,j5v,j5w,j5x,j5y,j5z,j60,j61,j62,j63,j64,j65,j66,j67,j68,j69,j6a,j6b,j6c,j6d,j6e,j6f,j6g,j6h,j6i,j6j,j6k,j6l,j6m,j6n,splice,List.size_toArray,decide_true,decide_false,Nat.reduceLeDiff,List.getD_cons_zero,List.getD_cons_succ,List.drop_succ_cons,List.drop_zero,List.take_succ_cons,List.take_zero,List.take_nil,List.drop_nil,Bool.false_eq_true,List.length_map,List.length_cons,List.length_nil,List.append_nil,List.nil_append,List.cons_append,List.getElem?_cons_succ,List.getElem?_cons_zero,List.length_append,List.set_cons_succ,List.set_cons_zero,List.map_cons,List.map_nil,if_true,if_false,Nat.reduceEqDiff,Nat.reduceAdd,Nat.reduceLT,reduceIte,true_and,and_true,and_self,Nat.zero_add,Nat.add_zero,ge_iff_le,gt_iff_lt,List.filter_cons,List.filter_nil,List.replicate_zero,List.replicate_succ,List.reverse_cons,List.reverse_nil,Option.map_some,Option.map_none, ti3]
        exact kret_keep [0] rfl (by simp) (by simp) (by simp)
      · simp only [hk, j00,j01,j02,j03,j04,j05,j06,j07,j08,j09,j0a,j0b,j0c,j0d,j0e,j0f,j0g,j0h,j0i,j0j,j0k,j0l,j0m,j0n,j0o,j0p,j0q,j0r,j0s,j0t,j3k,j3l,j3m,j3n,j3o,j3p,setAll,j3q,j3r,j3s,j3t,j3u,j3v,j3w,j3x,j3y,j3z,j40,j41,j42,j43,j44,j45,j46,j47,j48,j49,j4a,j4b,j4c,j4d,j4e,j4f,j4g,j4h,j4i,j4j,j4k,j4l,j4m,j4n,j4o,j4p,j4q,j4r,j4s,j4t,j4u,j4v,j4w,j4x,j4y,j4z,j50,j51,j52,j53,j54,j55,j56,j57,Bool.not_true,Bool.not_false,Bool.true_and,Bool.and_true,Bool.false_and,Bool.and_false,Bool.true_or,Bool.or_true,Bool.false_or,Bool.or_false,cond_true,cond_false,aAllocN,aIndex,xLoad,xStore,xField,xFA,xIA,xLen,xMM,xAlloc,xIface,xInt,xStr,xIs,xBin,xAgg,xUn,xPick,xExt,knd,fls,ifc,isBoolK,isPtrK,isFuncK,isIfK,j58,j59,Nat.reduceBEq,eq_self,j5a,j5b,j5c,j5d,j5e,j5f,j5g,j5h,j5i,j5j,j5k,j5l,j5m,j5n,j5o,j5p,j5q,j5r,j5s,j5t,j5u,j5v,j5w,j5x,j5y,j5z,j60,j61,j62,j63,j64,j65,j66,j67,j68,j69,j6a,j6b,j6c,j6d,j6e,j6f,j6g,j6h,j6i,j6j,j6k,j6l,j6m,j6n,splice,List.size_toArray,decide_true,decide_false,Nat.reduceLeDiff,List.getD_cons_zero,List.getD_cons_succ,List.drop_succ_cons,List.drop_zero,List.take_succ_cons,List.take_zero,List.take_nil,List.drop_nil,Bool.false_eq_true,List.length_map,List.length_cons,List.length_nil,List.append_nil,List.nil_append,List.cons_append,List.getElem?_cons_succ,List.getElem?_cons_zero,List.length_append,List.set_cons_succ,List.set_cons_zero,List.map_cons,List.map_nil,if_true,if_false,Nat.reduceEqDiff,Nat.reduceAdd,Nat.reduceLT,reduceIte,true_and,and_true,and_self,Nat.zero_add,Nat.add_zero,ge_iff_le,gt_iff_lt,List.filter_cons,List.filter_nil,List.replicate_zero,List.replicate_succ,List.reverse_cons,List.reverse_nil,Option.map_some,Option.map_none, ti3, wrapS i _ h hlen]
        refine ⟨i + 1, ⟨by omega, fun j hj hl => ?_⟩, .to [0] (by simp) (by simp) (by simp), by omega⟩
        by_cases e : j = i
        · subst e; exact hk
        · exact hb j (by omega) hl
    · obtain rfl := hno fun j hj => hb j (by omega) hj
      simp only [j00,j01,j02,j03,j04,j05,j06,j07,j08,j09,j0a,j0b,j0c,j0d,j0e,j0f,j0g,j0h,j0i,j0j,j0k,j0l,j0m,j0n,j0o,j0p,j0q,j0r,j0s,j0t,j3k,j3l,j3m,j3n,j3o,j3p,setAll,j3q,j3r,j3s,j3t,j3u,j3v,j3w,j3x,j3y,j3z,j40,j41,j42,j43,j44,j45,j46,j47,j48,j49,j4a,j4b,j4c,j4d,j4e,j4f,j4g,j4h,j4i,j4j,j4k,j4l,j4m,j4n,j4o,j4p,j4q,j4r,j4s,j4t,j4u,j4v,j4w,j4x,j4y,j4z,j50,j51,j52,j53,j54,j55,j56,j57,Bool.not_true,Bool.not_false,Bool.true_and,Bool.and_true,Bool.false_and,Bool.and_false,Bool.true_or,Bool.or_true,Bool.false_or,Bool.or_false,cond_true,cond_false,aAllocN,aIndex,xLoad,xStore,xField,xFA,xIA,xLen,xMM,xAlloc,xIface,xInt,xStr,xIs,xBin,xAgg,xUn,xPick,xExt,knd,fls,ifc,isBoolK,isPtrK,isFuncK,isIfK,j58,j59,Nat.reduceBEq,eq_self,j5a,j5b,j5c,j5d,j5e,j5f,j5g,j5h,j5i,j5j,j5k,j5l,j5m,j5n,j5o,j5p,j5q,j5r,j5s,j5t,j5u,j5v,j5w,j5x,j5y,j5z,j60,j61,j62,j63,j64,j65,j66,j67,j68,j69,j6a,j6b,j6c,j6d,j6e,j6f,j6g,j6h,j6i,j6j,j6k,j6l,j6m,j6n,splice,List.size_toArray,decide_true,decide_false,Nat.reduceLeDiff,List.getD_cons_zero,List.getD_cons_succ,List.drop_succ_cons,List.drop_zero,List.take_succ_cons,List.take_zero,List.take_nil,List.drop_nil,Bool.false_eq_true,List.length_map,List.length_cons,List.length_nil,List.append_nil,List.nil_append,List.cons_append,List.getElem?_cons_succ,List.getElem?_cons_zero,List.length_append,List.set_cons_succ,List.set_cons_zero,List.map_cons,List.map_nil,if_true,if_false,Nat.reduceEqDiff,Nat.reduceAdd,Nat.reduceLT,reduceIte,true_and,and_true,and_self,Nat.zero_add,Nat.add_zero,ge_iff_le,gt_iff_lt,List.filter_cons,List.filter_nil,List.replicate_zero,List.replicate_succ,List.reverse_cons,List.reverse_nil,Option.map_some,Option.map_none, ti3, Int.ofNat_lt, h]
      exact kret_keep [0] rfl (by simp) (by simp) (by simp)
  refine key (fun i h hk hb => ?_) fun hb => ?_
  · have : l.findIdx? (fun a => decide (a.1 = k)) = some i := by
      rw [List.findIdx?_eq_some_iff_getElem]
      exact ⟨h, by simpa using hk, fun j hj => by simpa using hb j hj⟩
    rw [idxK, this]
  · have : l.findIdx? (fun a => decide (a.1 = k)) = none := by
      rw [List.findIdx?_eq_none_iff]
      intro a ha
      obtain ⟨j, hj, rfl⟩ := List.getElem_of_mem ha
      simpa using hb j hj
    rw [idxK, this]
theorem spec76 (l : List At) (k v : BA) : ISpec Tryd.prog 76 [.slice .dead (l.map encA), .func 75 [.ptr 0 0]] [.cells [.str k, .str v]] (.ret (.bool (dec (∃ a ∈ l, a.1 = k)))) [.cells [.str k, .str v]] := by
  refine ispec76 ?_
  simp only [x76, enum, j00,j01,j02,j03,j04,j05,j06,j07,j08,j09,j0a,j0b,j0c,j0d,j0e,j0f,j0g,j0h,j0i,j0j,j0k,j0l,j0m,j0n,j0o,j0p,j0q,j0r,j0s,j0t,j3k,j3l,j3m,j3n,j3o,j3p,setAll,j3q,j3r,j3s,j3t,j3u,j3v,j3w,j3x,j3y,j3z,j40,j41,j42,j43,j44,j45,j46,j47,j48,j49,j4a,j4b,j4c,j4d,j4e,j4f,j4g,j4h,j4i,j4j,j4k,j4l,j4m,j4n,j4o,j4p,j4q,j4r,j4s,j4t,j4u,j4v,j4w,j4x,j4y,j4z,j50,j51,j52,j53,j54,j55,j56,j57,Bool.not_true,Bool.not_false,Bool.true_and,Bool.and_true,Bool.false_and,Bool.and_false,Bool.true_or,Bool.or_true,Bool.false_or,Bool.or_false,cond_true,cond_false,aAllocN,aIndex,xLoad,xStore,xField,xFA,xIA,xLen,xMM,xAlloc,xIface,xInt,xStr,xIs,xBin,xAgg,xUn,xPick,xExt,knd,fls,ifc,isBoolK,isPtrK,isFuncK,isIfK,j58,j59,Nat.reduceBEq,eq_self,j5a,j5b,j5c,j5d,j5e,j5f,j5g,j5h,j5i,j5j,j5k,j5l,j5m,j5n,j5o,j5p,j5q,j5r,j5s,j5t,j5u,j5v,j5w,j5x,j5y,j5z,j60,j61,j62,j63,j64,j65,j66,j67,j68,j69,j6a,j6b,j6c,j6d,j6e,j6f,j6g,j6h,j6i,j6j,j6k,j6l,j6m,j6n,splice,List.size_toArray,decide_true,decide_false,Nat.reduceLeDiff,List.getD_cons_zero,List.getD_cons_succ,List.drop_succ_cons,List.drop_zero,List.take_succ_cons,List.take_zero,List.take_nil,List.drop_nil,Bool.false_eq_true,List.length_map,List.length_cons,List.length_nil,List.append_nil,List.nil_append,List.cons_append,List.getElem?_cons_succ,List.getElem?_cons_zero,List.length_append,List.set_cons_succ,List.set_cons_zero,List.map_cons,List.map_nil,if_true,if_false,Nat.reduceEqDiff,Nat.reduceAdd,Nat.reduceLT,reduceIte,true_and,and_true,and_self,Nat.zero_add,Nat.add_zero,ge_iff_le,gt_iff_lt,List.filter_cons,List.filter_nil,List.replicate_zero,List.replicate_succ,List.reverse_cons,List.reverse_nil,Option.map_some,Option.map_none, ti3, ti22, ti4]
  refine fun_iret [0] [.cells [.str k, .str v]] isfn89 (r := .int .i64 (idxK k l)) ?_ (by simp) fun _ => ?_
  · simpa [bareL_encA] using spec89 l k v
  have hi := idxK_nonneg k l
  by_cases h : ∃ a ∈ l, a.1 = k
  · have h' := hi.2 h
    simp only [j00,j01,j02,j03,j04,j05,j06,j07,j08,j09,j0a,j0b,j0c,j0d,j0e,j0f,j0g,j0h,j0i,j0j,j0k,j0l,j0m,j0n,j0o,j0p,j0q,j0r,j0s,j0t,j3k,j3l,j3m,j3n,j3o,j3p,setAll,j3q,j3r,j3s,j3t,j3u,j3v,j3w,j3x,j3y,j3z,j40,j41,j42,j43,j44,j45,j46,j47,j48,j49,j4a,j4b,j4c,j4d,j4e,j4f,j4g,j4h,j4i,j4j,j4k,j4l,j4m,j4n,j4o,j4p,j4q,j4r,j4s,j4t,j4u,j4v,j4w,j4x,j4y,j4z,j50,j51,j52,j53,j54,j55,j56,j57,Bool.not_true,Bool.not_false,Bool.true_and,Bool.and_true,Bool.false_and,Bool.and_false,Bool.true_or,Bool.or_true,Bool.false_or,Bool.or_false,cond_true,cond_false,aAllocN,aIndex,xLoad,xStore,xField,xFA,xIA,xLen,xMM,xAlloc,xIface,xInt,xStr,xIs,xBin,xAgg,xUn,xPick,xExt,knd,fls,ifc,isBoolK,isPtrK,isFuncK,isIfK,j58,j59,Nat.reduceBEq,eq_self,j5a,j5b,j5c,j5d,j5e,j5f,j5g,j5h,j5i,j5j,j5k,j5l,j5m,j5n,j5o,j5p,j5q,j5r,j5s,j5t,j5u,j5v,j5w,j5x,j5y,j5z,j60,j61,j62,j63,j64,j65,j66,j67,j68,j69,j6a,j6b,j6c,j6d,j6e,j6f,j6g,j6h,j6i,j6j,j6k,j6l,j6m,j6n,splice,List.size_toArray,decide_true,decide_false,Nat.reduceLeDiff,List.getD_cons_zero,List.getD_cons_succ,List.drop_succ_cons,List.drop_zero,List.take_succ_cons,List.take_zero,List.take_nil,List.drop_nil,Bool.false_eq_true,List.length_map,List.length_cons,List.length_nil,List.append_nil,List.nil_append,List.cons_append,List.getElem?_cons_succ,List.getElem?_cons_zero,List.length_append,List.set_cons_succ,List.set_cons_zero,List.map_cons,List.map_nil,if_true,if_false,Nat.reduceEqDiff,Nat.reduceAdd,Nat.reduceLT,reduceIte,true_and,and_true,and_self,Nat.zero_add,Nat.add_zero,ge_iff_le,gt_iff_lt,List.filter_cons,List.filter_nil,List.replicate_zero,List.replicate_succ,List.reverse_cons,List.reverse_nil,Option.map_some,Option.map_none, ti3, ti4, backN, backSet, backNew, AObj.ren, PV.ren, PV.renL, h']
    exact kret_keep [0] rfl (by simp) (by simp) (by rw [dec_true h]; rfl)
  · have h' : ¬ 0 ≤ idxK k l := fun e => h (hi.1 e)
    simp only [j00,j01,j02,j03,j04,j05,j06,j07,j08,j09,j0a,j0b,j0c,j0d,j0e,j0f,j0g,j0h,j0i,j0j,j0k,j0l,j0m,j0n,j0o,j0p,j0q,j0r,j0s,j0t,j3k,j3l,j3m,j3n,j3o,j3p,setAll,j3q,j3r,j3s,j3t,j3u,j3v,j3w,j3x,j3y,j3z,j40,j41,j42,j43,j44,j45,j46,j47,j48,j49,j4a,j4b,j4c,j4d,j4e,j4f,j4g,j4h,j4i,j4j,j4k,j4l,j4m,j4n,j4o,j4p,j4q,j4r,j4s,j4t,j4u,j4v,j4w,j4x,j4y,j4z,j50,j51,j52,j53,j54,j55,j56,j57,Bool.not_true,Bool.not_false,Bool.true_and,Bool.and_true,Bool.false_and,Bool.and_false,Bool.true_or,Bool.or_true,Bool.false_or,Bool.or_false,cond_true,cond_false,aAllocN,aIndex,xLoad,xStore,xField,xFA,xIA,xLen,xMM,xAlloc,xIface,xInt,xStr,xIs,xBin,xAgg,xUn,xPick,xExt,knd,fls,ifc,isBoolK,isPtrK,isFuncK,isIfK,j58,j59,Nat.reduceBEq,eq_self,j5a,j5b,j5c,j5d,j5e,j5f,j5g,j5h,j5i,j5j,j5k,j5l,j5m,j5n,j5o,j5p,j5q,j5r,j5s,j5t,j5u,j5v,j5w,j5x,j5y,j5z,j60,j61,j62,j63,j64,j65,j66,j67,j68,j69,j6a,j6b,j6c,j6d,j6e,j6f,j6g,j6h,j6i,j6j,j6k,j6l,j6m,j6n,splice,List.size_toArray,decide_true,decide_false,Nat.reduceLeDiff,List.getD_cons_zero,List.getD_cons_succ,List.drop_succ_cons,List.drop_zero,List.take_succ_cons,List.take_zero,List.take_nil,List.drop_nil,Bool.false_eq_true,List.length_map,List.length_cons,List.length_nil,List.append_nil,List.nil_append,List.cons_append,List.getElem?_cons_succ,List.getElem?_cons_zero,List.length_append,List.set_cons_succ,List.set_cons_zero,List.map_cons,List.map_nil,if_true,if_false,Nat.reduceEqDiff,Nat.reduceAdd,Nat.reduceLT,reduceIte,true_and,and_true,and_self,Nat.zero_add,Nat.add_zero,ge_iff_le,gt_iff_lt,List.filter_cons,List.filter_nil,List.replicate_zero,List.replicate_succ,List.reverse_cons,List.reverse_nil,Option.map_some,Option.map_none, ti3, ti4, backN, backSet, backNew, AObj.ren, PV.ren, PV.renL, h']
    exact kret_keep [0] rfl (by simp) (by simp) (by rw [dec_false h]; rfl)

def letB : BA := ⟨#[97, 98, 99, 100, 101, 102, 103, 104, 105, 106, 107, 108, 109, 110, 111, 112, 113, 114, 115, 116, 117, 118, 119, 120, 121, 122, 48, 49, 50, 51, 52, 53, 54, 55, 56, 57]⟩
theorem letB_def : (⟨#[97, 98, 99, 100, 101, 102, 103, 104, 105, 106, 107, 108, 109, 110, 111, 112, 113, 114, 115, 116, 117, 118, 119, 120, 121, 122, 48, 49, 50, 51, 52, 53, 54, 55, 56, 57]⟩ : BA) = letB := rfl
theorem const_letB : ofConst (.string letB) = .str letB := j3y (by decide)
theorem trim_letB (s : BA) : PSpec Tryd.prog 74 [.str s, .str letB] (.ret (.str (trimB letB s))) := spec74 s letB (by decide) (by decide)
/-- The i-th attribute stands well. -/
def atOK (l : List At) (i : Nat) : Prop := ∀ h : i < l.length, l[i].1 ≠ eB ∧ ByteArray.size l[i].1 ≤ 64 ∧ ByteArray.size l[i].2 ≤ 64 ∧ ¬ ∃ a ∈ l.take i, a.1 = l[i].1
def elemOK (t : Tr) : Prop := (ByteArray.size t.g ≤ 16 ∧ trimB letB t.g = eB ∧ t.t = eB ∧ t.ks.length ≤ 24 ∧ ByteArray.size t.k ≤ 64) ∧ ∀ i, atOK t.ats i

theorem spec63 (t : Tr) : PSpec Tryd.prog 63 [encT t] (.ret (.bool (dec (elemOK t)))) := by
  have key : ∀ {out : Out}, (elemOK t → out = .ret (.bool true)) → (¬ elemOK t → out = .ret (.bool false)) → PSpec Tryd.prog 63 [encT t] out := by
    intro out hyes hno
    refine ispec_bd fun hbd => ispec63 ?_
    have hlen : t.ats.length ≤ 9223372036854775807 := by
      rw [encT_eq] at hbd
      simp only [PV.bdL, PV.bd, List.length_map] at hbd
      exact hbd.1.2.2.2.1.1
    clear hbd
    rw [encT_eq]
    simp only [x63, enum, j00,j01,j02,j03,j04,j05,j06,j07,j08,j09,j0a,j0b,j0c,j0d,j0e,j0f,j0g,j0h,j0i,j0j,j0k,j0l,j0m,j0n,j0o,j0p,j0q,j0r,j0s,j0t,j3k,j3l,j3m,j3n,j3o,j3p,setAll,j3q,j3r,j3s,j3t,j3u,j3v,j3w,j3x,j3y,j3z,j40,j41,j42,j43,j44,j45,j46,j47,j48,j49,j4a,j4b,j4c,j4d,j4e,j4f,j4g,j4h,j4i,j4j,j4k,j4l,j4m,j4n,j4o,j4p,j4q,j4r,j4s,j4t,j4u,j4v,j4w,j4x,j4y,j4z,j50,j51,j52,j53,j54,j55,j56,j57,Bool.not_true,Bool.not_false,Bool.true_and,Bool.and_true,Bool.false_and,Bool.and_false,Bool.true_or,Bool.or_true,Bool.false_or,Bool.or_false,cond_true,cond_false,aAllocN,aIndex,xLoad,xStore,xField,xFA,xIA,xLen,xMM,xAlloc,xIface,xInt,xStr,xIs,xBin,xAgg,xUn,xPick,xExt,knd,fls,ifc,isBoolK,isPtrK,isFuncK,isIfK,j58,j59,Nat.reduceBEq,eq_self,j5a,j5b,j5c,j5d,j5e,j5f,j5g,j5h,j5i,j5j,j5k,j5l,j5m,j5n,j5o,j5p,j5q,j5r,j5s,j5t,j5u,j5v,j5w,j5x,j5y,j5z,j60,j61,j62,j63,j64,j65,j66,j67,j68,j69,j6a,j6b,j6c,j6d,j6e,j6f,j6g,j6h,j6i,j6j,j6k,j6l,j6m,j6n,splice,List.size_toArray,decide_true,decide_false,Nat.reduceLeDiff,List.getD_cons_zero,List.getD_cons_succ,List.drop_succ_cons,List.drop_zero,List.take_succ_cons,List.take_zero,List.take_nil,List.drop_nil,Bool.false_eq_true,List.length_map,List.length_cons,List.length_nil,List.append_nil,List.nil_append,List.cons_append,List.getElem?_cons_succ,List.getElem?_cons_zero,List.length_append,List.set_cons_succ,List.set_cons_zero,List.map_cons,List.map_nil,if_true,if_false,Nat.reduceEqDiff,Nat.reduceAdd,Nat.reduceLT,reduceIte,true_and,and_true,and_self,Nat.zero_add,Nat.add_zero,ge_iff_le,gt_iff_lt,List.filter_cons,List.filter_nil,List.replicate_zero,List.replicate_succ,List.reverse_cons,List.reverse_nil,Option.map_some,Option.map_none, ti3, ti9, ti4, ti28, ti22, ti26, letB_def, const_letB, eB_def, const_eB]
    by_cases c1 : (16 : Int) < (ByteArray.size t.g : Int)
    · obtain rfl := hno fun h => by have := h.1.1; omega
      simp only [c1, j00,j01,j02,j03,j04,j05,j06,j07,j08,j09,j0a,j0b,j0c,j0d,j0e,j0f,j0g,j0h,j0i,j0j,j0k,j0l,j0m,j0n,j0o,j0p,j0q,j0r,j0s,j0t,j3k,j3l,j3m,j3n,j3o,j3p,setAll,j3q,j3r,j3s,j3t,j3u,j3v,j3w,j3x,j3y,j3z,j40,j41,j42,j43,j44,j45,j46,j47,j48,j49,j4a,j4b,j4c,j4d,j4e,j4f,j4g,j4h,j4i,j4j,j4k,j4l,j4m,j4n,j4o,j4p,j4q,j4r,j4s,j4t,j4u,j4v,j4w,j4x,j4y,j4z,j50,j51,j52,j53,j54,j55,j56,j57,Bool.not_true,Bool.not_false,Bool.true_and,Bool.and_true,Bool.false_and,Bool.and_false,Bool.true_or,Bool.or_true,Bool.false_or,Bool.or_false,cond_true,cond_false,aAllocN,aIndex,xLoad,xStore,xField,xFA,xIA,xLen,xMM,xAlloc,xIface,xInt,xStr,xIs,xBin,xAgg,xUn,xPick,xExt,knd,fls,ifc,isBoolK,isPtrK,isFuncK,isIfK,j58,j59,Nat.reduceBEq,eq_self,j5a,j5b,j5c,j5d,j5e,j5f,j5g,j5h,j5i,j5j,j5k,j5l,j5m,j5n,j5o,j5p,j5q,j5r,j5s,j5t,j5u,j5v,j5w,j5x,j5y,j5z,j60,j61,j62,j63,j64,j65,j66,j67,j68,j69,j6a,j6b,j6c,j6d,j6e,j6f,j6g,j6h,j6i,j6j,j6k,j6l,j6m,j6n,splice,List.size_toArray,decide_true,decide_false,Nat.reduceLeDiff,List.getD_cons_zero,List.getD_cons_succ,List.drop_succ_cons,List.drop_zero,List.take_succ_cons,List.take_zero,List.take_nil,List.drop_nil,Bool.false_eq_true,List.length_map,List.length_cons,List.length_nil,List.append_nil,List.nil_append,List.cons_append,List.getElem?_cons_succ,List.getElem?_cons_zero,List.length_append,List.set_cons_succ,List.set_cons_zero,List.map_cons,List.map_nil,if_true,if_false,Nat.reduceEqDiff,Nat.reduceAdd,Nat.reduceLT,reduceIte,true_and,and_true,and_self,Nat.zero_add,Nat.add_zero,ge_iff_le,gt_iff_lt,List.filter_cons,List.filter_nil,List.replicate_zero,List.replicate_succ,List.reverse_cons,List.reverse_nil,Option.map_some,Option.map_none, ti3, ti9, ti4, ti28, ti22, ti26, letB_def, const_letB, eB_def, const_eB]
      exact kfin_ret rfl rfl
    simp only [c1, j00,j01,j02,j03,j04,j05,j06,j07,j08,j09,j0a,j0b,j0c,j0d,j0e,j0f,j0g,j0h,j0i,j0j,j0k,j0l,j0m,j0n,j0o,j0p,j0q,j0r,j0s,j0t,j3k,j3l,j3m,j3n,j3o,j3p,setAll,j3q,j3r,j3s,j3t,j3u,j3v,j3w,j3x,j3y,j3z,j40,j41,j42,j43,j44,j45,j46,j47,j48,j49,j4a,j4b,j4c,j4d,j4e,j4f,j4g,j4h,j4i,j4j,j4k,j4l,j4m,j4n,j4o,j4p,j4q,j4r,j4s,j4t,j4u,j4v,j4w,j4x,j4y,j4z,j50,j51,j52,j53,j54,j55,j56,j57,Bool.not_true,Bool.not_false,Bool.true_and,Bool.and_true,Bool.false_and,Bool.and_false,Bool.true_or,Bool.or_true,Bool.false_or,Bool.or_false,cond_true,cond_false,aAllocN,aIndex,xLoad,xStore,xField,xFA,xIA,xLen,xMM,xAlloc,xIface,xInt,xStr,xIs,xBin,xAgg,xUn,xPick,xExt,knd,fls,ifc,isBoolK,isPtrK,isFuncK,isIfK,j58,j59,Nat.reduceBEq,eq_self,j5a,j5b,j5c,j5d,j5e,j5f,j5g,j5h,j5i,j5j,j5k,j5l,j5m,j5n,j5o,j5p,j5q,j5r,j5s,j5t,j5u,j5v,j5w,j5x,j5y,j5z,j60,j61,j62,j63,j64,j65,j66,j67,j68,j69,j6a,j6b,j6c,j6d,j6e,j6f,j6g,j6h,j6i,j6j,j6k,j6l,j6m,j6n,splice,List.size_toArray,decide_true,decide_false,Nat.reduceLeDiff,List.getD_cons_zero,List.getD_cons_succ,List.drop_succ_cons,List.drop_zero,List.take_succ_cons,List.take_zero,List.take_nil,List.drop_nil,Bool.false_eq_true,List.length_map,List.length_cons,List.length_nil,List.append_nil,List.nil_append,List.cons_append,List.getElem?_cons_succ,List.getElem?_cons_zero,List.length_append,List.set_cons_succ,List.set_cons_zero,List.map_cons,List.map_nil,if_true,if_false,Nat.reduceEqDiff,Nat.reduceAdd,Nat.reduceLT,reduceIte,true_and,and_true,and_self,Nat.zero_add,Nat.add_zero,ge_iff_le,gt_iff_lt,List.filter_cons,List.filter_nil,List.replicate_zero,List.replicate_succ,List.reverse_cons,List.reverse_nil,Option.map_some,Option.map_none, ti3, ti9, ti4, ti28, ti22, ti26, letB_def, const_letB, eB_def, const_eB]
    refine fun_ret isfn74 (trim_letB t.g) fun _ => ?_
    by_cases c2 : trimB letB t.g = eB
    case neg =>
      obtain rfl := hno fun h => c2 h.1.2.1
      simp only [c2, j00,j01,j02,j03,j04,j05,j06,j07,j08,j09,j0a,j0b,j0c,j0d,j0e,j0f,j0g,j0h,j0i,j0j,j0k,j0l,j0m,j0n,j0o,j0p,j0q,j0r,j0s,j0t,j3k,j3l,j3m,j3n,j3o,j3p,setAll,j3q,j3r,j3s,j3t,j3u,j3v,j3w,j3x,j3y,j3z,j40,j41,j42,j43,j44,j45,j46,j47,j48,j49,j4a,j4b,j4c,j4d,j4e,j4f,j4g,j4h,j4i,j4j,j4k,j4l,j4m,j4n,j4o,j4p,j4q,j4r,j4s,j4t,j4u,j4v,j4w,j4x,j4y,j4z,j50,j51,j52,j53,j54,j55,j56,j57,Bool.not_true,Bool.not_false,Bool.true_and,Bool.and_true,Bool.false_and,Bool.and_false,Bool.true_or,Bool.or_true,Bool.false_or,Bool.or_false,cond_true,cond_false,aAllocN,aIndex,xLoad,xStore,xField,xFA,xIA,xLen,xMM,xAlloc,xIface,xInt,xStr,xIs,xBin,xAgg,xUn,xPick,xExt,knd,fls,ifc,isBoolK,isPtrK,isFuncK,isIfK,j58,j59,Nat.reduceBEq,eq_self,j5a,j5b,j5c,j5d,j5e,j5f,j5g,j5h,j5i,j5j,j5k,j5l,j5m,j5n,j5o,j5p,j5q,j5r,j5s,j5t,j5u,j5v,j5w,j5x,j5y,j5z,j60,j61,j62,j63,j64,j65,j66,j67,j68,j69,j6a,j6b,j6c,j6d,j6e,j6f,j6g,j6h,j6i,j6j,j6k,j6l,j6m,j6n,splice,List.size_toArray,decide_true,decide_false,Nat.reduceLeDiff,List.getD_cons_zero,List.getD_cons_succ,List.drop_succ_cons,List.drop_zero,List.take_succ_cons,List.take_zero,List.take_nil,List.drop_nil,Bool.false_eq_true,List.length_map,List.length_cons,List.length_nil,List.append_nil,List.nil_append,List.cons_append,List.getElem?_cons_succ,List.getElem?_cons_zero,List.length_append,List.set_cons_succ,List.set_cons_zero,List.map_cons,List.map_nil,if_true,if_false,Nat.reduceEqDiff,Nat.reduceAdd,Nat.reduceLT,reduceIte,true_and,and_true,and_self,Nat.zero_add,Nat.add_zero,ge_iff_le,gt_iff_lt,List.filter_cons,List.filter_nil,List.replicate_zero,List.replicate_succ,List.reverse_cons,List.reverse_nil,Option.map_some,Option.map_none, ti3, ti9, ti4, ti28, ti22, ti26, letB_def, const_letB, eB_def, const_eB]
      exact kfin_ret rfl rfl
    by_cases c3 : t.t = eB
    case neg =>
      obtain rfl := hno fun h => c3 h.1.2.2.1
      simp only [c2, c3, j00,j01,j02,j03,j04,j05,j06,j07,j08,j09,j0a,j0b,j0c,j0d,j0e,j0f,j0g,j0h,j0i,j0j,j0k,j0l,j0m,j0n,j0o,j0p,j0q,j0r,j0s,j0t,j3k,j3l,j3m,j3n,j3o,j3p,setAll,j3q,j3r,j3s,j3t,j3u,j3v,j3w,j3x,j3y,j3z,j40,j41,j42,j43,j44,j45,j46,j47,j48,j49,j4a,j4b,j4c,j4d,j4e,j4f,j4g,j4h,j4i,j4j,j4k,j4l,j4m,j4n,j4o,j4p,j4q,j4r,j4s,j4t,j4u,j4v,j4w,j4x,j4y,j4z,j50,j51,j52,j53,j54,j55,j56,j57,Bool.not_true,Bool.not_false,Bool.true_and,Bool.and_true,Bool.false_and,Bool.and_false,Bool.true_or,Bool.or_true,Bool.false_or,Bool.or_false,cond_true,cond_false,aAllocN,aIndex,xLoad,xStore,xField,xFA,xIA,xLen,xMM,xAlloc,xIface,xInt,xStr,xIs,xBin,xAgg,xUn,xPick,xExt,knd,fls,ifc,isBoolK,isPtrK,isFuncK,isIfK,j58,j59,Nat.reduceBEq,eq_self,j5a,j5b,j5c,j5d,j5e,j5f,j5g,j5h,j5i,j5j,j5k,j5l,j5m,j5n,j5o,j5p,j5q,j5r,j5s,j5t,j5u,j5v,j5w,j5x,j5y,j5z,j60,j61,j62,j63,j64,j65,j66,j67,j68,j69,j6a,j6b,j6c,j6d,j6e,j6f,j6g,j6h,j6i,j6j,j6k,j6l,j6m,j6n,splice,List.size_toArray,decide_true,decide_false,Nat.reduceLeDiff,List.getD_cons_zero,List.getD_cons_succ,List.drop_succ_cons,List.drop_zero,List.take_succ_cons,List.take_zero,List.take_nil,List.drop_nil,Bool.false_eq_true,List.length_map,List.length_cons,List.length_nil,List.append_nil,List.nil_append,List.cons_append,List.getElem?_cons_succ,List.getElem?_cons_zero,List.length_append,List.set_cons_succ,List.set_cons_zero,List.map_cons,List.map_nil,if_true,if_false,Nat.reduceEqDiff,Nat.reduceAdd,Nat.reduceLT,reduceIte,true_and,and_true,and_self,Nat.zero_add,Nat.add_zero,ge_iff_le,gt_iff_lt,List.filter_cons,List.filter_nil,List.replicate_zero,List.replicate_succ,List.reverse_cons,List.reverse_nil,Option.map_some,Option.map_none, ti3, ti9, ti4, ti28, ti22, ti26, letB_def, const_letB, eB_def, const_eB]
      exact kfin_ret rfl rfl
    by_cases c4 : (24 : Int) < (t.ks.length : Int)
    · obtain rfl := hno fun h => by have := h.1.2.2.2.1; omega
      simp only [c2, c3, c4, j00,j01,j02,j03,j04,j05,j06,j07,j08,j09,j0a,j0b,j0c,j0d,j0e,j0f,j0g,j0h,j0i,j0j,j0k,j0l,j0m,j0n,j0o,j0p,j0q,j0r,j0s,j0t,j3k,j3l,j3m,j3n,j3o,j3p,setAll,j3q,j3r,j3s,j3t,j3u,j3v,j3w,j3x,j3y,j3z,j40,j41,j42,j43,j44,j45,j46,j47,j48,j49,j4a,j4b,j4c,j4d,j4e,j4f,j4g,j4h,j4i,j4j,j4k,j4l,j4m,j4n,j4o,j4p,j4q,j4r,j4s,j4t,j4u,j4v,j4w,j4x,j4y,j4z,j50,j51,j52,j53,j54,j55,j56,j57,Bool.not_true,Bool.not_false,Bool.true_and,Bool.and_true,Bool.false_and,Bool.and_false,Bool.true_or,Bool.or_true,Bool.false_or,Bool.or_false,cond_true,cond_false,aAllocN,aIndex,xLoad,xStore,xField,xFA,xIA,xLen,xMM,xAlloc,xIface,xInt,xStr,xIs,xBin,xAgg,xUn,xPick,xExt,knd,fls,ifc,isBoolK,isPtrK,isFuncK,isIfK,j58,j59,Nat.reduceBEq,eq_self,j5a,j5b,j5c,j5d,j5e,j5f,j5g,j5h,j5i,j5j,j5k,j5l,j5m,j5n,j5o,j5p,j5q,j5r,j5s,j5t,j5u,j5v,j5w,j5x,j5y,j5z,j60,j61,j62,j63,j64,j65,j66,j67,j68,j69,j6a,j6b,j6c,j6d,j6e,j6f,j6g,j6h,j6i,j6j,j6k,j6l,j6m,j6n,splice,List.size_toArray,decide_true,decide_false,Nat.reduceLeDiff,List.getD_cons_zero,List.getD_cons_succ,List.drop_succ_cons,List.drop_zero,List.take_succ_cons,List.take_zero,List.take_nil,List.drop_nil,Bool.false_eq_true,List.length_map,List.length_cons,List.length_nil,List.append_nil,List.nil_append,List.cons_append,List.getElem?_cons_succ,List.getElem?_cons_zero,List.length_append,List.set_cons_succ,List.set_cons_zero,List.map_cons,List.map_nil,if_true,if_false,Nat.reduceEqDiff,Nat.reduceAdd,Nat.reduceLT,reduceIte,true_and,and_true,and_self,Nat.zero_add,Nat.add_zero,ge_iff_le,gt_iff_lt,List.filter_cons,List.filter_nil,List.replicate_zero,List.replicate_succ,List.reverse_cons,List.reverse_nil,Option.map_some,Option.map_none, ti3, ti9, ti4, ti28, ti22, ti26, letB_def, const_letB, eB_def, const_eB]
      exact kfin_ret rfl rfl
    by_cases c5 : (64 : Int) < (ByteArray.size t.k : Int)
    · obtain rfl := hno fun h => by have := h.1.2.2.2.2; omega
      simp only [c2, c3, c4, c5, j00,j01,j02,j03,j04,j05,j06,j07,j08,j09,j0a,j0b,j0c,j0d,j0e,j0f,j0g,j0h,j0i,j0j,j0k,j0l,j0m,j0n,j0o,j0p,j0q,j0r,j0s,j0t,j3k,j3l,j3m,j3n,j3o,j3p,setAll,j3q,j3r,j3s,j3t,j3u,j3v,j3w,j3x,j3y,j3z,j40,j41,j42,j43,j44,j45,j46,j47,j48,j49,j4a,j4b,j4c,j4d,j4e,j4f,j4g,j4h,j4i,j4j,j4k,j4l,j4m,j4n,j4o,j4p,j4q,j4r,j4s,j4t,j4u,j4v,j4w,j4x,j4y,j4z,j50,j51,j52,j53,j54,j55,j56,j57,Bool.not_true,Bool.not_false,Bool.true_and,Bool.and_true,Bool.false_and,Bool.and_false,Bool.true_or,Bool.or_true,Bool.false_or,Bool.or_false,cond_true,cond_false,aAllocN,aIndex,xLoad,xStore,xField,xFA,xIA,xLen,xMM,xAlloc,xIface,xInt,xStr,xIs,xBin,xAgg,xUn,xPick,xExt,knd,fls,ifc,isBoolK,isPtrK,isFuncK,isIfK,j58,j59,Nat.reduceBEq,eq_self,j5a,j5b,j5c,j5d,j5e,j5f,j5g,j5h,j5i,j5j,j5k,j5l,j5m,j5n,j5o,j5p,j5q,j5r,j5s,j5t,j5u,j5v,j5w,j5x,j5y,j5z,j60,j61,j62,j63,j64,j65,j66,j67,j68,j69,j6a,j6b,j6c,j6d,j6e,j6f,j6g,j6h,j6i,j6j,j6k,j6l,j6m,j6n,splice,List.size_toArray,decide_true,decide_false,Nat.reduceLeDiff,List.getD_cons_zero,List.getD_cons_succ,List.drop_succ_cons,List.drop_zero,List.take_succ_cons,List.take_zero,List.take_nil,List.drop_nil,Bool.false_eq_true,List.length_map,List.length_cons,List.length_nil,List.append_nil,List.nil_append,List.cons_append,List.getElem?_cons_succ,List.getElem?_cons_zero,List.length_append,List.set_cons_succ,List.set_cons_zero,List.map_cons,List.map_nil,if_true,if_false,Nat.reduceEqDiff,Nat.reduceAdd,Nat.reduceLT,reduceIte,true_and,and_true,and_self,Nat.zero_add,Nat.add_zero,ge_iff_le,gt_iff_lt,List.filter_cons,List.filter_nil,List.replicate_zero,List.replicate_succ,List.reverse_cons,List.reverse_nil,Option.map_some,Option.map_none, ti3, ti9, ti4, ti28, ti22, ti26, letB_def, const_letB, eB_def, const_eB]
      exact kfin_ret rfl rfl
    simp only [c2, c3, c4, c5, j00,j01,j02,j03,j04,j05,j06,j07,j08,j09,j0a,j0b,j0c,j0d,j0e,j0f,j0g,j0h,j0i,j0j,j0k,j0l,j0m,j0n,j0o,j0p,j0q,j0r,j0s,j0t,j3k,j3l,j3m,j3n,j3o,j3p,setAll,j3q,j3r,j3s,j3t,j3u,j3v,j3w,j3x,j3y,j3z,j40,j41,j42,j43,j44,j45,j46,j47,j48,j49,j4a,j4b,j4c,j4d,j4e,j4f,j4g,j4h,j4i,j4j,j4k,j4l,j4m,j4n,j4o,j4p,j4q,j4r,j4s,j4t,j4u,j4v,j4w,j4x,j4y,j4z,j50,j51,j52,j53,j54,j55,j56,j57,Bool.not_true,Bool.not_false,Bool.true_and,Bool.and_true,Bool.false_and,Bool.and_false,Bool.true_or,Bool.or_true,Bool.false_or,Bool.or_false,cond_true,cond_false,aAllocN,aIndex,xLoad,xStore,xField,xFA,xIA,xLen,xMM,xAlloc,xIface,xInt,xStr,xIs,xBin,xAgg,xUn,xPick,xExt,knd,fls,ifc,isBoolK,isPtrK,isFuncK,isIfK,j58,j59,Nat.reduceBEq,eq_self,j5a,j5b,j5c,j5d,j5e,j5f,j5g,j5h,j5i,j5j,j5k,j5l,j5m,j5n,j5o,j5p,j5q,j5r,j5s,j5t,j5u,j5v,j5w,j5x,j5y,j5z,j60,j61,j62,j63,j64,j65,j66,j67,j68,j69,j6a,j6b,j6c,j6d,j6e,j6f,j6g,j6h,j6i,j6j,j6k,j6l,j6m,j6n,splice,List.size_toArray,decide_true,decide_false,Nat.reduceLeDiff,List.getD_cons_zero,List.getD_cons_succ,List.drop_succ_cons,List.drop_zero,List.take_succ_cons,List.take_zero,List.take_nil,List.drop_nil,Bool.false_eq_true,List.length_map,List.length_cons,List.length_nil,List.append_nil,List.nil_append,List.cons_append,List.getElem?_cons_succ,List.getElem?_cons_zero,List.length_append,List.set_cons_succ,List.set_cons_zero,List.map_cons,List.map_nil,if_true,if_false,Nat.reduceEqDiff,Nat.reduceAdd,Nat.reduceLT,reduceIte,true_and,and_true,and_self,Nat.zero_add,Nat.add_zero,ge_iff_le,gt_iff_lt,List.filter_cons,List.filter_nil,List.replicate_zero,List.replicate_succ,List.reverse_cons,List.reverse_nil,Option.map_some,Option.map_none, ti3, ti9, ti4, ti28, ti22, ti26, letB_def, const_letB, eB_def, const_eB]
    refine aw_loop (fun i : Nat => ⟨[(1, .ptr 0 0), (34, .slice .dead (t.ats.map encA)), (35, .int .i64 t.ats.length), (36, .int .i64 i)], [.cells [.str t.g, .str t.k, .str t.t, .slice .dead (t.ats.map encA), .slice .dead (t.ks.map encT)]]⟩) (fun i => i ≤ t.ats.length ∧ ∀ j < i, atOK t.ats j) (fun i => t.ats.length - i) 0 (by simp) (.to [0] (by simp) (by simp [c3]) (by simp)) ?_
    rintro i ⟨hi, hb⟩
    by_cases h : i < t.ats.length
    · have hr : (0 : Int) ≤ (i : Int) := by omega
      simp only [j00,j01,j02,j03,j04,j05,j06,j07,j08,j09,j0a,j0b,j0c,j0d,j0e,j0f,j0g,j0h,j0i,j0j,j0k,j0l,j0m,j0n,j0o,j0p,j0q,j0r,j0s,j0t,j3k,j3l,j3m,j3n,j3o,j3p,setAll,j3q,j3r,j3s,j3t,j3u,j3v,j3w,j3x,j3y,j3z,j40,j41,j42,j43,j44,j45,j46,j47,j48,j49,j4a,j4b,j4c,j4d,j4e,j4f,j4g,j4h,j4i,j4j,j4k,j4l,j4m,j4n,j4o,j4p,j4q,j4r,j4s,j4t,j4u,j4v,j4w,j4x,j4y,j4z,j50,j51,j52,j53,j54,j55,j56,j57,Bool.not_true,Bool.not_false,Bool.true_and,Bool.and_true,Bool.false_and,Bool.and_false,Bool.true_or,Bool.or_true,Bool.false_or,Bool.or_false,cond_true,cond_false,aAllocN,aIndex,xLoad,xStore,xField,xFA,xIA,xLen,xMM,xAlloc,xIface,xInt,xStr,xIs,xBin,xAgg,xUn,xPick,xExt,knd,fls,ifc,isBoolK,isPtrK,isFuncK,isIfK,j58,j59,Nat.reduceBEq,eq_self,j5a,j5b,j5c,j5d,j5e,j5f,j5g,j5h,j5i,j5j,j5k,j5l,j5m,j5n,j5o,j5p,j5q,j5r,j5s,j5t,j5u,j5v,j5w,j5x,j5y,j5z,j60,j61,j62,j63,j64,j65,j66,j67,j68,j69,j6a,j6b,j6c,j6d,j6e,j6f,j6g,j6h,j6i,j6j,j6k,j6l,j6m,j6n,splice,List.size_toArray,decide_true,decide_false,Nat.reduceLeDiff,List.getD_cons_zero,List.getD_cons_succ,List.drop_succ_cons,List.drop_zero,List.take_succ_cons,List.take_zero,List.take_nil,List.drop_nil,Bool.false_eq_true,List.length_map,List.length_cons,List.length_nil,List.append_nil,List.nil_append,List.cons_append,List.getElem?_cons_succ,List.getElem?_cons_zero,List.length_append,List.set_cons_succ,List.set_cons_zero,List.map_cons,List.map_nil,if_true,if_false,Nat.reduceEqDiff,Nat.reduceAdd,Nat.reduceLT,reduceIte,true_and,and_true,and_self,Nat.zero_add,Nat.add_zero,ge_iff_le,gt_iff_lt,List.filter_cons,List.filter_nil,List.replicate_zero,List.replicate_succ,List.reverse_cons,List.reverse_nil,Option.map_some,Option.map_none, ti3, ti9, ti4, ti28, ti22, ti26, ti47, eB_def, const_eB, hr, Int.toNat_natCast, getD_map h, Int.ofNat_lt, h, encA]
      by_cases d1 : t.ats[i].1 = eB
      · obtain rfl := hno fun hh => (hh.2 i h).1 d1
        simp only [d1, j00,j01,j02,j03,j04,j05,j06,j07,j08,j09,j0a,j0b,j0c,j0d,j0e,j0f,j0g,j0h,j0i,j0j,j0k,j0l,j0m,j0n,j0o,j0p,j0q,j0r,j0s,j0t,j3k,j3l,j3m,j3n,j3o,j3p,setAll,j3q,j3r,j3s,j3t,j3u,j3v,j3w,j3x,j3y,j3z,j40,j41,j42,j43,j44,j45,j46,j47,j48,j49,j4a,j4b,j4c,j4d,j4e,j4f,j4g,j4h,j4i,j4j,j4k,j4l,j4m,j4n,j4o,j4p,j4q,j4r,j4s,j4t,j4u,j4v,j4w,j4x,j4y,j4z,j50,j51,j52,j53,j54,j55,j56,j57,Bool.not_true,Bool.not_false,Bool.true_and,Bool.and_true,Bool.false_and,Bool.and_false,Bool.true_or,Bool.or_true,Bool.false_or,Bool.or_false,cond_true,cond_false,aAllocN,aIndex,xLoad,xStore,xField,xFA,xIA,xLen,xMM,xAlloc,xIface,xInt,xStr,xIs,xBin,xAgg,xUn,xPick,xExt,knd,fls,ifc,isBoolK,isPtrK,isFuncK,isIfK,j58,j59,Nat.reduceBEq,eq_self,j5a,j5b,j5c,j5d,j5e,j5f,j5g,j5h,j5i,j5j,j5k,j5l,j5m,j5n,j5o,j5p,j5q,j5r,j5s,j5t,j5u,j5v,j5w,j5x,j5y,j5z,j60,j61,j62,j63,j64,j65,j66,j67,j68,j69,j6a,j6b,j6c,j6d,j6e,j6f,j6g,j6h,j6i,j6j,j6k,j6l,j6m,j6n,splice,List.size_toArray,decide_true,decide_false,Nat.reduceLeDiff,List.getD_cons_zero,List.getD_cons_succ,List.drop_succ_cons,List.drop_zero,List.take_succ_cons,List.take_zero,List.take_nil,List.drop_nil,Bool.false_eq_true,List.length_map,List.length_cons,List.length_nil,List.append_nil,List.nil_append,List.cons_append,List.getElem?_cons_succ,List.getElem?_cons_zero,List.length_append,List.set_cons_succ,List.set_cons_zero,List.map_cons,List.map_nil,if_true,if_false,Nat.reduceEqDiff,Nat.reduceAdd,Nat.reduceLT,reduceIte,true_and,and_true,and_self,Nat.zero_add,Nat.add_zero,ge_iff_le,gt_iff_lt,List.filter_cons,List.filter_nil,List.replicate_zero,List.replicate_succ,List.reverse_cons,List.reverse_nil,Option.map_some,Option.map_none, ti3, ti9, ti4, ti28, ti22, ti26, ti47, eB_def, const_eB]
        exact kfin_ret rfl rfl
      by_cases d2 : (64 : Int) < (ByteArray.size t.ats[i].1 : Int)
      · obtain rfl := hno fun hh => by have := (hh.2 i h).2.1; omega
        simp only [d1, d2, j00,j01,j02,j03,j04,j05,j06,j07,j08,j09,j0a,j0b,j0c,j0d,j0e,j0f,j0g,j0h,j0i,j0j,j0k,j0l,j0m,j0n,j0o,j0p,j0q,j0r,j0s,j0t,j3k,j3l,j3m,j3n,j3o,j3p,setAll,j3q,j3r,j3s,j3t,j3u,j3v,j3w,j3x,j3y,j3z,j40,j41,j42,j43,j44,j45,j46,j47,j48,j49,j4a,j4b,j4c,j4d,j4e,j4f,j4g,j4h,j4i,j4j,j4k,j4l,j4m,j4n,j4o,j4p,j4q,j4r,j4s,j4t,j4u,j4v,j4w,j4x,j4y,j4z,j50,j51,j52,j53,j54,j55,j56,j57,Bool.not_true,Bool.not_false,Bool.true_and,Bool.and_true,Bool.false_and,Bool.and_false,Bool.true_or,Bool.or_true,Bool.false_or,Bool.or_false,cond_true,cond_false,aAllocN,aIndex,xLoad,xStore,xField,xFA,xIA,xLen,xMM,xAlloc,xIface,xInt,xStr,xIs,xBin,xAgg,xUn,xPick,xExt,knd,fls,ifc,isBoolK,isPtrK,isFuncK,isIfK,j58,j59,Nat.reduceBEq,eq_self,j5a,j5b,j5c,j5d,j5e,j5f,j5g,j5h,j5i,j5j,j5k,j5l,j5m,j5n,j5o,j5p,j5q,j5r,j5s,j5t,j5u,j5v,j5w,j5x,j5y,j5z,j60,j61,j62,j63,j64,j65,j66,j67,j68,j69,j6a,j6b,j6c,j6d,j6e,j6f,j6g,j6h,j6i,j6j,j6k,j6l,j6m,j6n,splice,List.size_toArray,decide_true,decide_false,Nat.reduceLeDiff,List.getD_cons_zero,List.getD_cons_succ,List.drop_succ_cons,List.drop_zero,List.take_succ_cons,List.take_zero,List.take_nil,List.drop_nil,Bool.false_eq_true,List.length_map,List.length_cons,List.length_nil,List.append_nil,List.nil_append,List.cons_append,List.getElem?_cons_succ,List.getElem?_cons_zero,List.length_append,List.set_cons_succ,List.set_cons_zero,List.map_cons,List.map_nil,if_true,if_false,Nat.reduceEqDiff,Nat.reduceAdd,Nat.reduceLT,reduceIte,true_and,and_true,and_self,Nat.zero_add,Nat.add_zero,ge_iff_le,gt_iff_lt,List.filter_cons,List.filter_nil,List.replicate_zero,List.replicate_succ,List.reverse_cons,List.reverse_nil,Option.map_some,Option.map_none, ti3, ti9, ti4, ti28, ti22, ti26, ti47, eB_def, const_eB]
        exact kfin_ret rfl rfl
      by_cases d3 : (64 : Int) < (ByteArray.size t.ats[i].2 : Int)
      · obtain rfl := hno fun hh => by have := (hh.2 i h).2.2.1; omega
        simp only [d1, d2, d3, j00,j01,j02,j03,j04,j05,j06,j07,j08,j09,j0a,j0b,j0c,j0d,j0e,j0f,j0g,j0h,j0i,j0j,j0k,j0l,j0m,j0n,j0o,j0p,j0q,j0r,j0s,j0t,j3k,j3l,j3m,j3n,j3o,j3p,setAll,j3q,j3r,j3s,j3t,j3u,j3v,j3w,j3x,j3y,j3z,j40,j41,j42,j43,j44,j45,j46,j47,j48,j49,j4a,j4b,j4c,j4d,j4e,j4f,j4g,j4h,j4i,j4j,j4k,j4l,j4m,j4n,j4o,j4p,j4q,j4r,j4s,j4t,j4u,j4v,j4w,j4x,j4y,j4z,j50,j51,j52,j53,j54,j55,j56,j57,Bool.not_true,Bool.not_false,Bool.true_and,Bool.and_true,Bool.false_and,Bool.and_false,Bool.true_or,Bool.or_true,Bool.false_or,Bool.or_false,cond_true,cond_false,aAllocN,aIndex,xLoad,xStore,xField,xFA,xIA,xLen,xMM,xAlloc,xIface,xInt,xStr,xIs,xBin,xAgg,xUn,xPick,xExt,knd,fls,ifc,isBoolK,isPtrK,isFuncK,isIfK,j58,j59,Nat.reduceBEq,eq_self,j5a,j5b,j5c,j5d,j5e,j5f,j5g,j5h,j5i,j5j,j5k,j5l,j5m,j5n,j5o,j5p,j5q,j5r,j5s,j5t,j5u,j5v,j5w,j5x,j5y,j5z,j60,j61,j62,j63,j64,j65,j66,j67,j68,j69,j6a,j6b,j6c,j6d,j6e,j6f,j6g,j6h,j6i,j6j,j6k,j6l,j6m,j6n,splice,List.size_toArray,decide_true,decide_false,Nat.reduceLeDiff,List.getD_cons_zero,List.getD_cons_succ,List.drop_succ_cons,List.drop_zero,List.take_succ_cons,List.take_zero,List.take_nil,List.drop_nil,Bool.false_eq_true,List.length_map,List.length_cons,List.length_nil,List.append_nil,List.nil_append,List.cons_append,List.getElem?_cons_succ,List.getElem?_cons_zero,List.length_append,List.set_cons_succ,List.set_cons_zero,List.map_cons,List.map_nil,if_true,if_false,Nat.reduceEqDiff,Nat.reduceAdd,Nat.reduceLT,reduceIte,true_and,and_true,and_self,Nat.zero_add,Nat.add_zero,ge_iff_le,gt_iff_lt,List.filter_cons,List.filter_nil,List.replicate_zero,List.replicate_succ,List.reverse_cons,List.reverse_nil,Option.map_some,Option.map_none, ti3, ti9, ti4, ti28, ti22, ti26, ti47, eB_def, const_eB]
        exact kfin_ret rfl rfl
      have g1 : (0 : Int) ≤ 0 := by omega
      have g2 : (i : Int) ≤ ((t.ats.length : Nat) : Int) := by omega
      simp only [d1, d2, d3, j00,j01,j02,j03,j04,j05,j06,j07,j08,j09,j0a,j0b,j0c,j0d,j0e,j0f,j0g,j0h,j0i,j0j,j0k,j0l,j0m,j0n,j0o,j0p,j0q,j0r,j0s,j0t,j3k,j3l,j3m,j3n,j3o,j3p,setAll,j3q,j3r,j3s,j3t,j3u,j3v,j3w,j3x,j3y,j3z,j40,j41,j42,j43,j44,j45,j46,j47,j48,j49,j4a,j4b,j4c,j4d,j4e,j4f,j4g,j4h,j4i,j4j,j4k,j4l,j4m,j4n,j4o,j4p,j4q,j4r,j4s,j4t,j4u,j4v,j4w,j4x,j4y,j4z,j50,j51,j52,j53,j54,j55,j56,j57,Bool.not_true,Bool.not_false,Bool.true_and,Bool.and_true,Bool.false_and,Bool.and_false,Bool.true_or,Bool.or_true,Bool.false_or,Bool.or_false,cond_true,cond_false,aAllocN,aIndex,xLoad,xStore,xField,xFA,xIA,xLen,xMM,xAlloc,xIface,xInt,xStr,xIs,xBin,xAgg,xUn,xPick,xExt,knd,fls,ifc,isBoolK,isPtrK,isFuncK,isIfK,j58,j59,Nat.reduceBEq,eq_self,j5a,j5b,j5c,j5d,j5e,j5f,j5g,j5h,j5i,j5j,j5k,j5l,j5m,j5n,j5o,j5p,j5q,j5r,j5s,j5t,j5u,j5v,j5w,j5x,j5y,j5z,j60,j61,j62,j63,j64,j65,j66,j67,j68,j69,j6a,j6b,j6c,j6d,j6e,j6f,j6g,j6h,j6i,j6j,j6k,j6l,j6m,j6n,splice,List.size_toArray,decide_true,decide_false,Nat.reduceLeDiff,List.getD_cons_zero,List.getD_cons_succ,List.drop_succ_cons,List.drop_zero,List.take_succ_cons,List.take_zero,List.take_nil,List.drop_nil,Bool.false_eq_true,List.length_map,List.length_cons,List.length_nil,List.append_nil,List.nil_append,List.cons_append,List.getElem?_cons_succ,List.getElem?_cons_zero,List.length_append,List.set_cons_succ,List.set_cons_zero,List.map_cons,List.map_nil,if_true,if_false,Nat.reduceEqDiff,Nat.reduceAdd,Nat.reduceLT,reduceIte,true_and,and_true,and_self,Nat.zero_add,Nat.add_zero,ge_iff_le,gt_iff_lt,List.filter_cons,List.filter_nil,List.replicate_zero,List.replicate_succ,List.reverse_cons,List.reverse_nil,Option.map_some,Option.map_none, ti3, ti9, ti4, ti28, ti22, ti26, ti47, eB_def, const_eB, aSlice, bI, SK.cut, g1, g2, hr, Int.toNat_natCast, Int.toNat_zero, true_or]
      simp only [ite_self, ← List.map_take]
      refine fun_iret [1] [.cells [.str t.ats[i].1, .str t.ats[i].2]] isfn76 (r := .bool (dec (∃ a ∈ t.ats.take i, a.1 = t.ats[i].1))) ?_ (by simp) fun _ => ?_
      · simpa [-List.map_take] using spec76 (t.ats.take i) t.ats[i].1 t.ats[i].2
      by_cases d4 : ∃ a ∈ t.ats.take i, a.1 = t.ats[i].1
      · obtain rfl := hno fun hh => (hh.2 i h).2.2.2 d4
        simp only [dec_true d4, j00,j01,j02,j03,j04,j05,j06,j07,j08,j09,j0a,j0b,j0c,j0d,j0e,j0f,j0g,j0h,j0i,j0j,j0k,j0l,j0m,j0n,j0o,j0p,j0q,j0r,j0s,j0t,j3k,j3l,j3m,j3n,j3o,j3p,setAll,j3q,j3r,j3s,j3t,j3u,j3v,j3w,j3x,j3y,j3z,j40,j41,j42,j43,j44,j45,j46,j47,j48,j49,j4a,j4b,j4c,j4d,j4e,j4f,j4g,j4h,j4i,j4j,j4k,j4l,j4m,j4n,j4o,j4p,j4q,j4r,j4s,j4t,j4u,j4v,j4w,j4x,j4y,j4z,j50,j51,j52,j53,j54,j55,j56,j57,Bool.not_true,Bool.not_false,Bool.true_and,Bool.and_true,Bool.false_and,Bool.and_false,Bool.true_or,Bool.or_true,Bool.false_or,Bool.or_false,cond_true,cond_false,aAllocN,aIndex,xLoad,xStore,xField,xFA,xIA,xLen,xMM,xAlloc,xIface,xInt,xStr,xIs,xBin,xAgg,xUn,xPick,xExt,knd,fls,ifc,isBoolK,isPtrK,isFuncK,isIfK,j58,j59,Nat.reduceBEq,eq_self,j5a,j5b,j5c,j5d,j5e,j5f,j5g,j5h,j5i,j5j,j5k,j5l,j5m,j5n,j5o,j5p,j5q,j5r,j5s,j5t,j5u,j5v,j5w,j5x,j5y,j5z,j60,j61,j62,j63,j64,j65,j66,j67,j68,j69,j6a,j6b,j6c,j6d,j6e,j6f,j6g,j6h,j6i,j6j,j6k,j6l,j6m,j6n,splice,List.size_toArray,decide_true,decide_false,Nat.reduceLeDiff,List.getD_cons_zero,List.getD_cons_succ,List.drop_succ_cons,List.drop_zero,List.take_succ_cons,List.take_zero,List.take_nil,List.drop_nil,Bool.false_eq_true,List.length_map,List.length_cons,List.length_nil,List.append_nil,List.nil_append,List.cons_append,List.getElem?_cons_succ,List.getElem?_cons_zero,List.length_append,List.set_cons_succ,List.set_cons_zero,List.map_cons,List.map_nil,if_true,if_false,Nat.reduceEqDiff,Nat.reduceAdd,Nat.reduceLT,reduceIte,true_and,and_true,and_self,Nat.zero_add,Nat.add_zero,ge_iff_le,gt_iff_lt,List.filter_cons,List.filter_nil,List.replicate_zero,List.replicate_succ,List.reverse_cons,List.reverse_nil,Option.map_some,Option.map_none, ti3, ti9, ti4, ti28, ti22, ti26, ti47, eB_def, const_eB, backN, backSet, backNew, AObj.ren, PV.ren, PV.renL]
        exact kfin_ret rfl rfl
      · simp only [dec_false d4, j00,j01,j02,j03,j04,j05,j06,j07,j08,j09,j0a,j0b,j0c,j0d,j0e,j0f,j0g,j0h,j0i,j0j,j0k,j0l,j0m,j0n,j0o,j0p,j0q,j0r,j0s,j0t,j3k,j3l,j3m,j3n,j3o,j3p,setAll,j3q,j3r,j3s,j3t,j3u,j3v,j3w,j3x,j3y,j3z,j40,j41,j42,j43,j44,j45,j46,j47,j48,j49,j4a,j4b,j4c,j4d,j4e,j4f,j4g,j4h,j4i,j4j,j4k,j4l,j4m,j4n,j4o,j4p,j4q,j4r,j4s,j4t,j4u,j4v,j4w,j4x,j4y,j4z,j50,j51,j52,j53,j54,j55,j56,j57,Bool.not_true,Bool.not_false,Bool.true_and,Bool.and_true,Bool.false_and,Bool.and_false,Bool.true_or,Bool.or_true,Bool.false_or,Bool.or_false,cond_true,cond_false,aAllocN,aIndex,xLoad,xStore,xField,xFA,xIA,xLen,xMM,xAlloc,xIface,xInt,xStr,xIs,xBin,xAgg,xUn,xPick,xExt,knd,fls,ifc,isBoolK,isPtrK,isFuncK,isIfK,j58,j59,Nat.reduceBEq,eq_self,j5a,j5b,j5c,j5d,j5e,j5f,j5g,j5h,j5i,j5j,j5k,j5l,j5m,j5n,j5o,j5p,j5q,j5r,j5s,j5t,j5u,j5v,j5w,j5x,j5y,j5z,j60,j61,j62,j63,j64,j65,j66,j67,j68,j69,j6a,j6b,j6c,j6d,j6e,j6f,j6g,j6h,j6i,j6j,j6k,j6l,j6m,j6n,splice,List.size_toArray,decide_true,decide_false,Nat.reduceLeDiff,List.getD_cons_zero,List.getD_cons_succ,List.drop_succ_cons,List.drop_zero,List.take_succ_cons,List.take_zero,List.take_nil,List.drop_nil,Bool.false_eq_true,List.length_map,List.length_cons,List.length_nil,List.append_nil,List.nil_append,List.cons_append,List.getElem?_cons_succ,List.getElem?_cons_zero,List.length_append,List.set_cons_succ,List.set_cons_zero,List.map_cons,List.map_nil,if_true,if_false,Nat.reduceEqDiff,Nat.reduceAdd,Nat.reduceLT,reduceIte,true_and,and_true,and_self,Nat.zero_add,Nat.add_zero,ge_iff_le,gt_iff_lt,List.filter_cons,List.filter_nil,List.replicate_zero,List.replicate_succ,List.reverse_cons,List.reverse_nil,Option.map_some,Option.map_none, ti3, ti9, ti4, ti28, ti22, ti26, ti47, eB_def, const_eB, backN, backSet, backNew, AObj.ren, PV.ren, PV.renL, wrapS i _ h hlen]
        refine ⟨i + 1, ⟨by omega, fun j hj => ?_⟩, .to [0] (by simp) (by simp) (by simp), by omega⟩
        by_cases e : j = i
        · subst e; exact fun _ => ⟨d1, by omega, by omega, d4⟩
        · exact hb j (by omega)
    · obtain rfl := hyes ⟨⟨by omega, c2, c3, by omega, by omega⟩, fun j => by
        by_cases hj : j < i
        · exact hb j hj
        · exact fun hl => absurd hl (by omega)⟩
      simp only [j00,j01,j02,j03,j04,j05,j06,j07,j08,j09,j0a,j0b,j0c,j0d,j0e,j0f,j0g,j0h,j0i,j0j,j0k,j0l,j0m,j0n,j0o,j0p,j0q,j0r,j0s,j0t,j3k,j3l,j3m,j3n,j3o,j3p,setAll,j3q,j3r,j3s,j3t,j3u,j3v,j3w,j3x,j3y,j3z,j40,j41,j42,j43,j44,j45,j46,j47,j48,j49,j4a,j4b,j4c,j4d,j4e,j4f,j4g,j4h,j4i,j4j,j4k,j4l,j4m,j4n,j4o,j4p,j4q,j4r,j4s,j4t,j4u,j4v,j4w,j4x,j4y,j4z,j50,j51,j52,j53,j54,j55,j56,j57,Bool.not_true,Bool.not_false,Bool.true_and,Bool.and_true,Bool.false_and,Bool.and_false,Bool.true_or,Bool.or_true,Bool.false_or,Bool.or_false,cond_true,cond_false,aAllocN,aIndex,xLoad,xStore,xField,xFA,xIA,xLen,xMM,xAlloc,xIface,xInt,xStr,xIs,xBin,xAgg,xUn,xPick,xExt,knd,fls,ifc,isBoolK,isPtrK,isFuncK,isIfK,j58,j59,Nat.reduceBEq,eq_self,j5a,j5b,j5c,j5d,j5e,j5f,j5g,j5h,j5i,j5j,j5k,j5l,j5m,j5n,j5o,j5p,j5q,j5r,j5s,j5t,j5u,j5v,j5w,j5x,j5y,j5z,j60,j61,j62,j63,j64,j65,j66,j67,j68,j69,j6a,j6b,j6c,j6d,j6e,j6f,j6g,j6h,j6i,j6j,j6k,j6l,j6m,j6n,splice,List.size_toArray,decide_true,decide_false,Nat.reduceLeDiff,List.getD_cons_zero,List.getD_cons_succ,List.drop_succ_cons,List.drop_zero,List.take_succ_cons,List.take_zero,List.take_nil,List.drop_nil,Bool.false_eq_true,List.length_map,List.length_cons,List.length_nil,List.append_nil,List.nil_append,List.cons_append,List.getElem?_cons_succ,List.getElem?_cons_zero,List.length_append,List.set_cons_succ,List.set_cons_zero,List.map_cons,List.map_nil,if_true,if_false,Nat.reduceEqDiff,Nat.reduceAdd,Nat.reduceLT,reduceIte,true_and,and_true,and_self,Nat.zero_add,Nat.add_zero,ge_iff_le,gt_iff_lt,List.filter_cons,List.filter_nil,List.replicate_zero,List.replicate_succ,List.reverse_cons,List.reverse_nil,Option.map_some,Option.map_none, ti3, Int.ofNat_lt, h]
      exact kfin_ret rfl rfl
  by_cases h : elemOK t
  · exact key (fun _ => by rw [dec_true h]) fun h' => absurd h h'
  · exact key (fun h' => absurd h' h) fun _ => by rw [dec_false h]
mutual
def rightOK : Tr → Prop
  | .mk g k t ats ks => (g = eB ∧ k = eB ∧ ats = [] ∧ ks = [] ∧ ByteArray.size t ≤ 64) ∨ (g ≠ eB ∧ elemOK (.mk g k t ats ks) ∧ rightOKs ks)
def rightOKs : List Tr → Prop
  | [] => True
  | t :: r => rightOK t ∧ rightOKs r
end
theorem rightOKs_iff : ∀ l : List Tr, rightOKs l ↔ ∀ t ∈ l, rightOK t
  | [] => by simp [rightOKs]
  | t :: r => by simp [rightOKs, rightOKs_iff r]
theorem rightOK_iff (t : Tr) : rightOK t ↔ (t.g = eB ∧ t.k = eB ∧ t.ats = [] ∧ t.ks = [] ∧ ByteArray.size t.t ≤ 64) ∨ (t.g ≠ eB ∧ elemOK t ∧ ∀ k ∈ t.ks, rightOK k) := by
  cases t
  rw [rightOK, rightOKs_iff]
  rfl
theorem spec45 : ∀ (n : Nat) (t : Tr), SizeOf.sizeOf t < n → PSpec Tryd.prog 45 [encT t] (.ret (.bool (dec (rightOK t))))
  | n + 1, t, hn => by
    have key : ∀ {out : Out}, (rightOK t → out = .ret (.bool true)) → (¬ rightOK t → out = .ret (.bool false)) → PSpec Tryd.prog 45 [encT t] out := by
      intro out hyes hno
      refine ispec_bd fun hbd => ispec45 ?_
      have hlen : t.ks.length ≤ 9223372036854775807 := by
        rw [encT_eq] at hbd
        simp only [PV.bdL, PV.bd, List.length_map] at hbd
        exact hbd.1.2.2.2.2.1.1
      clear hbd
      rw [rightOK_iff] at hyes hno
      rw [encT_eq]
      by_cases g1 : t.g = eB
      · simp only [x45, enum, j00,j01,j02,j03,j04,j05,j06,j07,j08,j09,j0a,j0b,j0c,j0d,j0e,j0f,j0g,j0h,j0i,j0j,j0k,j0l,j0m,j0n,j0o,j0p,j0q,j0r,j0s,j0t,j3k,j3l,j3m,j3n,j3o,j3p,setAll,j3q,j3r,j3s,j3t,j3u,j3v,j3w,j3x,j3y,j3z,j40,j41,j42,j43,j44,j45,j46,j47,j48,j49,j4a,j4b,j4c,j4d,j4e,j4f,j4g,j4h,j4i,j4j,j4k,j4l,j4m,j4n,j4o,j4p,j4q,j4r,j4s,j4t,j4u,j4v,j4w,j4x,j4y,j4z,j50,j51,j52,j53,j54,j55,j56,j57,Bool.not_true,Bool.not_false,Bool.true_and,Bool.and_true,Bool.false_and,Bool.and_false,Bool.true_or,Bool.or_true,Bool.false_or,Bool.or_false,cond_true,cond_false,aAllocN,aIndex,xLoad,xStore,xField,xFA,xIA,xLen,xMM,xAlloc,xIface,xInt,xStr,xIs,xBin,xAgg,xUn,xPick,xExt,knd,fls,ifc,isBoolK,isPtrK,isFuncK,isIfK,j58,j59,Nat.reduceBEq,eq_self,j5a,j5b,j5c,j5d,j5e,j5f,j5g,j5h,j5i,j5j,j5k,j5l,j5m,j5n,j5o,j5p,j5q,j5r,j5s,j5t,j5u,j5v,j5w,j5x,j5y,j5z,j60,j61,j62,j63,j64,j65,j66,j67,j68,j69,j6a,j6b,j6c,j6d,j6e,j6f,j6g,j6h,j6i,j6j,j6k,j6l,j6m,j6n,splice,List.size_toArray,decide_true,decide_false,Nat.reduceLeDiff,List.getD_cons_zero,List.getD_cons_succ,List.drop_succ_cons,List.drop_zero,List.take_succ_cons,List.take_zero,List.take_nil,List.drop_nil,Bool.false_eq_true,List.length_map,List.length_cons,List.length_nil,List.append_nil,List.nil_append,List.cons_append,List.getElem?_cons_succ,List.getElem?_cons_zero,List.length_append,List.set_cons_succ,List.set_cons_zero,List.map_cons,List.map_nil,if_true,if_false,Nat.reduceEqDiff,Nat.reduceAdd,Nat.reduceLT,reduceIte,true_and,and_true,and_self,Nat.zero_add,Nat.add_zero,ge_iff_le,gt_iff_lt,List.filter_cons,List.filter_nil,List.replicate_zero,List.replicate_succ,List.reverse_cons,List.reverse_nil,Option.map_some,Option.map_none, ti3, ti9, ti4, ti28, ti22, ti26, ti47, eB_def, const_eB, g1]
        by_cases g2 : t.k = eB
        case neg =>
          obtain rfl := hno fun h => by rcases h with h | h
                                        · exact g2 h.2.1
                                        · exact h.1 g1
          simp only [g2, j00,j01,j02,j03,j04,j05,j06,j07,j08,j09,j0a,j0b,j0c,j0d,j0e,j0f,j0g,j0h,j0i,j0j,j0k,j0l,j0m,j0n,j0o,j0p,j0q,j0r,j0s,j0t,j3k,j3l,j3m,j3n,j3o,j3p,setAll,j3q,j3r,j3s,j3t,j3u,j3v,j3w,j3x,j3y,j3z,j40,j41,j42,j43,j44,j45,j46,j47,j48,j49,j4a,j4b,j4c,j4d,j4e,j4f,j4g,j4h,j4i,j4j,j4k,j4l,j4m,j4n,j4o,j4p,j4q,j4r,j4s,j4t,j4u,j4v,j4w,j4x,j4y,j4z,j50,j51,j52,j53,j54,j55,j56,j57,Bool.not_true,Bool.not_false,Bool.true_and,Bool.and_true,Bool.false_and,Bool.and_false,Bool.true_or,Bool.or_true,Bool.false_or,Bool.or_false,cond_true,cond_false,aAllocN,aIndex,xLoad,xStore,xField,xFA,xIA,xLen,xMM,xAlloc,xIface,xInt,xStr,xIs,xBin,xAgg,xUn,xPick,xExt,knd,fls,ifc,isBoolK,isPtrK,isFuncK,isIfK,j58,j59,Nat.reduceBEq,eq_self,j5a,j5b,j5c,j5d,j5e,j5f,j5g,j5h,j5i,j5j,j5k,j5l,j5m,j5n,j5o,j5p,j5q,j5r,j5s,j5t,j5u,j5v,j5w,j5x,j5y,j5z,j60,j61,j62,j63,j64,j65,j66,j67,j68,j69,j6a,j6b,j6c,j6d,j6e,j6f,j6g,j6h,j6i,j6j,j6k,j6l,j6m,j6n,splice,List.size_toArray,decide_true,decide_false,Nat.reduceLeDiff,List.getD_cons_zero,List.getD_cons_succ,List.drop_succ_cons,List.drop_zero,List.take_succ_cons,List.take_zero,List.take_nil,List.drop_nil,Bool.false_eq_true,List.length_map,List.length_cons,List.length_nil,List.append_nil,List.nil_append,List.cons_append,List.getElem?_cons_succ,List.getElem?_cons_zero,List.length_append,List.set_cons_succ,List.set_cons_zero,List.map_cons,List.map_nil,if_true,if_false,Nat.reduceEqDiff,Nat.reduceAdd,Nat.reduceLT,reduceIte,true_and,and_true,and_self,Nat.zero_add,Nat.add_zero,ge_iff_le,gt_iff_lt,List.filter_cons,List.filter_nil,List.replicate_zero,List.replicate_succ,List.reverse_cons,List.reverse_nil,Option.map_some,Option.map_none, ti3, ti9, ti4, ti28, ti22, ti26, ti47, eB_def, const_eB]
          exact kfin_ret rfl rfl
        by_cases g3 : (t.ats.length : Int) = 0
        case neg =>
          obtain rfl := hno fun h => by rcases h with h | h
                                        · rw [h.2.2.1] at g3; simp at g3
                                        · exact h.1 g1
          simp only [g2, g3, j00,j01,j02,j03,j04,j05,j06,j07,j08,j09,j0a,j0b,j0c,j0d,j0e,j0f,j0g,j0h,j0i,j0j,j0k,j0l,j0m,j0n,j0o,j0p,j0q,j0r,j0s,j0t,j3k,j3l,j3m,j3n,j3o,j3p,setAll,j3q,j3r,j3s,j3t,j3u,j3v,j3w,j3x,j3y,j3z,j40,j41,j42,j43,j44,j45,j46,j47,j48,j49,j4a,j4b,j4c,j4d,j4e,j4f,j4g,j4h,j4i,j4j,j4k,j4l,j4m,j4n,j4o,j4p,j4q,j4r,j4s,j4t,j4u,j4v,j4w,j4x,j4y,j4z,j50,j51,j52,j53,j54,j55,j56,j57,Bool.not_true,Bool.not_false,Bool.true_and,Bool.and_true,Bool.false_and,Bool.and_false,Bool.true_or,Bool.or_true,Bool.false_or,Bool.or_false,cond_true,cond_false,aAllocN,aIndex,xLoad,xStore,xField,xFA,xIA,xLen,xMM,xAlloc,xIface,xInt,xStr,xIs,xBin,xAgg,xUn,xPick,xExt,knd,fls,ifc,isBoolK,isPtrK,isFuncK,isIfK,j58,j59,Nat.reduceBEq,eq_self,j5a,j5b,j5c,j5d,j5e,j5f,j5g,j5h,j5i,j5j,j5k,j5l,j5m,j5n,j5o,j5p,j5q,j5r,j5s,j5t,j5u,j5v,j5w,j5x,j5y,j5z,j60,j61,j62,j63,j64,j65,j66,j67,j68,j69,j6a,j6b,j6c,j6d,j6e,j6f,j6g,j6h,j6i,j6j,j6k,j6l,j6m,j6n,splice,List.size_toArray,decide_true,decide_false,Nat.reduceLeDiff,List.getD_cons_zero,List.getD_cons_succ,List.drop_succ_cons,List.drop_zero,List.take_succ_cons,List.take_zero,List.take_nil,List.drop_nil,Bool.false_eq_true,List.length_map,List.length_cons,List.length_nil,List.append_nil,List.nil_append,List.cons_append,List.getElem?_cons_succ,List.getElem?_cons_zero,List.length_append,List.set_cons_succ,List.set_cons_zero,List.map_cons,List.map_nil,if_true,if_false,Nat.reduceEqDiff,Nat.reduceAdd,Nat.reduceLT,reduceIte,true_and,and_true,and_self,Nat.zero_add,Nat.add_zero,ge_iff_le,gt_iff_lt,List.filter_cons,List.filter_nil,List.replicate_zero,List.replicate_succ,List.reverse_cons,List.reverse_nil,Option.map_some,Option.map_none, ti3, ti9, ti4, ti28, ti22, ti26, ti47, eB_def, const_eB]
          exact kfin_ret rfl rfl
        by_cases g4 : (t.ks.length : Int) = 0
        case neg =>
          obtain rfl := hno fun h => by rcases h with h | h
                                        · rw [h.2.2.2.1] at g4; simp at g4
                                        · exact h.1 g1
          simp only [g2, g3, g4, j00,j01,j02,j03,j04,j05,j06,j07,j08,j09,j0a,j0b,j0c,j0d,j0e,j0f,j0g,j0h,j0i,j0j,j0k,j0l,j0m,j0n,j0o,j0p,j0q,j0r,j0s,j0t,j3k,j3l,j3m,j3n,j3o,j3p,setAll,j3q,j3r,j3s,j3t,j3u,j3v,j3w,j3x,j3y,j3z,j40,j41,j42,j43,j44,j45,j46,j47,j48,j49,j4a,j4b,j4c,j4d,j4e,j4f,j4g,j4h,j4i,j4j,j4k,j4l,j4m,j4n,j4o,j4p,j4q,j4r,j4s,j4t,j4u,j4v,j4w,j4x,j4y,j4z,j50,j51,j52,j53,j54,j55,j56,j57,Bool.not_true,Bool.not_false,Bool.true_and,Bool.and_true,Bool.false_and,Bool.and_false,Bool.true_or,Bool.or_true,Bool.false_or,Bool.or_false,cond_true,cond_false,aAllocN,aIndex,xLoad,xStore,xField,xFA,xIA,xLen,xMM,xAlloc,xIface,xInt,xStr,xIs,xBin,xAgg,xUn,xPick,xExt,knd,fls,ifc,isBoolK,isPtrK,isFuncK,isIfK,j58,j59,Nat.reduceBEq,eq_self,j5a,j5b,j5c,j5d,j5e,j5f,j5g,j5h,j5i,j5j,j5k,j5l,j5m,j5n,j5o,j5p,j5q,j5r,j5s,j5t,j5u,j5v,j5w,j5x,j5y,j5z,j60,j61,j62,j63,j64,j65,j66,j67,j68,j69,j6a,j6b,j6c,j6d,j6e,j6f,j6g,j6h,j6i,j6j,j6k,j6l,j6m,j6n,splice,List.size_toArray,decide_true,decide_false,Nat.reduceLeDiff,List.getD_cons_zero,List.getD_cons_succ,List.drop_succ_cons,List.drop_zero,List.take_succ_cons,List.take_zero,List.take_nil,List.drop_nil,Bool.false_eq_true,List.length_map,List.length_cons,List.length_nil,List.append_nil,List.nil_append,List.cons_append,List.getElem?_cons_succ,List.getElem?_cons_zero,List.length_append,List.set_cons_succ,List.set_cons_zero,List.map_cons,List.map_nil,if_true,if_false,Nat.reduceEqDiff,Nat.reduceAdd,Nat.reduceLT,reduceIte,true_and,and_true,and_self,Nat.zero_add,Nat.add_zero,ge_iff_le,gt_iff_lt,List.filter_cons,List.filter_nil,List.replicate_zero,List.replicate_succ,List.reverse_cons,List.reverse_nil,Option.map_some,Option.map_none, ti3, ti9, ti4, ti28, ti22, ti26, ti47, eB_def, const_eB]
          exact kfin_ret rfl rfl
        by_cases g5 : (ByteArray.size t.t : Int) ≤ 64
        case neg =>
          obtain rfl := hno fun h => by rcases h with h | h
                                        · have := h.2.2.2.2; omega
                                        · exact h.1 g1
          simp only [g2, g3, g4, g5, j00,j01,j02,j03,j04,j05,j06,j07,j08,j09,j0a,j0b,j0c,j0d,j0e,j0f,j0g,j0h,j0i,j0j,j0k,j0l,j0m,j0n,j0o,j0p,j0q,j0r,j0s,j0t,j3k,j3l,j3m,j3n,j3o,j3p,setAll,j3q,j3r,j3s,j3t,j3u,j3v,j3w,j3x,j3y,j3z,j40,j41,j42,j43,j44,j45,j46,j47,j48,j49,j4a,j4b,j4c,j4d,j4e,j4f,j4g,j4h,j4i,j4j,j4k,j4l,j4m,j4n,j4o,j4p,j4q,j4r,j4s,j4t,j4u,j4v,j4w,j4x,j4y,j4z,j50,j51,j52,j53,j54,j55,j56,j57,Bool.not_true,Bool.not_false,Bool.true_and,Bool.and_true,Bool.false_and,Bool.and_false,Bool.true_or,Bool.or_true,Bool.false_or,Bool.or_false,cond_true,cond_false,aAllocN,aIndex,xLoad,xStore,xField,xFA,xIA,xLen,xMM,xAlloc,xIface,xInt,xStr,xIs,xBin,xAgg,xUn,xPick,xExt,knd,fls,ifc,isBoolK,isPtrK,isFuncK,isIfK,j58,j59,Nat.reduceBEq,eq_self,j5a,j5b,j5c,j5d,j5e,j5f,j5g,j5h,j5i,j5j,j5k,j5l,j5m,j5n,j5o,j5p,j5q,j5r,j5s,j5t,j5u,j5v,j5w,j5x,j5y,j5z,j60,j61,j62,j63,j64,j65,j66,j67,j68,j69,j6a,j6b,j6c,j6d,j6e,j6f,j6g,j6h,j6i,j6j,j6k,j6l,j6m,j6n,splice,List.size_toArray,decide_true,decide_false,Nat.reduceLeDiff,List.getD_cons_zero,List.getD_cons_succ,List.drop_succ_cons,List.drop_zero,List.take_succ_cons,List.take_zero,List.take_nil,List.drop_nil,Bool.false_eq_true,List.length_map,List.length_cons,List.length_nil,List.append_nil,List.nil_append,List.cons_append,List.getElem?_cons_succ,List.getElem?_cons_zero,List.length_append,List.set_cons_succ,List.set_cons_zero,List.map_cons,List.map_nil,if_true,if_false,Nat.reduceEqDiff,Nat.reduceAdd,Nat.reduceLT,reduceIte,true_and,and_true,and_self,Nat.zero_add,Nat.add_zero,ge_iff_le,gt_iff_lt,List.filter_cons,List.filter_nil,List.replicate_zero,List.replicate_succ,List.reverse_cons,List.reverse_nil,Option.map_some,Option.map_none, ti3, ti9, ti4, ti28, ti22, ti26, ti47, eB_def, const_eB]
          exact kfin_ret rfl rfl
        obtain rfl := hyes (.inl ⟨g1, g2, List.eq_nil_of_length_eq_zero (by omega), List.eq_nil_of_length_eq_zero (by omega), by omega⟩)
        simp only [g2, g3, g4, g5, j00,j01,j02,j03,j04,j05,j06,j07,j08,j09,j0a,j0b,j0c,j0d,j0e,j0f,j0g,j0h,j0i,j0j,j0k,j0l,j0m,j0n,j0o,j0p,j0q,j0r,j0s,j0t,j3k,j3l,j3m,j3n,j3o,j3p,setAll,j3q,j3r,j3s,j3t,j3u,j3v,j3w,j3x,j3y,j3z,j40,j41,j42,j43,j44,j45,j46,j47,j48,j49,j4a,j4b,j4c,j4d,j4e,j4f,j4g,j4h,j4i,j4j,j4k,j4l,j4m,j4n,j4o,j4p,j4q,j4r,j4s,j4t,j4u,j4v,j4w,j4x,j4y,j4z,j50,j51,j52,j53,j54,j55,j56,j57,Bool.not_true,Bool.not_false,Bool.true_and,Bool.and_true,Bool.false_and,Bool.and_false,Bool.true_or,Bool.or_true,Bool.false_or,Bool.or_false,cond_true,cond_false,aAllocN,aIndex,xLoad,xStore,xField,xFA,xIA,xLen,xMM,xAlloc,xIface,xInt,xStr,xIs,xBin,xAgg,xUn,xPick,xExt,knd,fls,ifc,isBoolK,isPtrK,isFuncK,isIfK,j58,j59,Nat.reduceBEq,eq_self,j5a,j5b,j5c,j5d,j5e,j5f,j5g,j5h,j5i,j5j,j5k,j5l,j5m,j5n,j5o,j5p,j5q,j5r,j5s,j5t,j5u,j5v,j5w,j5x,j5y,j5z,j60,j61,j62,j63,j64,j65,j66,j67,j68,j69,j6a,j6b,j6c,j6d,j6e,j6f,j6g,j6h,j6i,j6j,j6k,j6l,j6m,j6n,splice,List.size_toArray,decide_true,decide_false,Nat.reduceLeDiff,List.getD_cons_zero,List.getD_cons_succ,List.drop_succ_cons,List.drop_zero,List.take_succ_cons,List.take_zero,List.take_nil,List.drop_nil,Bool.false_eq_true,List.length_map,List.length_cons,List.length_nil,List.append_nil,List.nil_append,List.cons_append,List.getElem?_cons_succ,List.getElem?_cons_zero,List.length_append,List.set_cons_succ,List.set_cons_zero,List.map_cons,List.map_nil,if_true,if_false,Nat.reduceEqDiff,Nat.reduceAdd,Nat.reduceLT,reduceIte,true_and,and_true,and_self,Nat.zero_add,Nat.add_zero,ge_iff_le,gt_iff_lt,List.filter_cons,List.filter_nil,List.replicate_zero,List.replicate_succ,List.reverse_cons,List.reverse_nil,Option.map_some,Option.map_none, ti3, ti9, ti4, ti28, ti22, ti26, ti47, eB_def, const_eB]
        exact kfin_ret rfl rfl
      simp only [x45, enum, j00,j01,j02,j03,j04,j05,j06,j07,j08,j09,j0a,j0b,j0c,j0d,j0e,j0f,j0g,j0h,j0i,j0j,j0k,j0l,j0m,j0n,j0o,j0p,j0q,j0r,j0s,j0t,j3k,j3l,j3m,j3n,j3o,j3p,setAll,j3q,j3r,j3s,j3t,j3u,j3v,j3w,j3x,j3y,j3z,j40,j41,j42,j43,j44,j45,j46,j47,j48,j49,j4a,j4b,j4c,j4d,j4e,j4f,j4g,j4h,j4i,j4j,j4k,j4l,j4m,j4n,j4o,j4p,j4q,j4r,j4s,j4t,j4u,j4v,j4w,j4x,j4y,j4z,j50,j51,j52,j53,j54,j55,j56,j57,Bool.not_true,Bool.not_false,Bool.true_and,Bool.and_true,Bool.false_and,Bool.and_false,Bool.true_or,Bool.or_true,Bool.false_or,Bool.or_false,cond_true,cond_false,aAllocN,aIndex,xLoad,xStore,xField,xFA,xIA,xLen,xMM,xAlloc,xIface,xInt,xStr,xIs,xBin,xAgg,xUn,xPick,xExt,knd,fls,ifc,isBoolK,isPtrK,isFuncK,isIfK,j58,j59,Nat.reduceBEq,eq_self,j5a,j5b,j5c,j5d,j5e,j5f,j5g,j5h,j5i,j5j,j5k,j5l,j5m,j5n,j5o,j5p,j5q,j5r,j5s,j5t,j5u,j5v,j5w,j5x,j5y,j5z,j60,j61,j62,j63,j64,j65,j66,j67,j68,j69,j6a,j6b,j6c,j6d,j6e,j6f,j6g,j6h,j6i,j6j,j6k,j6l,j6m,j6n,splice,List.size_toArray,decide_true,decide_false,Nat.reduceLeDiff,List.getD_cons_zero,List.getD_cons_succ,List.drop_succ_cons,List.drop_zero,List.take_succ_cons,List.take_zero,List.take_nil,List.drop_nil,Bool.false_eq_true,List.length_map,List.length_cons,List.length_nil,List.append_nil,List.nil_append,List.cons_append,List.getElem?_cons_succ,List.getElem?_cons_zero,List.length_append,List.set_cons_succ,List.set_cons_zero,List.map_cons,List.map_nil,if_true,if_false,Nat.reduceEqDiff,Nat.reduceAdd,Nat.reduceLT,reduceIte,true_and,and_true,and_self,Nat.zero_add,Nat.add_zero,ge_iff_le,gt_iff_lt,List.filter_cons,List.filter_nil,List.replicate_zero,List.replicate_succ,List.reverse_cons,List.reverse_nil,Option.map_some,Option.map_none, ti3, ti9, ti4, ti28, ti22, ti26, ti47, eB_def, const_eB, g1]
      refine fun_ret (r := .bool (dec (elemOK t))) isfn63 ?_ fun _ => ?_
      · simpa [encT_eq] using spec63 t
      by_cases g2 : elemOK t
      case neg =>
        obtain rfl := hno fun h => by rcases h with h | h
                                      · exact g1 h.1
                                      · exact g2 h.2.1
        simp only [dec_false g2, j00,j01,j02,j03,j04,j05,j06,j07,j08,j09,j0a,j0b,j0c,j0d,j0e,j0f,j0g,j0h,j0i,j0j,j0k,j0l,j0m,j0n,j0o,j0p,j0q,j0r,j0s,j0t,j3k,j3l,j3m,j3n,j3o,j3p,setAll,j3q,j3r,j3s,j3t,j3u,j3v,j3w,j3x,j3y,j3z,j40,j41,j42,j43,j44,j45,j46,j47,j48,j49,j4a,j4b,j4c,j4d,j4e,j4f,j4g,j4h,j4i,j4j,j4k,j4l,j4m,j4n,j4o,j4p,j4q,j4r,j4s,j4t,j4u,j4v,j4w,j4x,j4y,j4z,j50,j51,j52,j53,j54,j55,j56,j57,Bool.not_true,Bool.not_false,Bool.true_and,Bool.and_true,Bool.false_and,Bool.and_false,Bool.true_or,Bool.or_true,Bool.false_or,Bool.or_false,cond_true,cond_false,aAllocN,aIndex,xLoad,xStore,xField,xFA,xIA,xLen,xMM,xAlloc,xIface,xInt,xStr,xIs,xBin,xAgg,xUn,xPick,xExt,knd,fls,ifc,isBoolK,isPtrK,isFuncK,isIfK,j58,j59,Nat.reduceBEq,eq_self,j5a,j5b,j5c,j5d,j5e,j5f,j5g,j5h,j5i,j5j,j5k,j5l,j5m,j5n,j5o,j5p,j5q,j5r,j5s,j5t,j5u,j5v,j5w,j5x,j5y,j5z,j60,j61,j62,j63,j64,j65,j66,j67,j68,j69,j6a,j6b,j6c,j6d,j6e,j6f,j6g,j6h,j6i,j6j,j6k,j6l,j6m,j6n,splice,List.size_toArray,decide_true,decide_false,Nat.reduceLeDiff,List.getD_cons_zero,List.getD_cons_succ,List.drop_succ_cons,List.drop_zero,List.take_succ_cons,List.take_zero,List.take_nil,List.drop_nil,Bool.false_eq_true,List.length_map,List.length_cons,List.length_nil,List.append_nil,List.nil_append,List.cons_append,List.getElem?_cons_succ,List.getElem?_cons_zero,List.length_append,List.set_cons_succ,List.set_cons_zero,List.map_cons,List.map_nil,if_true,if_false,Nat.reduceEqDiff,Nat.reduceAdd,Nat.reduceLT,reduceIte,true_and,and_true,and_self,Nat.zero_add,Nat.add_zero,ge_iff_le,gt_iff_lt,List.filter_cons,List.filter_nil,List.replicate_zero,List.replicate_succ,List.reverse_cons,List.reverse_nil,Option.map_some,Option.map_none, ti3, ti9, ti4, ti28, ti22, ti26, ti47, eB_def, const_eB]
        exact kfin_ret rfl rfl
      simp only [dec_true g2, j00,j01,j02,j03,j04,j05,j06,j07,j08,j09,j0a,j0b,j0c,j0d,j0e,j0f,j0g,j0h,j0i,j0j,j0k,j0l,j0m,j0n,j0o,j0p,j0q,j0r,j0s,j0t,j3k,j3l,j3m,j3n,j3o,j3p,setAll,j3q,j3r,j3s,j3t,j3u,j3v,j3w,j3x,j3y,j3z,j40,j41,j42,j43,j44,j45,j46,j47,j48,j49,j4a,j4b,j4c,j4d,j4e,j4f,j4g,j4h,j4i,j4j,j4k,j4l,j4m,j4n,j4o,j4p,j4q,j4r,j4s,j4t,j4u,j4v,j4w,j4x,j4y,j4z,j50,j51,j52,j53,j54,j55,j56,j57,Bool.not_true,Bool.not_false,Bool.true_and,Bool.and_true,Bool.false_and,Bool.and_false,Bool.true_or,Bool.or_true,Bool.false_or,Bool.or_false,cond_true,cond_false,aAllocN,aIndex,xLoad,xStore,xField,xFA,xIA,xLen,xMM,xAlloc,xIface,xInt,xStr,xIs,xBin,xAgg,xUn,xPick,xExt,knd,fls,ifc,isBoolK,isPtrK,isFuncK,isIfK,j58,j59,Nat.reduceBEq,eq_self,j5a,j5b,j5c,j5d,j5e,j5f,j5g,j5h,j5i,j5j,j5k,j5l,j5m,j5n,j5o,j5p,j5q,j5r,j5s,j5t,j5u,j5v,j5w,j5x,j5y,j5z,j60,j61,j62,j63,j64,j65,j66,j67,j68,j69,j6a,j6b,j6c,j6d,j6e,j6f,j6g,j6h,j6i,j6j,j6k,j6l,j6m,j6n,splice,List.size_toArray,decide_true,decide_false,Nat.reduceLeDiff,List.getD_cons_zero,List.getD_cons_succ,List.drop_succ_cons,List.drop_zero,List.take_succ_cons,List.take_zero,List.take_nil,List.drop_nil,Bool.false_eq_true,List.length_map,List.length_cons,List.length_nil,List.append_nil,List.nil_append,List.cons_append,List.getElem?_cons_succ,List.getElem?_cons_zero,List.length_append,List.set_cons_succ,List.set_cons_zero,List.map_cons,List.map_nil,if_true,if_false,Nat.reduceEqDiff,Nat.reduceAdd,Nat.reduceLT,reduceIte,true_and,and_true,and_self,Nat.zero_add,Nat.add_zero,ge_iff_le,gt_iff_lt,List.filter_cons,List.filter_nil,List.replicate_zero,List.replicate_succ,List.reverse_cons,List.reverse_nil,Option.map_some,Option.map_none, ti3, ti9, ti4, ti28, ti22, ti26, ti47, eB_def, const_eB]
      refine aw_loop (fun i : Nat => ⟨[(33, .slice .dead (t.ks.map encT)), (34, .int .i64 t.ks.length), (35, .int .i64 i)], []⟩) (fun i => i ≤ t.ks.length ∧ ∀ k ∈ t.ks.take i, rightOK k) (fun i => t.ks.length - i) 0 (by simp) (.to [] (by simp) (by simp) (by simp)) ?_
      rintro i ⟨hi, hb⟩
      by_cases h : i < t.ks.length
      · have hr : (0 : Int) ≤ (i : Int) := by omega
        simp only [j00,j01,j02,j03,j04,j05,j06,j07,j08,j09,j0a,j0b,j0c,j0d,j0e,j0f,j0g,j0h,j0i,j0j,j0k,j0l,j0m,j0n,j0o,j0p,j0q,j0r,j0s,j0t,j3k,j3l,j3m,j3n,j3o,j3p,setAll,j3q,j3r,j3s,j3t,j3u,j3v,j3w,j3x,j3y,j3z,j40,j41,j42,j43,j44,j45,j46,j47,j48,j49,j4a,j4b,j4c,j4d,j4e,j4f,j4g,j4h,j4i,j4j,j4k,j4l,j4m,j4n,j4o,j4p,j4q,j4r,j4s,j4t,j4u,j4v,j4w,j4x,j4y,j4z,j50,j51,j52,j53,j54,j55,j56,j57,Bool.not_true,Bool.not_false,Bool.true_and,Bool.and_true,Bool.false_and,Bool.and_false,Bool.true_or,Bool.or_true,Bool.false_or,Bool.or_false,cond_true,cond_false,aAllocN,aIndex,xLoad,xStore,xField,xFA,xIA,xLen,xMM,xAlloc,xIface,xInt,xStr,xIs,xBin,xAgg,xUn,xPick,xExt,knd,fls,ifc,isBoolK,isPtrK,isFuncK,isIfK,j58,j59,Nat.reduceBEq,eq_self,j5a,j5b,j5c,j5d,j5e,j5f,j5g,j5h,j5i,j5j,j5k,j5l,j5m,j5n,j5o,j5p,j5q,j5r,j5s,j5t,j5u,j5v,j5w,j5x,j5y,j5z,j60,j61,j62,j63,j64,j65,j66,j67,j68,j69,j6a,j6b,j6c,j6d,j6e,j6f,j6g,j6h,j6i,j6j,j6k,j6l,j6m,j6n,splice,List.size_toArray,decide_true,decide_false,Nat.reduceLeDiff,List.getD_cons_zero,List.getD_cons_succ,List.drop_succ_cons,List.drop_zero,List.take_succ_cons,List.take_zero,List.take_nil,List.drop_nil,Bool.false_eq_true,List.length_map,List.length_cons,List.length_nil,List.append_nil,List.nil_append,List.cons_append,List.getElem?_cons_succ,List.getElem?_cons_zero,List.length_append,List.set_cons_succ,List.set_cons_zero,List.map_cons,List.map_nil,if_true,if_false,Nat.reduceEqDiff,Nat.reduceAdd,Nat.reduceLT,reduceIte,true_and,and_true,and_self,Nat.zero_add,Nat.add_zero,ge_iff_le,gt_iff_lt,List.filter_cons,List.filter_nil,List.replicate_zero,List.replicate_succ,List.reverse_cons,List.reverse_nil,Option.map_some,Option.map_none, ti3, ti9, ti4, ti28, ti22, ti26, ti47, eB_def, const_eB, hr, Int.toNat_natCast, getD_map h, Int.ofNat_lt, h, encT_eq t.ks[i]]
        refine fun_ret (r := .bool (dec (rightOK t.ks[i]))) isfn45 ?_ fun _ => ?_
        · simpa [encT_eq t.ks[i]] using spec45 n t.ks[i] (by have := Tr.size_ks t t.ks[i] (List.getElem_mem h); omega)
        by_cases g3 : rightOK t.ks[i]
        · simp only [dec_true g3, j00,j01,j02,j03,j04,j05,j06,j07,j08,j09,j0a,j0b,j0c,j0d,j0e,j0f,j0g,j0h,j0i,j0j,j0k,j0l,j0m,j0n,j0o,j0p,j0q,j0r,j0s,j0t,j3k,j3l,j3m,j3n,j3o,j3p,setAll,j3q,j3r,j3s,j3t,j3u,j3v,j3w,j3x,j3y,j3z,j40,j41,j42,j43,j44,j45,j46,j47,j48,j49,j4a,j4b,j4c,j4d,j4e,j4f,j4g,j4h,j4i,j4j,j4k,j4l,j4m,j4n,j4o,j4p,j4q,j4r,j4s,j4t,j4u,j4v,j4w,j4x,j4y,j4z,j50,j51,j52,j53,j54,j55,j56,j57,Bool.not_true,Bool.not_false,Bool.true_and,Bool.and_true,Bool.false_and,Bool.and_false,Bool.true_or,Bool.or_true,Bool.false_or,Bool.or_false,cond_true,cond_false,aAllocN,aIndex,xLoad,xStore,xField,xFA,xIA,xLen,xMM,xAlloc,xIface,xInt,xStr,xIs,xBin,xAgg,xUn,xPick,xExt,knd,fls,ifc,isBoolK,isPtrK,isFuncK,isIfK,j58,j59,Nat.reduceBEq,eq_self,j5a,j5b,j5c,j5d,j5e,j5f,j5g,j5h,j5i,j5j,j5k,j5l,j5m,j5n,j5o,j5p,j5q,j5r,j5s,j5t,j5u,j5v,j5w,j5x,j5y,j5z,j60,j61,j62,j63,j64,j65,j66,j67,j68,j69,j6a,j6b,j6c,j6d,j6e,j6f,j6g,j6h,j6i,j6j,j6k,j6l,j6m,j6n,splice,List.size_toArray,decide_true,decide_false,Nat.reduceLeDiff,List.getD_cons_zero,List.getD_cons_succ,List.drop_succ_cons,List.drop_zero,List.take_succ_cons,List.take_zero,List.take_nil,List.drop_nil,Bool.false_eq_true,List.length_map,List.length_cons,List.length_nil,List.append_nil,List.nil_append,List.cons_append,List.getElem?_cons_succ,List.getElem?_cons_zero,List.length_append,List.set_cons_succ,List.set_cons_zero,List.map_cons,List.map_nil,if_true,if_false,Nat.reduceEqDiff,Nat.reduceAdd,Nat.reduceLT,reduceIte,true_and,and_true,and_self,Nat.zero_add,Nat.add_zero,ge_iff_le,gt_iff_lt,List.filter_cons,List.filter_nil,List.replicate_zero,List.replicate_succ,List.reverse_cons,List.reverse_nil,Option.map_some,Option.map_none, ti3, ti9, ti4, ti28, ti22, ti26, ti47, eB_def, const_eB, wrapS i _ h hlen]
          refine ⟨i + 1, ⟨by omega, fun k hk => ?_⟩, .to [] (by simp) (by simp) (by simp), by omega⟩
          rw [List.take_succ_eq_append_getElem h, List.mem_append, List.mem_singleton] at hk
          rcases hk with hk | rfl
          · exact hb k hk
          · exact g3
        · obtain rfl := hno fun hh => by rcases hh with hh | hh
                                         · exact g1 hh.1
                                         · exact g3 (hh.2.2 _ (List.getElem_mem h))
          simp only [dec_false g3, j00,j01,j02,j03,j04,j05,j06,j07,j08,j09,j0a,j0b,j0c,j0d,j0e,j0f,j0g,j0h,j0i,j0j,j0k,j0l,j0m,j0n,j0o,j0p,j0q,j0r,j0s,j0t,j3k,j3l,j3m,j3n,j3o,j3p,setAll,j3q,j3r,j3s,j3t,j3u,j3v,j3w,j3x,j3y,j3z,j40,j41,j42,j43,j44,j45,j46,j47,j48,j49,j4a,j4b,j4c,j4d,j4e,j4f,j4g,j4h,j4i,j4j,j4k,j4l,j4m,j4n,j4o,j4p,j4q,j4r,j4s,j4t,j4u,j4v,j4w,j4x,j4y,j4z,j50,j51,j52,j53,j54,j55,j56,j57,Bool.not_true,Bool.not_false,Bool.true_and,Bool.and_true,Bool.false_and,Bool.and_false,Bool.true_or,Bool.or_true,Bool.false_or,Bool.or_false,cond_true,cond_false,aAllocN,aIndex,xLoad,xStore,xField,xFA,xIA,xLen,xMM,xAlloc,xIface,xInt,xStr,xIs,xBin,xAgg,xUn,xPick,xExt,knd,fls,ifc,isBoolK,isPtrK,isFuncK,isIfK,j58,j59,Nat.reduceBEq,eq_self,j5a,j5b,j5c,j5d,j5e,j5f,j5g,j5h,j5i,j5j,j5k,j5l,j5m,j5n,j5o,j5p,j5q,j5r,j5s,j5t,j5u,j5v,j5w,j5x,j5y,j5z,j60,j61,j62,j63,j64,j65,j66,j67,j68,j69,j6a,j6b,j6c,j6d,j6e,j6f,j6g,j6h,j6i,j6j,j6k,j6l,j6m,j6n,splice,List.size_toArray,decide_true,decide_false,Nat.reduceLeDiff,List.getD_cons_zero,List.getD_cons_succ,List.drop_succ_cons,List.drop_zero,List.take_succ_cons,List.take_zero,List.take_nil,List.drop_nil,Bool.false_eq_true,List.length_map,List.length_cons,List.length_nil,List.append_nil,List.nil_append,List.cons_append,List.getElem?_cons_succ,List.getElem?_cons_zero,List.length_append,List.set_cons_succ,List.set_cons_zero,List.map_cons,List.map_nil,if_true,if_false,Nat.reduceEqDiff,Nat.reduceAdd,Nat.reduceLT,reduceIte,true_and,and_true,and_self,Nat.zero_add,Nat.add_zero,ge_iff_le,gt_iff_lt,List.filter_cons,List.filter_nil,List.replicate_zero,List.replicate_succ,List.reverse_cons,List.reverse_nil,Option.map_some,Option.map_none, ti3, ti9, ti4, ti28, ti22, ti26, ti47, eB_def, const_eB]
          exact kfin_ret rfl rfl
      · obtain rfl := hyes (.inr ⟨g1, g2, fun k hk => hb k (by rw [List.take_of_length_le (by omega)]; exact hk)⟩)
        simp only [j00,j01,j02,j03,j04,j05,j06,j07,j08,j09,j0a,j0b,j0c,j0d,j0e,j0f,j0g,j0h,j0i,j0j,j0k,j0l,j0m,j0n,j0o,j0p,j0q,j0r,j0s,j0t,j3k,j3l,j3m,j3n,j3o,j3p,setAll,j3q,j3r,j3s,j3t,j3u,j3v,j3w,j3x,j3y,j3z,j40,j41,j42,j43,j44,j45,j46,j47,j48,j49,j4a,j4b,j4c,j4d,j4e,j4f,j4g,j4h,j4i,j4j,j4k,j4l,j4m,j4n,j4o,j4p,j4q,j4r,j4s,j4t,j4u,j4v,j4w,j4x,j4y,j4z,j50,j51,j52,j53,j54,j55,j56,j57,Bool.not_true,Bool.not_false,Bool.true_and,Bool.and_true,Bool.false_and,Bool.and_false,Bool.true_or,Bool.or_true,Bool.false_or,Bool.or_false,cond_true,cond_false,aAllocN,aIndex,xLoad,xStore,xField,xFA,xIA,xLen,xMM,xAlloc,xIface,xInt,xStr,xIs,xBin,xAgg,xUn,xPick,xExt,knd,fls,ifc,isBoolK,isPtrK,isFuncK,isIfK,j58,j59,Nat.reduceBEq,eq_self,j5a,j5b,j5c,j5d,j5e,j5f,j5g,j5h,j5i,j5j,j5k,j5l,j5m,j5n,j5o,j5p,j5q,j5r,j5s,j5t,j5u,j5v,j5w,j5x,j5y,j5z,j60,j61,j62,j63,j64,j65,j66,j67,j68,j69,j6a,j6b,j6c,j6d,j6e,j6f,j6g,j6h,j6i,j6j,j6k,j6l,j6m,j6n,splice,List.size_toArray,decide_true,decide_false,Nat.reduceLeDiff,List.getD_cons_zero,List.getD_cons_succ,List.drop_succ_cons,List.drop_zero,List.take_succ_cons,List.take_zero,List.take_nil,List.drop_nil,Bool.false_eq_true,List.length_map,List.length_cons,List.length_nil,List.append_nil,List.nil_append,List.cons_append,List.getElem?_cons_succ,List.getElem?_cons_zero,List.length_append,List.set_cons_succ,List.set_cons_zero,List.map_cons,List.map_nil,if_true,if_false,Nat.reduceEqDiff,Nat.reduceAdd,Nat.reduceLT,reduceIte,true_and,and_true,and_self,Nat.zero_add,Nat.add_zero,ge_iff_le,gt_iff_lt,List.filter_cons,List.filter_nil,List.replicate_zero,List.replicate_succ,List.reverse_cons,List.reverse_nil,Option.map_some,Option.map_none, ti3, Int.ofNat_lt, h]
        exact kfin_ret rfl rfl
    by_cases h : rightOK t
    · exact key (fun _ => by rw [dec_true h]) fun h' => absurd h h'
    · exact key (fun h' => absurd h' h) fun _ => by rw [dec_false h]
/-- A right tree. -/
def rightT (t : Tr) : Prop := rightOK t ∧ cntT t ≤ 60 ∧ deepT t ≤ 12
theorem spec21 (t : Tr) : PSpec Tryd.prog 21 [encT t] (.ret (.bool (dec (rightT t)))) := by
  have key : ∀ {out : Out}, (rightT t → out = .ret (.bool true)) → (¬ rightT t → out = .ret (.bool false)) → PSpec Tryd.prog 21 [encT t] out := by
    intro out hyes hno
    refine ispec21 ?_
    rw [encT_eq]
    simp only [x21, enum, j00,j01,j02,j03,j04,j05,j06,j07,j08,j09,j0a,j0b,j0c,j0d,j0e,j0f,j0g,j0h,j0i,j0j,j0k,j0l,j0m,j0n,j0o,j0p,j0q,j0r,j0s,j0t,j3k,j3l,j3m,j3n,j3o,j3p,setAll,j3q,j3r,j3s,j3t,j3u,j3v,j3w,j3x,j3y,j3z,j40,j41,j42,j43,j44,j45,j46,j47,j48,j49,j4a,j4b,j4c,j4d,j4e,j4f,j4g,j4h,j4i,j4j,j4k,j4l,j4m,j4n,j4o,j4p,j4q,j4r,j4s,j4t,j4u,j4v,j4w,j4x,j4y,j4z,j50,j51,j52,j53,j54,j55,j56,j57,Bool.not_true,Bool.not_false,Bool.true_and,Bool.and_true,Bool.false_and,Bool.and_false,Bool.true_or,Bool.or_true,Bool.false_or,Bool.or_false,cond_true,cond_false,aAllocN,aIndex,xLoad,xStore,xField,xFA,xIA,xLen,xMM,xAlloc,xIface,xInt,xStr,xIs,xBin,xAgg,xUn,xPick,xExt,knd,fls,ifc,isBoolK,isPtrK,isFuncK,isIfK,j58,j59,Nat.reduceBEq,eq_self,j5a,j5b,j5c,j5d,j5e,j5f,j5g,j5h,j5i,j5j,j5k,j5l,j5m,j5n,j5o,j5p,j5q,j5r,j5s,j5t,j5u,j5v,j5w,j5x,j5y,j5z,j60,j61,j62,j63,j64,j65,j66,j67,j68,j69,j6a,j6b,j6c,j6d,j6e,j6f,j6g,j6h,j6i,j6j,j6k,j6l,j6m,j6n,splice,List.size_toArray,decide_true,decide_false,Nat.reduceLeDiff,List.getD_cons_zero,List.getD_cons_succ,List.drop_succ_cons,List.drop_zero,List.take_succ_cons,List.take_zero,List.take_nil,List.drop_nil,Bool.false_eq_true,List.length_map,List.length_cons,List.length_nil,List.append_nil,List.nil_append,List.cons_append,List.getElem?_cons_succ,List.getElem?_cons_zero,List.length_append,List.set_cons_succ,List.set_cons_zero,List.map_cons,List.map_nil,if_true,if_false,Nat.reduceEqDiff,Nat.reduceAdd,Nat.reduceLT,reduceIte,true_and,and_true,and_self,Nat.zero_add,Nat.add_zero,ge_iff_le,gt_iff_lt,List.filter_cons,List.filter_nil,List.replicate_zero,List.replicate_succ,List.reverse_cons,List.reverse_nil,Option.map_some,Option.map_none, ti3, ti9, ti4, ti28, ti22, ti26, ti47, eB_def, const_eB]
    refine fun_ret (r := .bool (dec (rightOK t))) isfn45 ?_ fun _ => ?_
    · simpa [encT_eq] using spec45 _ t (Nat.lt_succ_self _)
    by_cases g1 : rightOK t
    case neg =>
      obtain rfl := hno fun h => g1 h.1
      simp only [dec_false g1, j00,j01,j02,j03,j04,j05,j06,j07,j08,j09,j0a,j0b,j0c,j0d,j0e,j0f,j0g,j0h,j0i,j0j,j0k,j0l,j0m,j0n,j0o,j0p,j0q,j0r,j0s,j0t,j3k,j3l,j3m,j3n,j3o,j3p,setAll,j3q,j3r,j3s,j3t,j3u,j3v,j3w,j3x,j3y,j3z,j40,j41,j42,j43,j44,j45,j46,j47,j48,j49,j4a,j4b,j4c,j4d,j4e,j4f,j4g,j4h,j4i,j4j,j4k,j4l,j4m,j4n,j4o,j4p,j4q,j4r,j4s,j4t,j4u,j4v,j4w,j4x,j4y,j4z,j50,j51,j52,j53,j54,j55,j56,j57,Bool.not_true,Bool.not_false,Bool.true_and,Bool.and_true,Bool.false_and,Bool.and_false,Bool.true_or,Bool.or_true,Bool.false_or,Bool.or_false,cond_true,cond_false,aAllocN,aIndex,xLoad,xStore,xField,xFA,xIA,xLen,xMM,xAlloc,xIface,xInt,xStr,xIs,xBin,xAgg,xUn,xPick,xExt,knd,fls,ifc,isBoolK,isPtrK,isFuncK,isIfK,j58,j59,Nat.reduceBEq,eq_self,j5a,j5b,j5c,j5d,j5e,j5f,j5g,j5h,j5i,j5j,j5k,j5l,j5m,j5n,j5o,j5p,j5q,j5r,j5s,j5t,j5u,j5v,j5w,j5x,j5y,j5z,j60,j61,j62,j63,j64,j65,j66,j67,j68,j69,j6a,j6b,j6c,j6d,j6e,j6f,j6g,j6h,j6i,j6j,j6k,j6l,j6m,j6n,splice,List.size_toArray,decide_true,decide_false,Nat.reduceLeDiff,List.getD_cons_zero,List.getD_cons_succ,List.drop_succ_cons,List.drop_zero,List.take_succ_cons,List.take_zero,List.take_nil,List.drop_nil,Bool.false_eq_true,List.length_map,List.length_cons,List.length_nil,List.append_nil,List.nil_append,List.cons_append,List.getElem?_cons_succ,List.getElem?_cons_zero,List.length_append,List.set_cons_succ,List.set_cons_zero,List.map_cons,List.map_nil,if_true,if_false,Nat.reduceEqDiff,Nat.reduceAdd,Nat.reduceLT,reduceIte,true_and,and_true,and_self,Nat.zero_add,Nat.add_zero,ge_iff_le,gt_iff_lt,List.filter_cons,List.filter_nil,List.replicate_zero,List.replicate_succ,List.reverse_cons,List.reverse_nil,Option.map_some,Option.map_none, ti3, ti9, ti4, ti28, ti22, ti26, ti47, eB_def, const_eB]
      exact kfin_ret rfl rfl
    simp only [dec_true g1, j00,j01,j02,j03,j04,j05,j06,j07,j08,j09,j0a,j0b,j0c,j0d,j0e,j0f,j0g,j0h,j0i,j0j,j0k,j0l,j0m,j0n,j0o,j0p,j0q,j0r,j0s,j0t,j3k,j3l,j3m,j3n,j3o,j3p,setAll,j3q,j3r,j3s,j3t,j3u,j3v,j3w,j3x,j3y,j3z,j40,j41,j42,j43,j44,j45,j46,j47,j48,j49,j4a,j4b,j4c,j4d,j4e,j4f,j4g,j4h,j4i,j4j,j4k,j4l,j4m,j4n,j4o,j4p,j4q,j4r,j4s,j4t,j4u,j4v,j4w,j4x,j4y,j4z,j50,j51,j52,j53,j54,j55,j56,j57,Bool.not_true,Bool.not_false,Bool.true_and,Bool.and_true,Bool.false_and,Bool.and_false,Bool.true_or,Bool.or_true,Bool.false_or,Bool.or_false,cond_true,cond_false,aAllocN,aIndex,xLoad,xStore,xField,xFA,xIA,xLen,xMM,xAlloc,xIface,xInt,xStr,xIs,xBin,xAgg,xUn,xPick,xExt,knd,fls,ifc,isBoolK,isPtrK,isFuncK,isIfK,j58,j59,Nat.reduceBEq,eq_self,j5a,j5b,j5c,j5d,j5e,j5f,j5g,j5h,j5i,j5j,j5k,j5l,j5m,j5n,j5o,j5p,j5q,j5r,j5s,j5t,j5u,j5v,j5w,j5x,j5y,j5z,j60,j61,j62,j63,j64,j65,j66,j67,j68,j69,j6a,j6b,j6c,j6d,j6e,j6f,j6g,j6h,j6i,j6j,j6k,j6l,j6m,j6n,splice,List.size_toArray,decide_true,decide_false,Nat.reduceLeDiff,List.getD_cons_zero,List.getD_cons_succ,List.drop_succ_cons,List.drop_zero,List.take_succ_cons,List.take_zero,List.take_nil,List.drop_nil,Bool.false_eq_true,List.length_map,List.length_cons,List.length_nil,List.append_nil,List.nil_append,List.cons_append,List.getElem?_cons_succ,List.getElem?_cons_zero,List.length_append,List.set_cons_succ,List.set_cons_zero,List.map_cons,List.map_nil,if_true,if_false,Nat.reduceEqDiff,Nat.reduceAdd,Nat.reduceLT,reduceIte,true_and,and_true,and_self,Nat.zero_add,Nat.add_zero,ge_iff_le,gt_iff_lt,List.filter_cons,List.filter_nil,List.replicate_zero,List.replicate_succ,List.reverse_cons,List.reverse_nil,Option.map_some,Option.map_none, ti3, ti9, ti4, ti28, ti22, ti26, ti47, eB_def, const_eB]
    refine fun_ret (r := .int .i64 (cntT t)) isfn46 ?_ fun _ => ?_
    · simpa [encT_eq] using spec46 t
    by_cases g2 : cntT t ≤ 60
    case neg =>
      obtain rfl := hno fun h => g2 h.2.1
      simp only [g2, j00,j01,j02,j03,j04,j05,j06,j07,j08,j09,j0a,j0b,j0c,j0d,j0e,j0f,j0g,j0h,j0i,j0j,j0k,j0l,j0m,j0n,j0o,j0p,j0q,j0r,j0s,j0t,j3k,j3l,j3m,j3n,j3o,j3p,setAll,j3q,j3r,j3s,j3t,j3u,j3v,j3w,j3x,j3y,j3z,j40,j41,j42,j43,j44,j45,j46,j47,j48,j49,j4a,j4b,j4c,j4d,j4e,j4f,j4g,j4h,j4i,j4j,j4k,j4l,j4m,j4n,j4o,j4p,j4q,j4r,j4s,j4t,j4u,j4v,j4w,j4x,j4y,j4z,j50,j51,j52,j53,j54,j55,j56,j57,Bool.not_true,Bool.not_false,Bool.true_and,Bool.and_true,Bool.false_and,Bool.and_false,Bool.true_or,Bool.or_true,Bool.false_or,Bool.or_false,cond_true,cond_false,aAllocN,aIndex,xLoad,xStore,xField,xFA,xIA,xLen,xMM,xAlloc,xIface,xInt,xStr,xIs,xBin,xAgg,xUn,xPick,xExt,knd,fls,ifc,isBoolK,isPtrK,isFuncK,isIfK,j58,j59,Nat.reduceBEq,eq_self,j5a,j5b,j5c,j5d,j5e,j5f,j5g,j5h,j5i,j5j,j5k,j5l,j5m,j5n,j5o,j5p,j5q,j5r,j5s,j5t,j5u,j5v,j5w,j5x,j5y,j5z,j60,j61,j62,j63,j64,j65,j66,j67,j68,j69,j6a,j6b,j6c,j6d,j6e,j6f,j6g,j6h,j6i,j6j,j6k,j6l,j6m,j6n,splice,List.size_toArray,decide_true,decide_false,Nat.reduceLeDiff,List.getD_cons_zero,List.getD_cons_succ,List.drop_succ_cons,List.drop_zero,List.take_succ_cons,List.take_zero,List.take_nil,List.drop_nil,Bool.false_eq_true,List.length_map,List.length_cons,List.length_nil,List.append_nil,List.nil_append,List.cons_append,List.getElem?_cons_succ,List.getElem?_cons_zero,List.length_append,List.set_cons_succ,List.set_cons_zero,List.map_cons,List.map_nil,if_true,if_false,Nat.reduceEqDiff,Nat.reduceAdd,Nat.reduceLT,reduceIte,true_and,and_true,and_self,Nat.zero_add,Nat.add_zero,ge_iff_le,gt_iff_lt,List.filter_cons,List.filter_nil,List.replicate_zero,List.replicate_succ,List.reverse_cons,List.reverse_nil,Option.map_some,Option.map_none, ti3, ti9, ti4, ti28, ti22, ti26, ti47, eB_def, const_eB]
      exact kfin_ret rfl rfl
    simp only [g2, j00,j01,j02,j03,j04,j05,j06,j07,j08,j09,j0a,j0b,j0c,j0d,j0e,j0f,j0g,j0h,j0i,j0j,j0k,j0l,j0m,j0n,j0o,j0p,j0q,j0r,j0s,j0t,j3k,j3l,j3m,j3n,j3o,j3p,setAll,j3q,j3r,j3s,j3t,j3u,j3v,j3w,j3x,j3y,j3z,j40,j41,j42,j43,j44,j45,j46,j47,j48,j49,j4a,j4b,j4c,j4d,j4e,j4f,j4g,j4h,j4i,j4j,j4k,j4l,j4m,j4n,j4o,j4p,j4q,j4r,j4s,j4t,j4u,j4v,j4w,j4x,j4y,j4z,j50,j51,j52,j53,j54,j55,j56,j57,Bool.not_true,Bool.not_false,Bool.true_and,Bool.and_true,Bool.false_and,Bool.and_false,Bool.true_or,Bool.or_true,Bool.false_or,Bool.or_false,cond_true,cond_false,aAllocN,aIndex,xLoad,xStore,xField,xFA,xIA,xLen,xMM,xAlloc,xIface,xInt,xStr,xIs,xBin,xAgg,xUn,xPick,xExt,knd,fls,ifc,isBoolK,isPtrK,isFuncK,isIfK,j58,j59,Nat.reduceBEq,eq_self,j5a,j5b,j5c,j5d,j5e,j5f,j5g,j5h,j5i,j5j,j5k,j5l,j5m,j5n,j5o,j5p,j5q,j5r,j5s,j5t,j5u,j5v,j5w,j5x,j5y,j5z,j60,j61,j62,j63,j64,j65,j66,j67,j68,j69,j6a,j6b,j6c,j6d,j6e,j6f,j6g,j6h,j6i,j6j,j6k,j6l,j6m,j6n,splice,List.size_toArray,decide_true,decide_false,Nat.reduceLeDiff,List.getD_cons_zero,List.getD_cons_succ,List.drop_succ_cons,List.drop_zero,List.take_succ_cons,List.take_zero,List.take_nil,List.drop_nil,Bool.false_eq_true,List.length_map,List.length_cons,List.length_nil,List.append_nil,List.nil_append,List.cons_append,List.getElem?_cons_succ,List.getElem?_cons_zero,List.length_append,List.set_cons_succ,List.set_cons_zero,List.map_cons,List.map_nil,if_true,if_false,Nat.reduceEqDiff,Nat.reduceAdd,Nat.reduceLT,reduceIte,true_and,and_true,and_self,Nat.zero_add,Nat.add_zero,ge_iff_le,gt_iff_lt,List.filter_cons,List.filter_nil,List.replicate_zero,List.replicate_succ,List.reverse_cons,List.reverse_nil,Option.map_some,Option.map_none, ti3, ti9, ti4, ti28, ti22, ti26, ti47, eB_def, const_eB]
    refine fun_ret (r := .int .i64 (deepT t)) isfn47 ?_ fun _ => ?_
    · simpa [encT_eq] using spec47 t
    by_cases g3 : deepT t ≤ 12
    case neg =>
      obtain rfl := hno fun h => g3 h.2.2
      simp only [g3, j00,j01,j02,j03,j04,j05,j06,j07,j08,j09,j0a,j0b,j0c,j0d,j0e,j0f,j0g,j0h,j0i,j0j,j0k,j0l,j0m,j0n,j0o,j0p,j0q,j0r,j0s,j0t,j3k,j3l,j3m,j3n,j3o,j3p,setAll,j3q,j3r,j3s,j3t,j3u,j3v,j3w,j3x,j3y,j3z,j40,j41,j42,j43,j44,j45,j46,j47,j48,j49,j4a,j4b,j4c,j4d,j4e,j4f,j4g,j4h,j4i,j4j,j4k,j4l,j4m,j4n,j4o,j4p,j4q,j4r,j4s,j4t,j4u,j4v,j4w,j4x,j4y,j4z,j50,j51,j52,j53,j54,j55,j56,j57,Bool.not_true,Bool.not_false,Bool.true_and,Bool.and_true,Bool.false_and,Bool.and_false,Bool.true_or,Bool.or_true,Bool.false_or,Bool.or_false,cond_true,cond_false,aAllocN,aIndex,xLoad,xStore,xField,xFA,xIA,xLen,xMM,xAlloc,xIface,xInt,xStr,xIs,xBin,xAgg,xUn,xPick,xExt,knd,fls,ifc,isBoolK,isPtrK,isFuncK,isIfK,j58,j59,Nat.reduceBEq,eq_self,j5a,j5b,j5c,j5d,j5e,j5f,j5g,j5h,j5i,j5j,j5k,j5l,j5m,j5n,j5o,j5p,j5q,j5r,j5s,j5t,j5u,j5v,j5w,j5x,j5y,j5z,j60,j61,j62,j63,j64,j65,j66,j67,j68,j69,j6a,j6b,j6c,j6d,j6e,j6f,j6g,j6h,j6i,j6j,j6k,j6l,j6m,j6n,splice,List.size_toArray,decide_true,decide_false,Nat.reduceLeDiff,List.getD_cons_zero,List.getD_cons_succ,List.drop_succ_cons,List.drop_zero,List.take_succ_cons,List.take_zero,List.take_nil,List.drop_nil,Bool.false_eq_true,List.length_map,List.length_cons,List.length_nil,List.append_nil,List.nil_append,List.cons_append,List.getElem?_cons_succ,List.getElem?_cons_zero,List.length_append,List.set_cons_succ,List.set_cons_zero,List.map_cons,List.map_nil,if_true,if_false,Nat.reduceEqDiff,Nat.reduceAdd,Nat.reduceLT,reduceIte,true_and,and_true,and_self,Nat.zero_add,Nat.add_zero,ge_iff_le,gt_iff_lt,List.filter_cons,List.filter_nil,List.replicate_zero,List.replicate_succ,List.reverse_cons,List.reverse_nil,Option.map_some,Option.map_none, ti3, ti9, ti4, ti28, ti22, ti26, ti47, eB_def, const_eB]
      exact kfin_ret rfl rfl
    obtain rfl := hyes ⟨g1, g2, g3⟩
    simp only [g3, j00,j01,j02,j03,j04,j05,j06,j07,j08,j09,j0a,j0b,j0c,j0d,j0e,j0f,j0g,j0h,j0i,j0j,j0k,j0l,j0m,j0n,j0o,j0p,j0q,j0r,j0s,j0t,j3k,j3l,j3m,j3n,j3o,j3p,setAll,j3q,j3r,j3s,j3t,j3u,j3v,j3w,j3x,j3y,j3z,j40,j41,j42,j43,j44,j45,j46,j47,j48,j49,j4a,j4b,j4c,j4d,j4e,j4f,j4g,j4h,j4i,j4j,j4k,j4l,j4m,j4n,j4o,j4p,j4q,j4r,j4s,j4t,j4u,j4v,j4w,j4x,j4y,j4z,j50,j51,j52,j53,j54,j55,j56,j57,Bool.not_true,Bool.not_false,Bool.true_and,Bool.and_true,Bool.false_and,Bool.and_false,Bool.true_or,Bool.or_true,Bool.false_or,Bool.or_false,cond_true,cond_false,aAllocN,aIndex,xLoad,xStore,xField,xFA,xIA,xLen,xMM,xAlloc,xIface,xInt,xStr,xIs,xBin,xAgg,xUn,xPick,xExt,knd,fls,ifc,isBoolK,isPtrK,isFuncK,isIfK,j58,j59,Nat.reduceBEq,eq_self,j5a,j5b,j5c,j5d,j5e,j5f,j5g,j5h,j5i,j5j,j5k,j5l,j5m,j5n,j5o,j5p,j5q,j5r,j5s,j5t,j5u,j5v,j5w,j5x,j5y,j5z,j60,j61,j62,j63,j64,j65,j66,j67,j68,j69,j6a,j6b,j6c,j6d,j6e,j6f,j6g,j6h,j6i,j6j,j6k,j6l,j6m,j6n,splice,List.size_toArray,decide_true,decide_false,Nat.reduceLeDiff,List.getD_cons_zero,List.getD_cons_succ,List.drop_succ_cons,List.drop_zero,List.take_succ_cons,List.take_zero,List.take_nil,List.drop_nil,Bool.false_eq_true,List.length_map,List.length_cons,List.length_nil,List.append_nil,List.nil_append,List.cons_append,List.getElem?_cons_succ,List.getElem?_cons_zero,List.length_append,List.set_cons_succ,List.set_cons_zero,List.map_cons,List.map_nil,if_true,if_false,Nat.reduceEqDiff,Nat.reduceAdd,Nat.reduceLT,reduceIte,true_and,and_true,and_self,Nat.zero_add,Nat.add_zero,ge_iff_le,gt_iff_lt,List.filter_cons,List.filter_nil,List.replicate_zero,List.replicate_succ,List.reverse_cons,List.reverse_nil,Option.map_some,Option.map_none, ti3, ti9, ti4, ti28, ti22, ti26, ti47, eB_def, const_eB]
    exact kfin_ret rfl rfl
  by_cases h : rightT t
  · exact key (fun _ => by rw [dec_true h]) fun h' => absurd h h'
  · exact key (fun h' => absurd h' h) fun _ => by rw [dec_false h]
end Go.Proofs.YtlfngjemfpjegaaDoor.Px
