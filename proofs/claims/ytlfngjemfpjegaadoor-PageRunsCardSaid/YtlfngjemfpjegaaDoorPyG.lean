/- The renderer's walks: kids, each, row. -/
import Derived.Test.YtlfngjemfpjegaaDoorPyI
namespace Go.Proofs.YtlfngjemfpjegaaDoor.Px
open Go Go.RowKit Go.Proofs
set_option linter.unusedVariables false
set_option linter.unnecessarySimpa false
set_option linter.unusedSimpArgs false
set_option maxRecDepth 4000
def x54 : XCode :=
  (.seq
   (.reg [⟨some 4, none, Op.assign (Operand.const (Value.slice none 0 0)), false⟩])
   (.seq
    (.reg [⟨some 5, none, Op.assign (Operand.const (Value.slice none 0 0)), false⟩])
    (.seq
     (.seq
      (.reg [⟨some 8, none, Op.move (Operand.tmp 1), false⟩,
        ⟨some 9, none, Op.call { callee := Callee.builtin Builtin.len, args := #[Operand.tmp 8], argTypes := #[23] }, false⟩,
        ⟨some 10, none, Op.move (Operand.const (Value.int IntKind.i64 0)), false⟩])
      (.block 0
       (.loop
        (.seq
         (.reg [⟨some 11, none, Op.binOp BinOp.lss 3 (Operand.tmp 10) (Operand.tmp 9) 3, false⟩])
         (.seq
          (.cond (Operand.tmp 11)
           .skip
           (.exit 0))
          (.seq
           (.block 1
            (.seq
             (.reg [⟨some 12, none, Op.indexAddr 23 (Operand.tmp 8) (Operand.tmp 10), false⟩,
               ⟨some 13, none, Op.load 25 (Operand.tmp 12), false⟩,
               ⟨some 7, none, Op.alloc 25, false⟩,
               ⟨none, none, Op.store 25 (Operand.tmp 7) (Operand.tmp 13), false⟩])
             (.reg [⟨some 14, none, Op.move (Operand.tmp 5), false⟩,
               ⟨some 15, none, Op.move (Operand.tmp 0), false⟩,
               ⟨some 16, none, Op.load 25 (Operand.tmp 7), false⟩,
               ⟨some 17, none, Op.call { callee := Callee.value (Operand.func 31), args := #[Operand.tmp 15, Operand.tmp 16], argTypes := #[66, 25] }, false⟩,
               ⟨some 18, none, Op.call { callee := Callee.builtin Builtin.append, args := #[Operand.tmp 14, Operand.tmp 17], argTypes := #[26, 26] }, false⟩,
               ⟨some 5, none, Op.assign (Operand.tmp 18), false⟩])))
           (.reg [⟨some 19, none, Op.binOp BinOp.add 3 (Operand.tmp 10) (Operand.const (Value.int IntKind.i64 1)) 3, false⟩,
             ⟨some 10, none, Op.move (Operand.tmp 19), false⟩])))))))
     (.seq
      (.reg [⟨some 20, none, Op.move (Operand.tmp 5), false⟩,
        ⟨some 4, none, Op.assign (Operand.tmp 20), false⟩])
      .ret))))
theorem ispec54 {args : List PV} {L L' : List AObj} {out : Out} (h : aw Tryd.prog L.length 21 x54 (kfin Tryd.prog [.tmp 4] L.length 21 out L') ⟨enum 0 args, L⟩) : ISpec Tryd.prog 54 args L out L' :=
  ispec_of_aw mixd (fn := Tryd.f54) (x := x54) Tryd.func54 rfl (by kernel_rfl) (by kernel_rfl) rfl h
theorem isfn54 : isFn Tryd.prog 54 = true := by kernel_rfl

def x58 : XCode :=
  (.seq
   (.reg [⟨some 3, none, Op.box 25 (Operand.tmp 1), false⟩,
     ⟨some 4, none, Op.assign (Operand.const (Value.slice none 0 0)), false⟩])
   (.seq
    (.reg [⟨some 10, none, Op.move (Operand.tmp 0), false⟩,
      ⟨some 11, none, Op.fieldAddr 25 (Operand.tmp 3) 1, false⟩,
      ⟨some 12, none, Op.load 3 (Operand.tmp 11), false⟩,
      ⟨some 13, none, Op.call { callee := Callee.value (Operand.func 56), args := #[Operand.tmp 10, Operand.tmp 12], argTypes := #[66, 3] }, false⟩,
      ⟨some 5, none, Op.assign (Operand.tmp 13), false⟩])
    (.seq
     (.reg [⟨some 14, none, Op.move (Operand.tmp 5), false⟩,
       ⟨some 15, none, Op.binOp BinOp.leq 3 (Operand.tmp 14) (Operand.const (Value.int IntKind.i64 24)) 3, false⟩,
       ⟨some 16, none, Op.move (Operand.tmp 5), false⟩,
       ⟨some 17, none, Op.call { callee := Callee.value (Operand.func 32), args := #[Operand.tmp 15, Operand.const (Value.string { data := #[116, 105, 109, 101, 115] }), Operand.tmp 16], argTypes := #[4, 9, 3] }, false⟩])
     (.seq
      (.reg [⟨some 6, none, Op.assign (Operand.const (Value.slice none 0 0)), false⟩])
      (.seq
       (.seq
        (.reg [⟨some 18, none, Op.move (Operand.tmp 5), false⟩,
          ⟨some 19, none, Op.call { callee := Callee.builtin Builtin.max, args := #[Operand.tmp 18, Operand.const (Value.int IntKind.i64 0)], argTypes := #[3, 3] }, false⟩,
          ⟨some 20, none, Op.move (Operand.const (Value.int IntKind.i64 0)), false⟩])
        (.block 0
         (.loop
          (.seq
           (.reg [⟨some 21, none, Op.binOp BinOp.lss 3 (Operand.tmp 20) (Operand.tmp 19) 3, false⟩])
           (.seq
            (.cond (Operand.tmp 21)
             .skip
             (.exit 0))
            (.seq
             (.block 1
              (.seq
               (.reg [⟨some 22, none, Op.move (Operand.tmp 20), false⟩,
                 ⟨some 7, none, Op.assign (Operand.tmp 22), false⟩])
               (.seq
                (.reg [⟨some 23, none, Op.move (Operand.tmp 0), false⟩,
                  ⟨some 24, none, Op.fieldAddr 25 (Operand.tmp 3) 5, false⟩,
                  ⟨some 25, none, Op.load 23 (Operand.tmp 24), false⟩,
                  ⟨some 26, none, Op.call { callee := Callee.value (Operand.func 54), args := #[Operand.tmp 23, Operand.tmp 25], argTypes := #[66, 23] }, false⟩,
                  ⟨some 27, none, Op.call { callee := Callee.builtin Builtin.len, args := #[Operand.tmp 26], argTypes := #[26] }, false⟩,
                  ⟨some 28, none, Op.move (Operand.const (Value.int IntKind.i64 0)), false⟩])
                (.block 2
                 (.loop
                  (.seq
                   (.reg [⟨some 29, none, Op.binOp BinOp.lss 3 (Operand.tmp 28) (Operand.tmp 27) 3, false⟩])
                   (.seq
                    (.cond (Operand.tmp 29)
                     .skip
                     (.exit 2))
                    (.seq
                     (.block 3
                      (.seq
                       (.reg [⟨some 30, none, Op.indexAddr 26 (Operand.tmp 26) (Operand.tmp 28), false⟩,
                         ⟨some 31, none, Op.load 28 (Operand.tmp 30), false⟩,
                         ⟨some 9, none, Op.alloc 28, false⟩,
                         ⟨none, none, Op.store 28 (Operand.tmp 9) (Operand.tmp 31), false⟩])
                       (.seq
                        (.seq
                         (.reg [⟨some 32, none, Op.fieldAddr 28 (Operand.tmp 9) 0, false⟩,
                           ⟨some 33, none, Op.load 9 (Operand.tmp 32), false⟩,
                           ⟨some 34, none, Op.binOp BinOp.neq 9 (Operand.tmp 33) (Operand.const (Value.string { data := #[] })) 9, false⟩])
                         (.cond (Operand.tmp 34)
                          (.reg [⟨some 35, none, Op.move (Operand.tmp 7), false⟩,
                            ⟨some 36, none, Op.call { callee := Callee.value (Operand.func 55), args := #[Operand.tmp 35], argTypes := #[3] }, false⟩,
                            ⟨some 37, none, Op.fieldAddr 28 (Operand.tmp 9) 1, false⟩,
                            ⟨none, none, Op.store 9 (Operand.tmp 37) (Operand.tmp 36), false⟩])
                          .skip))
                        (.reg [⟨some 38, none, Op.move (Operand.tmp 6), false⟩,
                          ⟨some 39, none, Op.load 28 (Operand.tmp 9), false⟩,
                          ⟨some 40, none, Op.buildSlice 26 1 #[(0, Operand.tmp 39)], false⟩,
                          ⟨some 41, none, Op.call { callee := Callee.builtin Builtin.append, args := #[Operand.tmp 38, Operand.tmp 40], argTypes := #[26, 26] }, false⟩,
                          ⟨some 6, none, Op.assign (Operand.tmp 41), false⟩]))))
                     (.reg [⟨some 42, none, Op.binOp BinOp.add 3 (Operand.tmp 28) (Operand.const (Value.int IntKind.i64 1)) 3, false⟩,
                       ⟨some 28, none, Op.move (Operand.tmp 42), false⟩])))))))))
             (.reg [⟨some 43, none, Op.binOp BinOp.add 3 (Operand.tmp 20) (Operand.const (Value.int IntKind.i64 1)) 3, false⟩,
               ⟨some 20, none, Op.move (Operand.tmp 43), false⟩])))))))
       (.seq
        (.reg [⟨some 44, none, Op.move (Operand.tmp 6), false⟩,
          ⟨some 4, none, Op.assign (Operand.tmp 44), false⟩])
        .ret))))))
theorem ispec58 {args : List PV} {L L' : List AObj} {out : Out} (h : aw Tryd.prog L.length 45 x58 (kfin Tryd.prog [.tmp 4] L.length 45 out L') ⟨enum 0 args, L⟩) : ISpec Tryd.prog 58 args L out L' :=
  ispec_of_aw mixd (fn := Tryd.f58) (x := x58) Tryd.func58 rfl (by kernel_rfl) (by kernel_rfl) rfl h
theorem isfn58 : isFn Tryd.prog 58 = true := by kernel_rfl

def x31 : XCode :=
  (.seq
   (.reg [⟨some 3, none, Op.box 25 (Operand.tmp 1), false⟩,
     ⟨some 4, none, Op.assign (Operand.const (Value.slice none 0 0)), false⟩])
   (.seq
    (.reg [⟨some 5, none, Op.move (Operand.tmp 0), false⟩,
      ⟨some 6, none, Op.nilCheck (Operand.tmp 5), false⟩,
      ⟨some 7, none, Op.fieldAddr 68 (Operand.tmp 6) 2, false⟩,
      ⟨some 8, none, Op.load 3 (Operand.tmp 7), false⟩,
      ⟨some 9, none, Op.binOp BinOp.add 3 (Operand.tmp 8) (Operand.const (Value.int IntKind.i64 1)) 3, false⟩,
      ⟨some 10, none, Op.nilCheck (Operand.tmp 5), false⟩,
      ⟨some 11, none, Op.fieldAddr 68 (Operand.tmp 10) 2, false⟩,
      ⟨none, none, Op.store 3 (Operand.tmp 11) (Operand.tmp 9), false⟩])
    (.seq
     (.dreg [⟨some 12, none, Op.move (Operand.tmp 0), false⟩,
       ⟨some 13, none, Op.nilCheck (Operand.tmp 12), false⟩,
       ⟨some 14, none, Op.fieldAddr 68 (Operand.tmp 13) 2, false⟩,
       ⟨some 15, none, Op.load 3 (Operand.tmp 14), false⟩,
       ⟨some 16, none, Op.binOp BinOp.leq 3 (Operand.tmp 15) (Operand.const (Value.int IntKind.i64 1000)) 3, false⟩,
       ⟨some 17, none, Op.move (Operand.tmp 0), false⟩,
       ⟨some 18, none, Op.nilCheck (Operand.tmp 17), false⟩,
       ⟨some 19, none, Op.fieldAddr 68 (Operand.tmp 18) 2, false⟩,
       ⟨some 20, none, Op.load 3 (Operand.tmp 19), false⟩,
       ⟨some 21, none, Op.call { callee := Callee.value (Operand.func 32), args := #[Operand.tmp 16, Operand.const (Value.string { data := #[115, 116, 101, 112, 115] }), Operand.tmp 20], argTypes := #[4, 9, 3] }, false⟩] [[], [0], [1], [2], [3], [], [5], [6], [7], [4, 8]])
     (.seq
      (.seq
       (.reg [⟨some 22, none, Op.fieldAddr 25 (Operand.tmp 3) 0, false⟩,
         ⟨some 23, none, Op.load 3 (Operand.tmp 22), false⟩])
       (.block 0
        (.seq
         (.reg [⟨some 25, none, Op.binOp BinOp.eql 3 (Operand.tmp 23) (Operand.const (Value.int IntKind.i64 1)) 3, false⟩,
           ⟨some 24, none, Op.assign (Operand.tmp 25), false⟩])
         (.cond (Operand.tmp 24)
          (.seq
           (.dreg [⟨some 26, none, Op.fieldAddr 25 (Operand.tmp 3) 2, false⟩,
             ⟨some 27, none, Op.load 9 (Operand.tmp 26), false⟩,
             ⟨some 28, none, Op.fieldAddr 25 (Operand.tmp 3) 4, false⟩,
             ⟨some 29, none, Op.load 22 (Operand.tmp 28), false⟩,
             ⟨some 30, none, Op.call { callee := Callee.builtin Builtin.append, args := #[Operand.const (Value.slice none 0 0), Operand.tmp 29], argTypes := #[22, 22] }, false⟩,
             ⟨some 31, none, Op.move (Operand.tmp 0), false⟩,
             ⟨some 32, none, Op.fieldAddr 25 (Operand.tmp 3) 5, false⟩,
             ⟨some 33, none, Op.load 23 (Operand.tmp 32), false⟩,
             ⟨some 34, none, Op.call { callee := Callee.value (Operand.func 54), args := #[Operand.tmp 31, Operand.tmp 33], argTypes := #[66, 23] }, false⟩,
             ⟨some 35, none, Op.build 28 #[(0, Operand.tmp 27), (3, Operand.tmp 30), (4, Operand.tmp 34)], false⟩,
             ⟨some 36, none, Op.buildSlice 26 1 #[(0, Operand.tmp 35)], false⟩,
             ⟨some 4, none, Op.assign (Operand.tmp 36), false⟩] [[], [0], [], [2], [3], [], [], [6], [5, 7, 4], [1, 4, 8], [9], [10, 8, 0, 1, 2, 3, 4, 5, 6, 7, 8, 9, 10]])
           .ret)
          (.seq
           (.reg [⟨some 38, none, Op.binOp BinOp.eql 3 (Operand.tmp 23) (Operand.const (Value.int IntKind.i64 2)) 3, false⟩,
             ⟨some 37, none, Op.assign (Operand.tmp 38), false⟩])
           (.cond (Operand.tmp 37)
            (.seq
             (.reg [⟨some 39, none, Op.fieldAddr 25 (Operand.tmp 3) 3, false⟩,
               ⟨some 40, none, Op.load 9 (Operand.tmp 39), false⟩,
               ⟨some 41, none, Op.build 28 #[(2, Operand.tmp 40)], false⟩,
               ⟨some 42, none, Op.buildSlice 26 1 #[(0, Operand.tmp 41)], false⟩,
               ⟨some 4, none, Op.assign (Operand.tmp 42), false⟩])
             .ret)
            (.seq
             (.reg [⟨some 44, none, Op.binOp BinOp.eql 3 (Operand.tmp 23) (Operand.const (Value.int IntKind.i64 3)) 3, false⟩,
               ⟨some 43, none, Op.assign (Operand.tmp 44), false⟩])
             (.cond (Operand.tmp 43)
              (.seq
               (.reg [⟨some 45, none, Op.move (Operand.tmp 0), false⟩,
                 ⟨some 46, none, Op.fieldAddr 25 (Operand.tmp 3) 1, false⟩,
                 ⟨some 47, none, Op.load 3 (Operand.tmp 46), false⟩,
                 ⟨some 48, none, Op.call { callee := Callee.value (Operand.func 56), args := #[Operand.tmp 45, Operand.tmp 47], argTypes := #[66, 3] }, false⟩,
                 ⟨some 49, none, Op.call { callee := Callee.value (Operand.func 55), args := #[Operand.tmp 48], argTypes := #[3] }, false⟩,
                 ⟨some 50, none, Op.build 28 #[(2, Operand.tmp 49)], false⟩,
                 ⟨some 51, none, Op.buildSlice 26 1 #[(0, Operand.tmp 50)], false⟩,
                 ⟨some 4, none, Op.assign (Operand.tmp 51), false⟩])
               .ret)
              (.seq
               (.reg [⟨some 53, none, Op.binOp BinOp.eql 3 (Operand.tmp 23) (Operand.const (Value.int IntKind.i64 4)) 3, false⟩,
                 ⟨some 52, none, Op.assign (Operand.tmp 53), false⟩])
               (.cond (Operand.tmp 52)
                (.seq
                 (.reg [⟨some 54, none, Op.move (Operand.tmp 0), false⟩,
                   ⟨some 55, none, Op.fieldAddr 25 (Operand.tmp 3) 3, false⟩,
                   ⟨some 56, none, Op.load 9 (Operand.tmp 55), false⟩,
                   ⟨some 57, none, Op.call { callee := Callee.value (Operand.func 57), args := #[Operand.tmp 54, Operand.tmp 56], argTypes := #[66, 9] }, false⟩,
                   ⟨some 58, none, Op.build 28 #[(2, Operand.tmp 57)], false⟩,
                   ⟨some 59, none, Op.buildSlice 26 1 #[(0, Operand.tmp 58)], false⟩,
                   ⟨some 4, none, Op.assign (Operand.tmp 59), false⟩])
                 .ret)
                (.seq
                 (.reg [⟨some 61, none, Op.binOp BinOp.eql 3 (Operand.tmp 23) (Operand.const (Value.int IntKind.i64 5)) 3, false⟩,
                   ⟨some 60, none, Op.assign (Operand.tmp 61), false⟩])
                 (.cond (Operand.tmp 60)
                  (.seq
                   (.seq
                    (.reg [⟨some 62, none, Op.move (Operand.tmp 0), false⟩,
                      ⟨some 63, none, Op.fieldAddr 25 (Operand.tmp 3) 1, false⟩,
                      ⟨some 64, none, Op.load 3 (Operand.tmp 63), false⟩,
                      ⟨some 65, none, Op.call { callee := Callee.value (Operand.func 56), args := #[Operand.tmp 62, Operand.tmp 64], argTypes := #[66, 3] }, false⟩,
                      ⟨some 66, none, Op.binOp BinOp.eql 3 (Operand.tmp 65) (Operand.const (Value.int IntKind.i64 0)) 3, false⟩])
                    (.cond (Operand.tmp 66)
                     (.seq
                      (.reg [⟨some 4, none, Op.assign (Operand.const (Value.slice none 0 0)), false⟩])
                      .ret)
                     .skip))
                   (.seq
                    (.reg [⟨some 67, none, Op.move (Operand.tmp 0), false⟩,
                      ⟨some 68, none, Op.fieldAddr 25 (Operand.tmp 3) 5, false⟩,
                      ⟨some 69, none, Op.load 23 (Operand.tmp 68), false⟩,
                      ⟨some 70, none, Op.call { callee := Callee.value (Operand.func 54), args := #[Operand.tmp 67, Operand.tmp 69], argTypes := #[66, 23] }, false⟩,
                      ⟨some 4, none, Op.assign (Operand.tmp 70), false⟩])
                    .ret))
                  (.seq
                   (.reg [⟨some 72, none, Op.binOp BinOp.eql 3 (Operand.tmp 23) (Operand.const (Value.int IntKind.i64 6)) 3, false⟩,
                     ⟨some 71, none, Op.assign (Operand.tmp 72), false⟩])
                   (.cond (Operand.tmp 71)
                    (.seq
                     (.reg [⟨some 73, none, Op.move (Operand.tmp 0), false⟩,
                       ⟨some 74, none, Op.load 25 (Operand.tmp 3), false⟩,
                       ⟨some 75, none, Op.call { callee := Callee.value (Operand.func 58), args := #[Operand.tmp 73, Operand.tmp 74], argTypes := #[66, 25] }, false⟩,
                       ⟨some 4, none, Op.assign (Operand.tmp 75), false⟩])
                     .ret)
                    .skip))))))))))))))
      (.seq
       (.reg [⟨some 76, none, Op.fieldAddr 25 (Operand.tmp 3) 0, false⟩,
         ⟨some 77, none, Op.load 3 (Operand.tmp 76), false⟩,
         ⟨some 78, none, Op.binOp BinOp.eql 3 (Operand.tmp 77) (Operand.const (Value.int IntKind.i64 7)) 3, false⟩,
         ⟨some 79, none, Op.fieldAddr 25 (Operand.tmp 3) 0, false⟩,
         ⟨some 80, none, Op.load 3 (Operand.tmp 79), false⟩,
         ⟨some 81, none, Op.call { callee := Callee.value (Operand.func 32), args := #[Operand.tmp 78, Operand.const (Value.string { data := #[107, 105, 110, 100] }), Operand.tmp 80], argTypes := #[4, 9, 3] }, false⟩])
       (.seq
        (.reg [⟨some 82, none, Op.build 28 #[(0, Operand.const (Value.string { data := #[111, 117, 116, 108, 101, 116] }))], false⟩,
          ⟨some 83, none, Op.buildSlice 26 1 #[(0, Operand.tmp 82)], false⟩,
          ⟨some 4, none, Op.assign (Operand.tmp 83), false⟩])
        .ret))))))
theorem ispec31 {args : List PV} {L L' : List AObj} {out : Out} (h : aw Tryd.prog L.length 84 x31 (kfin Tryd.prog [.tmp 4] L.length 84 out L') ⟨enum 0 args, L⟩) : ISpec Tryd.prog 31 args L out L' :=
  ispec_of_aw mixd (fn := Tryd.f31) (x := x31) Tryd.func31 rfl (by kernel_rfl) (by kernel_rfl) rfl h
theorem isfn31 : isFn Tryd.prog 31 = true := by kernel_rfl



def tsV (r : List Tr × Int) : PV × Int := (.slice .dead (r.1.map encT), r.2)
def RowOK (st : List Int) (ps : List At) (t : Tp) : Prop := ∀ s, 0 ≤ s → s ≤ 1000 → JSpec 31 [.ptr 0 0, encP t] st ps s ((rowP st ps t s).map tsV)
def KidsOK (st : List Int) (ps : List At) (l : List Tp) : Prop := ∀ s, 0 ≤ s → s ≤ 1000 → JSpec 54 [.ptr 0 0, .slice .dead (l.map encP)] st ps s ((kidsP st ps l s).map tsV)
theorem sz_encT (l : List Tr) : SZ 5 (l.map encT) := fun x hx => by
  obtain ⟨t, _, rfl⟩ := List.mem_map.1 hx
  rw [encT_eq]; rfl
theorem elemsOf_slice {c : SK} {es : List PV} : elemsOf (.slice c es) = some es := rfl
theorem elemsOf_nil0 : elemsOf .nil0 = some [] := rfl

theorem spec54 (st : List Int) (ps : List At) (ks : List Tp) (IH : ∀ t ∈ ks, RowOK st ps t) : KidsOK st ps ks := by
  intro s hs0 hs1
  have key : ∀ {out : Out} {L' : List AObj}, (∀ l s', kidsP st ps ks s = .ok (l, s') → out = .ret (.slice .dead (l.map encT)) ∧ L' = [jobO st ps s']) →
      (∀ e, kidsP st ps ks s = .error e → out = .pan (flt e) ∧ L' = [.dead]) → ISpec Tryd.prog 54 [.ptr 0 0, .slice .dead (ks.map encP)] [jobO st ps s] out L' := by
    intro out L' hyes hno
    refine ispec_bd fun hbd => ispec54 ?_
    have hlen : ks.length ≤ 9223372036854775807 := by
      simp only [PV.bdL, PV.bd, List.length_map] at hbd
      exact hbd.2.1.1
    clear hbd
    simp only [x54, enum, jobO, j00, j01, j02, j03, j04, j05, j06, j07, j08, j09, j0a, j0b, j0c, j0d, j0e, j0f, j0g, j0h, j0i, j0j, j0k, j0l, j0m, j0n, j0o, j0p, j0q, j0r, j0s, j0t, j3k, j3l, j3m, j3n, j3o, j3p, setAll, j3q, j3r, j3s, j3t, j3u, j3v, j3w, j3x, j3y, j3z, j40, j41, j42, j43, j44, j45, j46, j47, j48, j49, j4a, j4b, j4c, j4d, j4e, j4f, j4g, j4h, j4i, j4j, j4k, j4l, j4m, j4n, j4o, j4p, j4q, j4r, j4s, j4t, j4u, j4v, j4w, j4x, j4y, j4z, j50, j51, j52, j53, j54, j55, j56, j57, Bool.not_true, Bool.not_false, Bool.true_and, Bool.and_true, Bool.false_and, Bool.and_false, Bool.true_or, Bool.or_true, Bool.false_or, Bool.or_false, cond_true, cond_false, aAllocN, aIndex, xLoad, xStore, xField, xFA, xIA, xLen, xMM, xAlloc, xIface, xInt, xStr, xIs, xBin, xAgg, xUn, xPick, xExt, knd, fls, ifc, isBoolK, isPtrK, isFuncK, isIfK, j58, j59, Nat.reduceBEq, eq_self, j5a, j5b, j5c, j5d, j5e, j5f, j5g, j5h, j5i, j5j, j5k, j5l, j5m, j5n, j5o, j5p, j5q, j5r, j5s, j5t, j5u, j5v, j5w, j5x, j5y, j5z, j60, j61, j62, j63, j64, j65, j66, j67, j68, j69, j6a, j6b, j6c, j6d, j6e, j6f, j6g, j6h, j6i, j6j, j6k, j6l, j6m, j6n, splice, List.size_toArray, decide_true, decide_false, Nat.reduceLeDiff, List.getD_cons_zero, List.getD_cons_succ, List.drop_succ_cons, List.drop_zero, List.take_succ_cons, List.take_zero, List.take_nil, List.drop_nil, Bool.false_eq_true, List.length_map, List.length_cons, List.length_nil, List.append_nil, List.nil_append, List.cons_append, List.getElem?_cons_succ, List.getElem?_cons_zero, List.length_append, List.set_cons_succ, List.set_cons_zero, List.map_cons, List.map_nil, if_true, if_false, Nat.reduceEqDiff, Nat.reduceAdd, Nat.reduceLT, reduceIte, true_and, and_true, and_self, Nat.zero_add, Nat.add_zero, ge_iff_le, gt_iff_lt, List.filter_cons, List.filter_nil, List.replicate_zero, List.replicate_succ, List.reverse_cons, List.reverse_nil, Option.map_some, Option.map_none, ti3, ti23]
    refine aw_loop (fun x : Nat × List Tr × Int => ⟨[(0, .ptr 0 0), (5, .slice (.tail 1 x.2.1.length) (x.2.1.map encT)), (8, .slice .dead (ks.map encP)), (9, .int .i64 ks.length), (10, .int .i64 x.1)], [jobO st ps x.2.2, .tip x.2.1.length]⟩)
      (fun x => x.1 ≤ ks.length ∧ kidsP st ps (ks.take x.1) s = .ok (x.2.1, x.2.2)) (fun x => ks.length - x.1) (0, [], s) (by simp [kidsP]) ?_ ?_
    · exact (Wk.newTip 5 (by simp)).trans (.to [0, 1] (by simp) (by simp [jobO]) (by simp))
    rintro ⟨i, acc, s1⟩ ⟨hi, hn⟩
    simp only at hi hn
    obtain ⟨hb1, hb2, hb3⟩ := kidsP_bd st ps _ s hs0 hs1 _ _ hn
    by_cases h : i < ks.length
    · have hr : (0 : Int) ≤ (i : Int) := by omega
      simp only [jobO, j00, j01, j02, j03, j04, j05, j06, j07, j08, j09, j0a, j0b, j0c, j0d, j0e, j0f, j0g, j0h, j0i, j0j, j0k, j0l, j0m, j0n, j0o, j0p, j0q, j0r, j0s, j0t, j3k, j3l, j3m, j3n, j3o, j3p, setAll, j3q, j3r, j3s, j3t, j3u, j3v, j3w, j3x, j3y, j3z, j40, j41, j42, j43, j44, j45, j46, j47, j48, j49, j4a, j4b, j4c, j4d, j4e, j4f, j4g, j4h, j4i, j4j, j4k, j4l, j4m, j4n, j4o, j4p, j4q, j4r, j4s, j4t, j4u, j4v, j4w, j4x, j4y, j4z, j50, j51, j52, j53, j54, j55, j56, j57, Bool.not_true, Bool.not_false, Bool.true_and, Bool.and_true, Bool.false_and, Bool.and_false, Bool.true_or, Bool.or_true, Bool.false_or, Bool.or_false, cond_true, cond_false, aAllocN, aIndex, xLoad, xStore, xField, xFA, xIA, xLen, xMM, xAlloc, xIface, xInt, xStr, xIs, xBin, xAgg, xUn, xPick, xExt, knd, fls, ifc, isBoolK, isPtrK, isFuncK, isIfK, j58, j59, Nat.reduceBEq, eq_self, j5a, j5b, j5c, j5d, j5e, j5f, j5g, j5h, j5i, j5j, j5k, j5l, j5m, j5n, j5o, j5p, j5q, j5r, j5s, j5t, j5u, j5v, j5w, j5x, j5y, j5z, j60, j61, j62, j63, j64, j65, j66, j67, j68, j69, j6a, j6b, j6c, j6d, j6e, j6f, j6g, j6h, j6i, j6j, j6k, j6l, j6m, j6n, splice, List.size_toArray, decide_true, decide_false, Nat.reduceLeDiff, List.getD_cons_zero, List.getD_cons_succ, List.drop_succ_cons, List.drop_zero, List.take_succ_cons, List.take_zero, List.take_nil, List.drop_nil, Bool.false_eq_true, List.length_map, List.length_cons, List.length_nil, List.append_nil, List.nil_append, List.cons_append, List.getElem?_cons_succ, List.getElem?_cons_zero, List.length_append, List.set_cons_succ, List.set_cons_zero, List.map_cons, List.map_nil, if_true, if_false, Nat.reduceEqDiff, Nat.reduceAdd, Nat.reduceLT, reduceIte, true_and, and_true, and_self, Nat.zero_add, Nat.add_zero, ge_iff_le, gt_iff_lt, List.filter_cons, List.filter_nil, List.replicate_zero, List.replicate_succ, List.reverse_cons, List.reverse_nil, Option.map_some, Option.map_none, ti3, ti23, ti25, hr, Int.toNat_natCast, getD_map h, Int.ofNat_lt, h, encP_eq ks[i]]
      have hsn := kidsP_snoc st ps ks[i] (ks.take i) s
      rw [← List.take_succ_eq_append_getElem h, hn] at hsn
      simp only at hsn
      have hrow := IH ks[i] (List.getElem_mem h) s1 (by omega) hb2
      rw [encP_eq] at hrow
      cases hro : rowP st ps ks[i] s1 with
      | error e =>
        rw [hro] at hrow hsn
        have herr := kidsP_err st ps e (ks.drop (i + 1)) _ s hsn
        rw [List.take_append_drop] at herr
        obtain ⟨rfl, rfl⟩ := hno e herr
        refine fun_ipan [0] [.dead] isfn31 (r := flt e) ?_ (by simp) ?_
        · simpa [jobO, JSpec, Except.map] using hrow
        simp only [j00, j01, j02, j03, j04, j05, j06, j07, j08, j09, j0a, j0b, j0c, j0d, j0e, j0f, j0g, j0h, j0i, j0j, j0k, j0l, j0m, j0n, j0o, j0p, j0q, j0r, j0s, j0t, j3k, j3l, j3m, j3n, j3o, j3p, setAll, j3q, j3r, j3s, j3t, j3u, j3v, j3w, j3x, j3y, j3z, j40, j41, j42, j43, j44, j45, j46, j47, j48, j49, j4a, j4b, j4c, j4d, j4e, j4f, j4g, j4h, j4i, j4j, j4k, j4l, j4m, j4n, j4o, j4p, j4q, j4r, j4s, j4t, j4u, j4v, j4w, j4x, j4y, j4z, j50, j51, j52, j53, j54, j55, j56, j57, Bool.not_true, Bool.not_false, Bool.true_and, Bool.and_true, Bool.false_and, Bool.and_false, Bool.true_or, Bool.or_true, Bool.false_or, Bool.or_false, cond_true, cond_false, aAllocN, aIndex, xLoad, xStore, xField, xFA, xIA, xLen, xMM, xAlloc, xIface, xInt, xStr, xIs, xBin, xAgg, xUn, xPick, xExt, knd, fls, ifc, isBoolK, isPtrK, isFuncK, isIfK, j58, j59, Nat.reduceBEq, eq_self, j5a, j5b, j5c, j5d, j5e, j5f, j5g, j5h, j5i, j5j, j5k, j5l, j5m, j5n, j5o, j5p, j5q, j5r, j5s, j5t, j5u, j5v, j5w, j5x, j5y, j5z, j60, j61, j62, j63, j64, j65, j66, j67, j68, j69, j6a, j6b, j6c, j6d, j6e, j6f, j6g, j6h, j6i, j6j, j6k, j6l, j6m, j6n, splice, List.size_toArray, decide_true, decide_false, Nat.reduceLeDiff, List.getD_cons_zero, List.getD_cons_succ, List.drop_succ_cons, List.drop_zero, List.take_succ_cons, List.take_zero, List.take_nil, List.drop_nil, Bool.false_eq_true, List.length_map, List.length_cons, List.length_nil, List.append_nil, List.nil_append, List.cons_append, List.getElem?_cons_succ, List.getElem?_cons_zero, List.length_append, List.set_cons_succ, List.set_cons_zero, List.map_cons, List.map_nil, if_true, if_false, Nat.reduceEqDiff, Nat.reduceAdd, Nat.reduceLT, reduceIte, true_and, and_true, and_self, Nat.zero_add, Nat.add_zero, ge_iff_le, gt_iff_lt, List.filter_cons, List.filter_nil, List.replicate_zero, List.replicate_succ, List.reverse_cons, List.reverse_nil, Option.map_some, Option.map_none]
        exact kpan_at [0] [0] false (by simp [backSet, backNew]) (by simp [backSet, backNew]) (by simp)
      | ok x =>
        obtain ⟨b, s2⟩ := x
        rw [hro] at hrow hsn
        simp only at hsn
        obtain ⟨hc1, hc2, hc3⟩ := rowP_bd st ps ks[i] s1 (by omega) hb2 _ _ hro
        refine fun_iret [0] [jobO st ps s2] isfn31 (r := .slice .dead (b.map encT)) ?_ (by simp) fun _ => ?_
        · simpa [jobO, JSpec, Except.map, tsV] using hrow
        simp only [jobO, j00, j01, j02, j03, j04, j05, j06, j07, j08, j09, j0a, j0b, j0c, j0d, j0e, j0f, j0g, j0h, j0i, j0j, j0k, j0l, j0m, j0n, j0o, j0p, j0q, j0r, j0s, j0t, j3k, j3l, j3m, j3n, j3o, j3p, setAll, j3q, j3r, j3s, j3t, j3u, j3v, j3w, j3x, j3y, j3z, j40, j41, j42, j43, j44, j45, j46, j47, j48, j49, j4a, j4b, j4c, j4d, j4e, j4f, j4g, j4h, j4i, j4j, j4k, j4l, j4m, j4n, j4o, j4p, j4q, j4r, j4s, j4t, j4u, j4v, j4w, j4x, j4y, j4z, j50, j51, j52, j53, j54, j55, j56, j57, Bool.not_true, Bool.not_false, Bool.true_and, Bool.and_true, Bool.false_and, Bool.and_false, Bool.true_or, Bool.or_true, Bool.false_or, Bool.or_false, cond_true, cond_false, aAllocN, aIndex, xLoad, xStore, xField, xFA, xIA, xLen, xMM, xAlloc, xIface, xInt, xStr, xIs, xBin, xAgg, xUn, xPick, xExt, knd, fls, ifc, isBoolK, isPtrK, isFuncK, isIfK, j58, j59, Nat.reduceBEq, eq_self, j5a, j5b, j5c, j5d, j5e, j5f, j5g, j5h, j5i, j5j, j5k, j5l, j5m, j5n, j5o, j5p, j5q, j5r, j5s, j5t, j5u, j5v, j5w, j5x, j5y, j5z, j60, j61, j62, j63, j64, j65, j66, j67, j68, j69, j6a, j6b, j6c, j6d, j6e, j6f, j6g, j6h, j6i, j6j, j6k, j6l, j6m, j6n, splice, List.size_toArray, decide_true, decide_false, Nat.reduceLeDiff, List.getD_cons_zero, List.getD_cons_succ, List.drop_succ_cons, List.drop_zero, List.take_succ_cons, List.take_zero, List.take_nil, List.drop_nil, Bool.false_eq_true, List.length_map, List.length_cons, List.length_nil, List.append_nil, List.nil_append, List.cons_append, List.getElem?_cons_succ, List.getElem?_cons_zero, List.length_append, List.set_cons_succ, List.set_cons_zero, List.map_cons, List.map_nil, if_true, if_false, Nat.reduceEqDiff, Nat.reduceAdd, Nat.reduceLT, reduceIte, true_and, and_true, and_self, Nat.zero_add, Nat.add_zero, ge_iff_le, gt_iff_lt, List.filter_cons, List.filter_nil, List.replicate_zero, List.replicate_succ, List.reverse_cons, List.reverse_nil, Option.map_some, Option.map_none, ti3, ti23, ti26, ti28, aAppend, elemsOf_slice, backN, backSet, backNew, AObj.ren, PV.ren, PV.renL, renL_encI, renL_encA, renL_encT, SK.ren, sz_encT, List.length_drop]
        refine ⟨by omega, (i + 1, acc ++ b, s2), ⟨by omega, hsn⟩, ?_, by simp only; omega⟩
        rw [wrapS i _ h hlen]
        exact .to [0, 1] (by simp) (by simp [jobO]) (by simp)
    · have hie : i = ks.length := by omega
      subst hie
      rw [List.take_length] at hn
      obtain ⟨rfl, rfl⟩ := hyes _ _ hn
      simp only [j00, j01, j02, j03, j04, j05, j06, j07, j08, j09, j0a, j0b, j0c, j0d, j0e, j0f, j0g, j0h, j0i, j0j, j0k, j0l, j0m, j0n, j0o, j0p, j0q, j0r, j0s, j0t, j3k, j3l, j3m, j3n, j3o, j3p, setAll, j3q, j3r, j3s, j3t, j3u, j3v, j3w, j3x, j3y, j3z, j40, j41, j42, j43, j44, j45, j46, j47, j48, j49, j4a, j4b, j4c, j4d, j4e, j4f, j4g, j4h, j4i, j4j, j4k, j4l, j4m, j4n, j4o, j4p, j4q, j4r, j4s, j4t, j4u, j4v, j4w, j4x, j4y, j4z, j50, j51, j52, j53, j54, j55, j56, j57, Bool.not_true, Bool.not_false, Bool.true_and, Bool.and_true, Bool.false_and, Bool.and_false, Bool.true_or, Bool.or_true, Bool.false_or, Bool.or_false, cond_true, cond_false, aAllocN, aIndex, xLoad, xStore, xField, xFA, xIA, xLen, xMM, xAlloc, xIface, xInt, xStr, xIs, xBin, xAgg, xUn, xPick, xExt, knd, fls, ifc, isBoolK, isPtrK, isFuncK, isIfK, j58, j59, Nat.reduceBEq, eq_self, j5a, j5b, j5c, j5d, j5e, j5f, j5g, j5h, j5i, j5j, j5k, j5l, j5m, j5n, j5o, j5p, j5q, j5r, j5s, j5t, j5u, j5v, j5w, j5x, j5y, j5z, j60, j61, j62, j63, j64, j65, j66, j67, j68, j69, j6a, j6b, j6c, j6d, j6e, j6f, j6g, j6h, j6i, j6j, j6k, j6l, j6m, j6n, splice, List.size_toArray, decide_true, decide_false, Nat.reduceLeDiff, List.getD_cons_zero, List.getD_cons_succ, List.drop_succ_cons, List.drop_zero, List.take_succ_cons, List.take_zero, List.take_nil, List.drop_nil, Bool.false_eq_true, List.length_map, List.length_cons, List.length_nil, List.append_nil, List.nil_append, List.cons_append, List.getElem?_cons_succ, List.getElem?_cons_zero, List.length_append, List.set_cons_succ, List.set_cons_zero, List.map_cons, List.map_nil, if_true, if_false, Nat.reduceEqDiff, Nat.reduceAdd, Nat.reduceLT, reduceIte, true_and, and_true, and_self, Nat.zero_add, Nat.add_zero, ge_iff_le, gt_iff_lt, List.filter_cons, List.filter_nil, List.replicate_zero, List.replicate_succ, List.reverse_cons, List.reverse_nil, Option.map_some, Option.map_none, ti3, Int.ofNat_lt, h]
      exact kret_keep [0] rfl (by simp [jobO]) (by simp [jobO]) (by simp)
  unfold JSpec
  cases hf : kidsP st ps ks s with
  | error e => exact key (fun l s' h => by rw [hf] at h; cases h) fun e' h => by rw [hf] at h; injection h with h; subst h; exact ⟨rfl, rfl⟩
  | ok x => exact key (fun l s' h => by rw [hf] at h; injection h with h; subst h; exact ⟨rfl, rfl⟩) fun e' h => by rw [hf] at h; cases h

theorem isfn55 : isFn Tryd.prog 55 = true := by kernel_rfl
def EachOK (st : List Int) (ps : List At) (t : Tp) : Prop := ∀ s, 0 ≤ s → s ≤ 1000 → JSpec 58 [.ptr 0 0, encP t] st ps s ((match numP st t.n with
  | .error e => .error e
  | .ok v => if 24 < v then .error (timesB, v) else eachTo (fun s => kidsP st ps t.ks s) v.toNat s : Rs).map tsV)

def boxP (t : Tp) : AObj := .cells [.int .i64 t.c, .int .i64 t.n, .str t.g, .str t.t, .slice .dead (t.ats.map encA), .slice .dead (t.ks.map encP)]
theorem sz1 {v : PV} {n : Nat} (h : v.cells.length = n) : SZ n [v] := fun x hx => by
  simp only [List.mem_singleton] at hx
  subst hx
  exact h
theorem bs28 {v : PV} {K : Eff → Prop} (hv : v.ok = true) (hc : v.cells.length = 5) (h : K { v := .slice .exact [v] }) : aBuildSlice Tryd.prog 26 1 [(0, v)] K := by
  unfold aBuildSlice
  simp only [ti26, ti28]
  refine ⟨⟨rfl, rfl⟩, ⟨rfl, rfl, by decide, by decide⟩, ?_, h⟩
  intro x hx
  simp only [List.map_cons, List.map_nil, List.mem_cons, List.not_mem_nil, or_false] at hx
  subst hx
  exact ⟨hv, hc⟩
theorem ok_T (a b c : BA) (as' : List At) (ks : List Tr) : (PV.agg [.str a, .str b, .str c, .slice .dead (as'.map encA), .slice .dead (ks.map encT)]).ok = true := rfl
theorem cells_T (a b c : BA) (as' : List At) (ks : List Tr) : (PV.agg [.str a, .str b, .str c, .slice .dead (as'.map encA), .slice .dead (ks.map encT)]).cells.length = 5 := rfl
theorem spec58 (st : List Int) (ps : List At) (t : Tp) (IH : KidsOK st ps t.ks) : EachOK st ps t := by
  intro s hs0 hs1
  have hnum := spec56 st ps s t.n
  have key : ∀ {out : Out} {L' : List AObj}, (∀ v l s', numP st t.n = .ok v → ¬ 24 < v → eachTo (fun s => kidsP st ps t.ks s) v.toNat s = .ok (l, s') → out = .ret (.slice .dead (l.map encT)) ∧ L' = [jobO st ps s']) →
      (∀ v e, numP st t.n = .ok v → ¬ 24 < v → eachTo (fun s => kidsP st ps t.ks s) v.toNat s = .error e → out = .pan (flt e) ∧ L' = [.dead]) →
      (∀ v, numP st t.n = .ok v → 24 < v → out = .pan (flt (timesB, v)) ∧ L' = [.dead]) →
      (∀ e, numP st t.n = .error e → out = .pan (flt e) ∧ L' = [.dead]) → ISpec Tryd.prog 58 [.ptr 0 0, encP t] [jobO st ps s] out L' := by
    intro out L' hyes hno hbig herr
    refine ispec58 ?_
    rw [encP_eq]
    simp only [x58, enum, jobO, j00, j01, j02, j03, j04, j05, j06, j07, j08, j09, j0a, j0b, j0c, j0d, j0e, j0f, j0g, j0h, j0i, j0j, j0k, j0l, j0m, j0n, j0o, j0p, j0q, j0r, j0s, j0t, j3k, j3l, j3m, j3n, j3o, j3p, setAll, j3q, j3r, j3s, j3t, j3u, j3v, j3w, j3x, j3y, j3z, j40, j41, j42, j43, j44, j45, j46, j47, j48, j49, j4a, j4b, j4c, j4d, j4e, j4f, j4g, j4h, j4i, j4j, j4k, j4l, j4m, j4n, j4o, j4p, j4q, j4r, j4s, j4t, j4u, j4v, j4w, j4x, j4y, j4z, j50, j51, j52, j53, j54, j55, j56, j57, Bool.not_true, Bool.not_false, Bool.true_and, Bool.and_true, Bool.false_and, Bool.and_false, Bool.true_or, Bool.or_true, Bool.false_or, Bool.or_false, cond_true, cond_false, aAllocN, aIndex, xLoad, xStore, xField, xFA, xIA, xLen, xMM, xAlloc, xIface, xInt, xStr, xIs, xBin, xAgg, xUn, xPick, xExt, knd, fls, ifc, isBoolK, isPtrK, isFuncK, isIfK, j58, j59, Nat.reduceBEq, eq_self, j5a, j5b, j5c, j5d, j5e, j5f, j5g, j5h, j5i, j5j, j5k, j5l, j5m, j5n, j5o, j5p, j5q, j5r, j5s, j5t, j5u, j5v, j5w, j5x, j5y, j5z, j60, j61, j62, j63, j64, j65, j66, j67, j68, j69, j6a, j6b, j6c, j6d, j6e, j6f, j6g, j6h, j6i, j6j, j6k, j6l, j6m, j6n, splice, List.size_toArray, decide_true, decide_false, Nat.reduceLeDiff, List.getD_cons_zero, List.getD_cons_succ, List.drop_succ_cons, List.drop_zero, List.take_succ_cons, List.take_zero, List.take_nil, List.drop_nil, Bool.false_eq_true, List.length_map, List.length_cons, List.length_nil, List.append_nil, List.nil_append, List.cons_append, List.getElem?_cons_succ, List.getElem?_cons_zero, List.length_append, List.set_cons_succ, List.set_cons_zero, List.map_cons, List.map_nil, if_true, if_false, Nat.reduceEqDiff, Nat.reduceAdd, Nat.reduceLT, reduceIte, true_and, and_true, and_self, Nat.zero_add, Nat.add_zero, ge_iff_le, gt_iff_lt, List.filter_cons, List.filter_nil, List.replicate_zero, List.replicate_succ, List.reverse_cons, List.reverse_nil, Option.map_some, Option.map_none, ti3, ti25, ti23, timesB_def, const_timesB]
    cases hv : numP st t.n with
    | error e =>
      rw [hv] at hnum
      obtain ⟨rfl, rfl⟩ := herr e hv
      refine fun_ipan [0] [.dead] isfn56 (r := flt e) ?_ (by simp) ?_
      · simpa [jobO, JSpec, Except.map] using hnum
      simp only [j00, j01, j02, j03, j04, j05, j06, j07, j08, j09, j0a, j0b, j0c, j0d, j0e, j0f, j0g, j0h, j0i, j0j, j0k, j0l, j0m, j0n, j0o, j0p, j0q, j0r, j0s, j0t, j3k, j3l, j3m, j3n, j3o, j3p, setAll, j3q, j3r, j3s, j3t, j3u, j3v, j3w, j3x, j3y, j3z, j40, j41, j42, j43, j44, j45, j46, j47, j48, j49, j4a, j4b, j4c, j4d, j4e, j4f, j4g, j4h, j4i, j4j, j4k, j4l, j4m, j4n, j4o, j4p, j4q, j4r, j4s, j4t, j4u, j4v, j4w, j4x, j4y, j4z, j50, j51, j52, j53, j54, j55, j56, j57, Bool.not_true, Bool.not_false, Bool.true_and, Bool.and_true, Bool.false_and, Bool.and_false, Bool.true_or, Bool.or_true, Bool.false_or, Bool.or_false, cond_true, cond_false, aAllocN, aIndex, xLoad, xStore, xField, xFA, xIA, xLen, xMM, xAlloc, xIface, xInt, xStr, xIs, xBin, xAgg, xUn, xPick, xExt, knd, fls, ifc, isBoolK, isPtrK, isFuncK, isIfK, j58, j59, Nat.reduceBEq, eq_self, j5a, j5b, j5c, j5d, j5e, j5f, j5g, j5h, j5i, j5j, j5k, j5l, j5m, j5n, j5o, j5p, j5q, j5r, j5s, j5t, j5u, j5v, j5w, j5x, j5y, j5z, j60, j61, j62, j63, j64, j65, j66, j67, j68, j69, j6a, j6b, j6c, j6d, j6e, j6f, j6g, j6h, j6i, j6j, j6k, j6l, j6m, j6n, splice, List.size_toArray, decide_true, decide_false, Nat.reduceLeDiff, List.getD_cons_zero, List.getD_cons_succ, List.drop_succ_cons, List.drop_zero, List.take_succ_cons, List.take_zero, List.take_nil, List.drop_nil, Bool.false_eq_true, List.length_map, List.length_cons, List.length_nil, List.append_nil, List.nil_append, List.cons_append, List.getElem?_cons_succ, List.getElem?_cons_zero, List.length_append, List.set_cons_succ, List.set_cons_zero, List.map_cons, List.map_nil, if_true, if_false, Nat.reduceEqDiff, Nat.reduceAdd, Nat.reduceLT, reduceIte, true_and, and_true, and_self, Nat.zero_add, Nat.add_zero, ge_iff_le, gt_iff_lt, List.filter_cons, List.filter_nil, List.replicate_zero, List.replicate_succ, List.reverse_cons, List.reverse_nil, Option.map_some, Option.map_none]
      exact kpan_at [0] [0] false (by simp [backSet, backNew]) (by simp [backSet, backNew]) (by simp)
    | ok v =>
      rw [hv] at hnum
      refine fun_iret [0] [jobO st ps s] isfn56 (r := .int .i64 v) ?_ (by simp) fun _ => ?_
      · simpa [jobO, JSpec, Except.map] using hnum
      simp only [jobO, j00, j01, j02, j03, j04, j05, j06, j07, j08, j09, j0a, j0b, j0c, j0d, j0e, j0f, j0g, j0h, j0i, j0j, j0k, j0l, j0m, j0n, j0o, j0p, j0q, j0r, j0s, j0t, j3k, j3l, j3m, j3n, j3o, j3p, setAll, j3q, j3r, j3s, j3t, j3u, j3v, j3w, j3x, j3y, j3z, j40, j41, j42, j43, j44, j45, j46, j47, j48, j49, j4a, j4b, j4c, j4d, j4e, j4f, j4g, j4h, j4i, j4j, j4k, j4l, j4m, j4n, j4o, j4p, j4q, j4r, j4s, j4t, j4u, j4v, j4w, j4x, j4y, j4z, j50, j51, j52, j53, j54, j55, j56, j57, Bool.not_true, Bool.not_false, Bool.true_and, Bool.and_true, Bool.false_and, Bool.and_false, Bool.true_or, Bool.or_true, Bool.false_or, Bool.or_false, cond_true, cond_false, aAllocN, aIndex, xLoad, xStore, xField, xFA, xIA, xLen, xMM, xAlloc, xIface, xInt, xStr, xIs, xBin, xAgg, xUn, xPick, xExt, knd, fls, ifc, isBoolK, isPtrK, isFuncK, isIfK, j58, j59, Nat.reduceBEq, eq_self, j5a, j5b, j5c, j5d, j5e, j5f, j5g, j5h, j5i, j5j, j5k, j5l, j5m, j5n, j5o, j5p, j5q, j5r, j5s, j5t, j5u, j5v, j5w, j5x, j5y, j5z, j60, j61, j62, j63, j64, j65, j66, j67, j68, j69, j6a, j6b, j6c, j6d, j6e, j6f, j6g, j6h, j6i, j6j, j6k, j6l, j6m, j6n, splice, List.size_toArray, decide_true, decide_false, Nat.reduceLeDiff, List.getD_cons_zero, List.getD_cons_succ, List.drop_succ_cons, List.drop_zero, List.take_succ_cons, List.take_zero, List.take_nil, List.drop_nil, Bool.false_eq_true, List.length_map, List.length_cons, List.length_nil, List.append_nil, List.nil_append, List.cons_append, List.getElem?_cons_succ, List.getElem?_cons_zero, List.length_append, List.set_cons_succ, List.set_cons_zero, List.map_cons, List.map_nil, if_true, if_false, Nat.reduceEqDiff, Nat.reduceAdd, Nat.reduceLT, reduceIte, true_and, and_true, and_self, Nat.zero_add, Nat.add_zero, ge_iff_le, gt_iff_lt, List.filter_cons, List.filter_nil, List.replicate_zero, List.replicate_succ, List.reverse_cons, List.reverse_nil, Option.map_some, Option.map_none, ti3, ti25, ti23, timesB_def, const_timesB, backN, backSet, backNew, AObj.ren, PV.ren, PV.renL, renL_encI, renL_encA, SK.ren]
      by_cases hv24 : 24 < v
      · have hn : ¬ v ≤ 24 := by omega
        obtain ⟨rfl, rfl⟩ := hbig v hv hv24
        simp only [hn, j00, j01, j02, j03, j04, j05, j06, j07, j08, j09, j0a, j0b, j0c, j0d, j0e, j0f, j0g, j0h, j0i, j0j, j0k, j0l, j0m, j0n, j0o, j0p, j0q, j0r, j0s, j0t, j3k, j3l, j3m, j3n, j3o, j3p, setAll, j3q, j3r, j3s, j3t, j3u, j3v, j3w, j3x, j3y, j3z, j40, j41, j42, j43, j44, j45, j46, j47, j48, j49, j4a, j4b, j4c, j4d, j4e, j4f, j4g, j4h, j4i, j4j, j4k, j4l, j4m, j4n, j4o, j4p, j4q, j4r, j4s, j4t, j4u, j4v, j4w, j4x, j4y, j4z, j50, j51, j52, j53, j54, j55, j56, j57, Bool.not_true, Bool.not_false, Bool.true_and, Bool.and_true, Bool.false_and, Bool.and_false, Bool.true_or, Bool.or_true, Bool.false_or, Bool.or_false, cond_true, cond_false, aAllocN, aIndex, xLoad, xStore, xField, xFA, xIA, xLen, xMM, xAlloc, xIface, xInt, xStr, xIs, xBin, xAgg, xUn, xPick, xExt, knd, fls, ifc, isBoolK, isPtrK, isFuncK, isIfK, j58, j59, Nat.reduceBEq, eq_self, j5a, j5b, j5c, j5d, j5e, j5f, j5g, j5h, j5i, j5j, j5k, j5l, j5m, j5n, j5o, j5p, j5q, j5r, j5s, j5t, j5u, j5v, j5w, j5x, j5y, j5z, j60, j61, j62, j63, j64, j65, j66, j67, j68, j69, j6a, j6b, j6c, j6d, j6e, j6f, j6g, j6h, j6i, j6j, j6k, j6l, j6m, j6n, splice, List.size_toArray, decide_true, decide_false, Nat.reduceLeDiff, List.getD_cons_zero, List.getD_cons_succ, List.drop_succ_cons, List.drop_zero, List.take_succ_cons, List.take_zero, List.take_nil, List.drop_nil, Bool.false_eq_true, List.length_map, List.length_cons, List.length_nil, List.append_nil, List.nil_append, List.cons_append, List.getElem?_cons_succ, List.getElem?_cons_zero, List.length_append, List.set_cons_succ, List.set_cons_zero, List.map_cons, List.map_nil, if_true, if_false, Nat.reduceEqDiff, Nat.reduceAdd, Nat.reduceLT, reduceIte, true_and, and_true, and_self, Nat.zero_add, Nat.add_zero, ge_iff_le, gt_iff_lt, List.filter_cons, List.filter_nil, List.replicate_zero, List.replicate_succ, List.reverse_cons, List.reverse_nil, Option.map_some, Option.map_none]
        refine fun_pan isfn32 (spec32 false v timesB) ?_
        simp only [j00, j01, j02, j03, j04, j05, j06, j07, j08, j09, j0a, j0b, j0c, j0d, j0e, j0f, j0g, j0h, j0i, j0j, j0k, j0l, j0m, j0n, j0o, j0p, j0q, j0r, j0s, j0t, j3k, j3l, j3m, j3n, j3o, j3p, setAll, j3q, j3r, j3s, j3t, j3u, j3v, j3w, j3x, j3y, j3z, j40, j41, j42, j43, j44, j45, j46, j47, j48, j49, j4a, j4b, j4c, j4d, j4e, j4f, j4g, j4h, j4i, j4j, j4k, j4l, j4m, j4n, j4o, j4p, j4q, j4r, j4s, j4t, j4u, j4v, j4w, j4x, j4y, j4z, j50, j51, j52, j53, j54, j55, j56, j57, Bool.not_true, Bool.not_false, Bool.true_and, Bool.and_true, Bool.false_and, Bool.and_false, Bool.true_or, Bool.or_true, Bool.false_or, Bool.or_false, cond_true, cond_false, aAllocN, aIndex, xLoad, xStore, xField, xFA, xIA, xLen, xMM, xAlloc, xIface, xInt, xStr, xIs, xBin, xAgg, xUn, xPick, xExt, knd, fls, ifc, isBoolK, isPtrK, isFuncK, isIfK, j58, j59, Nat.reduceBEq, eq_self, j5a, j5b, j5c, j5d, j5e, j5f, j5g, j5h, j5i, j5j, j5k, j5l, j5m, j5n, j5o, j5p, j5q, j5r, j5s, j5t, j5u, j5v, j5w, j5x, j5y, j5z, j60, j61, j62, j63, j64, j65, j66, j67, j68, j69, j6a, j6b, j6c, j6d, j6e, j6f, j6g, j6h, j6i, j6j, j6k, j6l, j6m, j6n, splice, List.size_toArray, decide_true, decide_false, Nat.reduceLeDiff, List.getD_cons_zero, List.getD_cons_succ, List.drop_succ_cons, List.drop_zero, List.take_succ_cons, List.take_zero, List.take_nil, List.drop_nil, Bool.false_eq_true, List.length_map, List.length_cons, List.length_nil, List.append_nil, List.nil_append, List.cons_append, List.getElem?_cons_succ, List.getElem?_cons_zero, List.length_append, List.set_cons_succ, List.set_cons_zero, List.map_cons, List.map_nil, if_true, if_false, Nat.reduceEqDiff, Nat.reduceAdd, Nat.reduceLT, reduceIte, true_and, and_true, and_self, Nat.zero_add, Nat.add_zero, ge_iff_le, gt_iff_lt, List.filter_cons, List.filter_nil, List.replicate_zero, List.replicate_succ, List.reverse_cons, List.reverse_nil, Option.map_some, Option.map_none]
        exact kpan_at [0] [0] false (by simp) (by simp) (by simp)
      · have hn : v ≤ 24 := by omega
        simp only [hn, j00, j01, j02, j03, j04, j05, j06, j07, j08, j09, j0a, j0b, j0c, j0d, j0e, j0f, j0g, j0h, j0i, j0j, j0k, j0l, j0m, j0n, j0o, j0p, j0q, j0r, j0s, j0t, j3k, j3l, j3m, j3n, j3o, j3p, setAll, j3q, j3r, j3s, j3t, j3u, j3v, j3w, j3x, j3y, j3z, j40, j41, j42, j43, j44, j45, j46, j47, j48, j49, j4a, j4b, j4c, j4d, j4e, j4f, j4g, j4h, j4i, j4j, j4k, j4l, j4m, j4n, j4o, j4p, j4q, j4r, j4s, j4t, j4u, j4v, j4w, j4x, j4y, j4z, j50, j51, j52, j53, j54, j55, j56, j57, Bool.not_true, Bool.not_false, Bool.true_and, Bool.and_true, Bool.false_and, Bool.and_false, Bool.true_or, Bool.or_true, Bool.false_or, Bool.or_false, cond_true, cond_false, aAllocN, aIndex, xLoad, xStore, xField, xFA, xIA, xLen, xMM, xAlloc, xIface, xInt, xStr, xIs, xBin, xAgg, xUn, xPick, xExt, knd, fls, ifc, isBoolK, isPtrK, isFuncK, isIfK, j58, j59, Nat.reduceBEq, eq_self, j5a, j5b, j5c, j5d, j5e, j5f, j5g, j5h, j5i, j5j, j5k, j5l, j5m, j5n, j5o, j5p, j5q, j5r, j5s, j5t, j5u, j5v, j5w, j5x, j5y, j5z, j60, j61, j62, j63, j64, j65, j66, j67, j68, j69, j6a, j6b, j6c, j6d, j6e, j6f, j6g, j6h, j6i, j6j, j6k, j6l, j6m, j6n, splice, List.size_toArray, decide_true, decide_false, Nat.reduceLeDiff, List.getD_cons_zero, List.getD_cons_succ, List.drop_succ_cons, List.drop_zero, List.take_succ_cons, List.take_zero, List.take_nil, List.drop_nil, Bool.false_eq_true, List.length_map, List.length_cons, List.length_nil, List.append_nil, List.nil_append, List.cons_append, List.getElem?_cons_succ, List.getElem?_cons_zero, List.length_append, List.set_cons_succ, List.set_cons_zero, List.map_cons, List.map_nil, if_true, if_false, Nat.reduceEqDiff, Nat.reduceAdd, Nat.reduceLT, reduceIte, true_and, and_true, and_self, Nat.zero_add, Nat.add_zero, ge_iff_le, gt_iff_lt, List.filter_cons, List.filter_nil, List.replicate_zero, List.replicate_succ, List.reverse_cons, List.reverse_nil, Option.map_some, Option.map_none]
        refine fun_ret isfn32 (spec32 true v timesB) fun _ => ?_
        simp only [j00, j01, j02, j03, j04, j05, j06, j07, j08, j09, j0a, j0b, j0c, j0d, j0e, j0f, j0g, j0h, j0i, j0j, j0k, j0l, j0m, j0n, j0o, j0p, j0q, j0r, j0s, j0t, j3k, j3l, j3m, j3n, j3o, j3p, setAll, j3q, j3r, j3s, j3t, j3u, j3v, j3w, j3x, j3y, j3z, j40, j41, j42, j43, j44, j45, j46, j47, j48, j49, j4a, j4b, j4c, j4d, j4e, j4f, j4g, j4h, j4i, j4j, j4k, j4l, j4m, j4n, j4o, j4p, j4q, j4r, j4s, j4t, j4u, j4v, j4w, j4x, j4y, j4z, j50, j51, j52, j53, j54, j55, j56, j57, Bool.not_true, Bool.not_false, Bool.true_and, Bool.and_true, Bool.false_and, Bool.and_false, Bool.true_or, Bool.or_true, Bool.false_or, Bool.or_false, cond_true, cond_false, aAllocN, aIndex, xLoad, xStore, xField, xFA, xIA, xLen, xMM, xAlloc, xIface, xInt, xStr, xIs, xBin, xAgg, xUn, xPick, xExt, knd, fls, ifc, isBoolK, isPtrK, isFuncK, isIfK, j58, j59, Nat.reduceBEq, eq_self, j5a, j5b, j5c, j5d, j5e, j5f, j5g, j5h, j5i, j5j, j5k, j5l, j5m, j5n, j5o, j5p, j5q, j5r, j5s, j5t, j5u, j5v, j5w, j5x, j5y, j5z, j60, j61, j62, j63, j64, j65, j66, j67, j68, j69, j6a, j6b, j6c, j6d, j6e, j6f, j6g, j6h, j6i, j6j, j6k, j6l, j6m, j6n, splice, List.size_toArray, decide_true, decide_false, Nat.reduceLeDiff, List.getD_cons_zero, List.getD_cons_succ, List.drop_succ_cons, List.drop_zero, List.take_succ_cons, List.take_zero, List.take_nil, List.drop_nil, Bool.false_eq_true, List.length_map, List.length_cons, List.length_nil, List.append_nil, List.nil_append, List.cons_append, List.getElem?_cons_succ, List.getElem?_cons_zero, List.length_append, List.set_cons_succ, List.set_cons_zero, List.map_cons, List.map_nil, if_true, if_false, Nat.reduceEqDiff, Nat.reduceAdd, Nat.reduceLT, reduceIte, true_and, and_true, and_self, Nat.zero_add, Nat.add_zero, ge_iff_le, gt_iff_lt, List.filter_cons, List.filter_nil, List.replicate_zero, List.replicate_succ, List.reverse_cons, List.reverse_nil, Option.map_some, Option.map_none]
        have hmax : maxI v 0 = ((v.toNat : Nat) : Int) := by unfold maxI; split <;> omega
        rw [hmax]
        refine aw_loop (fun x : Nat × List Tr × Int => ⟨[(0, .ptr 0 0), (3, .ptr 1 0), (6, .slice (.tail 2 x.2.1.length) (x.2.1.map encT)), (19, .int .i64 v.toNat), (20, .int .i64 x.1)], [jobO st ps x.2.2, boxP t, .tip x.2.1.length]⟩)
          (fun x => x.1 ≤ v.toNat ∧ eachTo (fun s => kidsP st ps t.ks s) x.1 s = .ok (x.2.1, x.2.2)) (fun x => v.toNat - x.1) (0, [], s) (by simp [eachTo]) ?_ ?_
        · exact (Wk.newTip 6 (by simp)).trans (.to [0, 1, 2] (by simp) (by simp [jobO, boxP]) (by simp))
        rintro ⟨i, acc, s1⟩ ⟨hi, hie⟩
        simp only at hi hie
        obtain ⟨hb1, hb2, hb3⟩ := eachTo_bd (fun s h0 h1 => kidsP_bd st ps t.ks s h0 h1) i s hs0 hs1 _ _ hie
        by_cases h : i < v.toNat
        · simp only [jobO, boxP, j00, j01, j02, j03, j04, j05, j06, j07, j08, j09, j0a, j0b, j0c, j0d, j0e, j0f, j0g, j0h, j0i, j0j, j0k, j0l, j0m, j0n, j0o, j0p, j0q, j0r, j0s, j0t, j3k, j3l, j3m, j3n, j3o, j3p, setAll, j3q, j3r, j3s, j3t, j3u, j3v, j3w, j3x, j3y, j3z, j40, j41, j42, j43, j44, j45, j46, j47, j48, j49, j4a, j4b, j4c, j4d, j4e, j4f, j4g, j4h, j4i, j4j, j4k, j4l, j4m, j4n, j4o, j4p, j4q, j4r, j4s, j4t, j4u, j4v, j4w, j4x, j4y, j4z, j50, j51, j52, j53, j54, j55, j56, j57, Bool.not_true, Bool.not_false, Bool.true_and, Bool.and_true, Bool.false_and, Bool.and_false, Bool.true_or, Bool.or_true, Bool.false_or, Bool.or_false, cond_true, cond_false, aAllocN, aIndex, xLoad, xStore, xField, xFA, xIA, xLen, xMM, xAlloc, xIface, xInt, xStr, xIs, xBin, xAgg, xUn, xPick, xExt, knd, fls, ifc, isBoolK, isPtrK, isFuncK, isIfK, j58, j59, Nat.reduceBEq, eq_self, j5a, j5b, j5c, j5d, j5e, j5f, j5g, j5h, j5i, j5j, j5k, j5l, j5m, j5n, j5o, j5p, j5q, j5r, j5s, j5t, j5u, j5v, j5w, j5x, j5y, j5z, j60, j61, j62, j63, j64, j65, j66, j67, j68, j69, j6a, j6b, j6c, j6d, j6e, j6f, j6g, j6h, j6i, j6j, j6k, j6l, j6m, j6n, splice, List.size_toArray, decide_true, decide_false, Nat.reduceLeDiff, List.getD_cons_zero, List.getD_cons_succ, List.drop_succ_cons, List.drop_zero, List.take_succ_cons, List.take_zero, List.take_nil, List.drop_nil, Bool.false_eq_true, List.length_map, List.length_cons, List.length_nil, List.append_nil, List.nil_append, List.cons_append, List.getElem?_cons_succ, List.getElem?_cons_zero, List.length_append, List.set_cons_succ, List.set_cons_zero, List.map_cons, List.map_nil, if_true, if_false, Nat.reduceEqDiff, Nat.reduceAdd, Nat.reduceLT, reduceIte, true_and, and_true, and_self, Nat.zero_add, Nat.add_zero, ge_iff_le, gt_iff_lt, List.filter_cons, List.filter_nil, List.replicate_zero, List.replicate_succ, List.reverse_cons, List.reverse_nil, Option.map_some, Option.map_none, ti3, ti23, ti25, Int.ofNat_lt, h]
          have hrow := IH s1 (by omega) hb2
          cases hro : kidsP st ps t.ks s1 with
          | error e =>
            rw [hro] at hrow
            have he1 : eachTo (fun s => kidsP st ps t.ks s) (i + 1) s = .error e := by
              simp only [eachTo, hie, hro]
            obtain ⟨rfl, rfl⟩ := hno v e hv hv24 (eachTo_err v.toNat (by omega) he1)
            refine fun_ipan [0] [.dead] isfn54 (r := flt e) ?_ (by simp) ?_
            · simpa [jobO, JSpec, Except.map] using hrow
            simp only [j00, j01, j02, j03, j04, j05, j06, j07, j08, j09, j0a, j0b, j0c, j0d, j0e, j0f, j0g, j0h, j0i, j0j, j0k, j0l, j0m, j0n, j0o, j0p, j0q, j0r, j0s, j0t, j3k, j3l, j3m, j3n, j3o, j3p, setAll, j3q, j3r, j3s, j3t, j3u, j3v, j3w, j3x, j3y, j3z, j40, j41, j42, j43, j44, j45, j46, j47, j48, j49, j4a, j4b, j4c, j4d, j4e, j4f, j4g, j4h, j4i, j4j, j4k, j4l, j4m, j4n, j4o, j4p, j4q, j4r, j4s, j4t, j4u, j4v, j4w, j4x, j4y, j4z, j50, j51, j52, j53, j54, j55, j56, j57, Bool.not_true, Bool.not_false, Bool.true_and, Bool.and_true, Bool.false_and, Bool.and_false, Bool.true_or, Bool.or_true, Bool.false_or, Bool.or_false, cond_true, cond_false, aAllocN, aIndex, xLoad, xStore, xField, xFA, xIA, xLen, xMM, xAlloc, xIface, xInt, xStr, xIs, xBin, xAgg, xUn, xPick, xExt, knd, fls, ifc, isBoolK, isPtrK, isFuncK, isIfK, j58, j59, Nat.reduceBEq, eq_self, j5a, j5b, j5c, j5d, j5e, j5f, j5g, j5h, j5i, j5j, j5k, j5l, j5m, j5n, j5o, j5p, j5q, j5r, j5s, j5t, j5u, j5v, j5w, j5x, j5y, j5z, j60, j61, j62, j63, j64, j65, j66, j67, j68, j69, j6a, j6b, j6c, j6d, j6e, j6f, j6g, j6h, j6i, j6j, j6k, j6l, j6m, j6n, splice, List.size_toArray, decide_true, decide_false, Nat.reduceLeDiff, List.getD_cons_zero, List.getD_cons_succ, List.drop_succ_cons, List.drop_zero, List.take_succ_cons, List.take_zero, List.take_nil, List.drop_nil, Bool.false_eq_true, List.length_map, List.length_cons, List.length_nil, List.append_nil, List.nil_append, List.cons_append, List.getElem?_cons_succ, List.getElem?_cons_zero, List.length_append, List.set_cons_succ, List.set_cons_zero, List.map_cons, List.map_nil, if_true, if_false, Nat.reduceEqDiff, Nat.reduceAdd, Nat.reduceLT, reduceIte, true_and, and_true, and_self, Nat.zero_add, Nat.add_zero, ge_iff_le, gt_iff_lt, List.filter_cons, List.filter_nil, List.replicate_zero, List.replicate_succ, List.reverse_cons, List.reverse_nil, Option.map_some, Option.map_none]
            exact kpan_at [0] [0] false (by simp [backSet, backNew]) (by simp [backSet, backNew]) (by simp)
          | ok x =>
            obtain ⟨b, s2⟩ := x
            rw [hro] at hrow
            obtain ⟨hc1, hc2, hc3⟩ := kidsP_bd st ps t.ks s1 (by omega) hb2 _ _ hro
            have he1 : eachTo (fun s => kidsP st ps t.ks s) (i + 1) s = .ok (acc ++ b.map (keyed i), s2) := by
              simp only [eachTo, hie, hro]
            refine fun_iret [0] [jobO st ps s2] isfn54 (r := .slice .dead (b.map encT)) ?_ (by simp) fun _ => ?_
            · simpa [jobO, JSpec, Except.map, tsV] using hrow
            simp only [jobO, boxP, j00, j01, j02, j03, j04, j05, j06, j07, j08, j09, j0a, j0b, j0c, j0d, j0e, j0f, j0g, j0h, j0i, j0j, j0k, j0l, j0m, j0n, j0o, j0p, j0q, j0r, j0s, j0t, j3k, j3l, j3m, j3n, j3o, j3p, setAll, j3q, j3r, j3s, j3t, j3u, j3v, j3w, j3x, j3y, j3z, j40, j41, j42, j43, j44, j45, j46, j47, j48, j49, j4a, j4b, j4c, j4d, j4e, j4f, j4g, j4h, j4i, j4j, j4k, j4l, j4m, j4n, j4o, j4p, j4q, j4r, j4s, j4t, j4u, j4v, j4w, j4x, j4y, j4z, j50, j51, j52, j53, j54, j55, j56, j57, Bool.not_true, Bool.not_false, Bool.true_and, Bool.and_true, Bool.false_and, Bool.and_false, Bool.true_or, Bool.or_true, Bool.false_or, Bool.or_false, cond_true, cond_false, aAllocN, aIndex, xLoad, xStore, xField, xFA, xIA, xLen, xMM, xAlloc, xIface, xInt, xStr, xIs, xBin, xAgg, xUn, xPick, xExt, knd, fls, ifc, isBoolK, isPtrK, isFuncK, isIfK, j58, j59, Nat.reduceBEq, eq_self, j5a, j5b, j5c, j5d, j5e, j5f, j5g, j5h, j5i, j5j, j5k, j5l, j5m, j5n, j5o, j5p, j5q, j5r, j5s, j5t, j5u, j5v, j5w, j5x, j5y, j5z, j60, j61, j62, j63, j64, j65, j66, j67, j68, j69, j6a, j6b, j6c, j6d, j6e, j6f, j6g, j6h, j6i, j6j, j6k, j6l, j6m, j6n, splice, List.size_toArray, decide_true, decide_false, Nat.reduceLeDiff, List.getD_cons_zero, List.getD_cons_succ, List.drop_succ_cons, List.drop_zero, List.take_succ_cons, List.take_zero, List.take_nil, List.drop_nil, Bool.false_eq_true, List.length_map, List.length_cons, List.length_nil, List.append_nil, List.nil_append, List.cons_append, List.getElem?_cons_succ, List.getElem?_cons_zero, List.length_append, List.set_cons_succ, List.set_cons_zero, List.map_cons, List.map_nil, if_true, if_false, Nat.reduceEqDiff, Nat.reduceAdd, Nat.reduceLT, reduceIte, true_and, and_true, and_self, Nat.zero_add, Nat.add_zero, ge_iff_le, gt_iff_lt, List.filter_cons, List.filter_nil, List.replicate_zero, List.replicate_succ, List.reverse_cons, List.reverse_nil, Option.map_some, Option.map_none, ti3, ti23, ti26, ti28, elemsOf_slice, backN, backSet, backNew, AObj.ren, PV.ren, PV.renL, renL_encI, renL_encA, renL_encT, SK.ren]
            refine aw_loop (fun j : Nat => ⟨[(0, .ptr 0 0), (3, .ptr 1 0), (6, .slice (.tail 2 (acc.length + j)) ((acc ++ (b.take j).map (keyed i)).map encT)), (7, .int .i64 i), (19, .int .i64 v.toNat), (20, .int .i64 i), (26, .slice .dead (b.map encT)), (27, .int .i64 b.length), (28, .int .i64 j)], [jobO st ps s2, boxP t, .tip (acc.length + j)]⟩)
              (fun j => j ≤ b.length) (fun j => b.length - j) 0 (by simp) ?_ ?_
            · exact .to [0, 1, 2] (by simp) (by simp [jobO, boxP]) (by simp)
            intro j hj
            by_cases h2 : j < b.length
            · have hr : (0 : Int) ≤ (j : Int) := by omega
              have hnew : (acc ++ (b.take (j + 1)).map (keyed i)).map encT = (acc ++ (b.take j).map (keyed i)).map encT ++ [encT (keyed i b[j])] := by
                simp only [List.take_succ_eq_append_getElem h2, List.map_append, List.map_cons, List.map_nil, List.append_assoc]
              simp only [jobO, boxP, j00, j01, j02, j03, j04, j05, j06, j07, j08, j09, j0a, j0b, j0c, j0d, j0e, j0f, j0g, j0h, j0i, j0j, j0k, j0l, j0m, j0n, j0o, j0p, j0q, j0r, j0s, j0t, j3k, j3l, j3m, j3n, j3o, j3p, setAll, j3q, j3r, j3s, j3t, j3u, j3v, j3w, j3x, j3y, j3z, j40, j41, j42, j43, j44, j45, j46, j47, j48, j49, j4a, j4b, j4c, j4d, j4e, j4f, j4g, j4h, j4i, j4j, j4k, j4l, j4m, j4n, j4o, j4p, j4q, j4r, j4s, j4t, j4u, j4v, j4w, j4x, j4y, j4z, j50, j51, j52, j53, j54, j55, j56, j57, Bool.not_true, Bool.not_false, Bool.true_and, Bool.and_true, Bool.false_and, Bool.and_false, Bool.true_or, Bool.or_true, Bool.false_or, Bool.or_false, cond_true, cond_false, aAllocN, aIndex, xLoad, xStore, xField, xFA, xIA, xLen, xMM, xAlloc, xIface, xInt, xStr, xIs, xBin, xAgg, xUn, xPick, xExt, knd, fls, ifc, isBoolK, isPtrK, isFuncK, isIfK, j58, j59, Nat.reduceBEq, eq_self, j5a, j5b, j5c, j5d, j5e, j5f, j5g, j5h, j5i, j5j, j5k, j5l, j5m, j5n, j5o, j5p, j5q, j5r, j5s, j5t, j5u, j5v, j5w, j5x, j5y, j5z, j60, j61, j62, j63, j64, j65, j66, j67, j68, j69, j6a, j6b, j6c, j6d, j6e, j6f, j6g, j6h, j6i, j6j, j6k, j6l, j6m, j6n, splice, List.size_toArray, decide_true, decide_false, Nat.reduceLeDiff, List.getD_cons_zero, List.getD_cons_succ, List.drop_succ_cons, List.drop_zero, List.take_succ_cons, List.take_zero, List.take_nil, List.drop_nil, Bool.false_eq_true, List.length_map, List.length_cons, List.length_nil, List.append_nil, List.nil_append, List.cons_append, List.getElem?_cons_succ, List.getElem?_cons_zero, List.length_append, List.set_cons_succ, List.set_cons_zero, List.map_cons, List.map_nil, if_true, if_false, Nat.reduceEqDiff, Nat.reduceAdd, Nat.reduceLT, reduceIte, true_and, and_true, and_self, Nat.zero_add, Nat.add_zero, ge_iff_le, gt_iff_lt, List.filter_cons, List.filter_nil, List.replicate_zero, List.replicate_succ, List.reverse_cons, List.reverse_nil, Option.map_some, Option.map_none, ti3, ti9, ti26, ti28, hr, Int.toNat_natCast, getD_map h2, Int.ofNat_lt, h2, encT_eq b[j]]
              by_cases hg : b[j].g = eB
              · have hkey : keyed i b[j] = b[j] := by simp [keyed, hg]
                simp only [hg, eB_def, const_eB, j00, j01, j02, j03, j04, j05, j06, j07, j08, j09, j0a, j0b, j0c, j0d, j0e, j0f, j0g, j0h, j0i, j0j, j0k, j0l, j0m, j0n, j0o, j0p, j0q, j0r, j0s, j0t, j3k, j3l, j3m, j3n, j3o, j3p, setAll, j3q, j3r, j3s, j3t, j3u, j3v, j3w, j3x, j3y, j3z, j40, j41, j42, j43, j44, j45, j46, j47, j48, j49, j4a, j4b, j4c, j4d, j4e, j4f, j4g, j4h, j4i, j4j, j4k, j4l, j4m, j4n, j4o, j4p, j4q, j4r, j4s, j4t, j4u, j4v, j4w, j4x, j4y, j4z, j50, j51, j52, j53, j54, j55, j56, j57, Bool.not_true, Bool.not_false, Bool.true_and, Bool.and_true, Bool.false_and, Bool.and_false, Bool.true_or, Bool.or_true, Bool.false_or, Bool.or_false, cond_true, cond_false, aAllocN, aIndex, xLoad, xStore, xField, xFA, xIA, xLen, xMM, xAlloc, xIface, xInt, xStr, xIs, xBin, xAgg, xUn, xPick, xExt, knd, fls, ifc, isBoolK, isPtrK, isFuncK, isIfK, j58, j59, Nat.reduceBEq, eq_self, j5a, j5b, j5c, j5d, j5e, j5f, j5g, j5h, j5i, j5j, j5k, j5l, j5m, j5n, j5o, j5p, j5q, j5r, j5s, j5t, j5u, j5v, j5w, j5x, j5y, j5z, j60, j61, j62, j63, j64, j65, j66, j67, j68, j69, j6a, j6b, j6c, j6d, j6e, j6f, j6g, j6h, j6i, j6j, j6k, j6l, j6m, j6n, splice, List.size_toArray, decide_true, decide_false, Nat.reduceLeDiff, List.getD_cons_zero, List.getD_cons_succ, List.drop_succ_cons, List.drop_zero, List.take_succ_cons, List.take_zero, List.take_nil, List.drop_nil, Bool.false_eq_true, List.length_map, List.length_cons, List.length_nil, List.append_nil, List.nil_append, List.cons_append, List.getElem?_cons_succ, List.getElem?_cons_zero, List.length_append, List.set_cons_succ, List.set_cons_zero, List.map_cons, List.map_nil, if_true, if_false, Nat.reduceEqDiff, Nat.reduceAdd, Nat.reduceLT, reduceIte, true_and, and_true, and_self, Nat.zero_add, Nat.add_zero, ge_iff_le, gt_iff_lt, List.filter_cons, List.filter_nil, List.replicate_zero, List.replicate_succ, List.reverse_cons, List.reverse_nil, Option.map_some, Option.map_none, ti3, ti9, ti26, ti28, aAppend, elemsOf_slice, sz_encT]
                refine bs28 (ok_T _ _ _ _ _) (cells_T _ _ _ _ _) ?_
                simp only [j00, j01, j02, j03, j04, j05, j06, j07, j08, j09, j0a, j0b, j0c, j0d, j0e, j0f, j0g, j0h, j0i, j0j, j0k, j0l, j0m, j0n, j0o, j0p, j0q, j0r, j0s, j0t, j3k, j3l, j3m, j3n, j3o, j3p, setAll, j3q, j3r, j3s, j3t, j3u, j3v, j3w, j3x, j3y, j3z, j40, j41, j42, j43, j44, j45, j46, j47, j48, j49, j4a, j4b, j4c, j4d, j4e, j4f, j4g, j4h, j4i, j4j, j4k, j4l, j4m, j4n, j4o, j4p, j4q, j4r, j4s, j4t, j4u, j4v, j4w, j4x, j4y, j4z, j50, j51, j52, j53, j54, j55, j56, j57, Bool.not_true, Bool.not_false, Bool.true_and, Bool.and_true, Bool.false_and, Bool.and_false, Bool.true_or, Bool.or_true, Bool.false_or, Bool.or_false, cond_true, cond_false, aAllocN, aIndex, xLoad, xStore, xField, xFA, xIA, xLen, xMM, xAlloc, xIface, xInt, xStr, xIs, xBin, xAgg, xUn, xPick, xExt, knd, fls, ifc, isBoolK, isPtrK, isFuncK, isIfK, j58, j59, Nat.reduceBEq, eq_self, j5a, j5b, j5c, j5d, j5e, j5f, j5g, j5h, j5i, j5j, j5k, j5l, j5m, j5n, j5o, j5p, j5q, j5r, j5s, j5t, j5u, j5v, j5w, j5x, j5y, j5z, j60, j61, j62, j63, j64, j65, j66, j67, j68, j69, j6a, j6b, j6c, j6d, j6e, j6f, j6g, j6h, j6i, j6j, j6k, j6l, j6m, j6n, splice, List.size_toArray, decide_true, decide_false, Nat.reduceLeDiff, List.getD_cons_zero, List.getD_cons_succ, List.drop_succ_cons, List.drop_zero, List.take_succ_cons, List.take_zero, List.take_nil, List.drop_nil, Bool.false_eq_true, List.length_map, List.length_cons, List.length_nil, List.append_nil, List.nil_append, List.cons_append, List.getElem?_cons_succ, List.getElem?_cons_zero, List.length_append, List.set_cons_succ, List.set_cons_zero, List.map_cons, List.map_nil, if_true, if_false, Nat.reduceEqDiff, Nat.reduceAdd, Nat.reduceLT, reduceIte, true_and, and_true, and_self, Nat.zero_add, Nat.add_zero, ge_iff_le, gt_iff_lt, List.filter_cons, List.filter_nil, List.replicate_zero, List.replicate_succ, List.reverse_cons, List.reverse_nil, Option.map_some, Option.map_none, ti3, ti9, ti26, ti28, aAppend, elemsOf_slice, sz_encT]
                refine ⟨sz1 rfl, by rw [List.length_take]; omega, j + 1, by omega, ?_, by omega⟩
                rw [wrapS j _ h2 (by omega), hnew, hkey, encT_eq b[j], hg]
                exact .to [0, 1, 2] (by simp [Nat.add_assoc, Nat.min_eq_left hj, -List.map_take]) (by simp [jobO, boxP, Nat.add_assoc, Nat.min_eq_left hj, -List.map_take]) (by simp)
              · have hkey : encT (keyed i b[j]) = .agg [.str b[j].g, .str (itoa i), .str b[j].t, .slice .dead (b[j].ats.map encA), .slice .dead (b[j].ks.map encT)] := by
                  rw [keyed, if_neg hg, encT_eq]; rfl
                simp only [hg, eB_def, const_eB, j00, j01, j02, j03, j04, j05, j06, j07, j08, j09, j0a, j0b, j0c, j0d, j0e, j0f, j0g, j0h, j0i, j0j, j0k, j0l, j0m, j0n, j0o, j0p, j0q, j0r, j0s, j0t, j3k, j3l, j3m, j3n, j3o, j3p, setAll, j3q, j3r, j3s, j3t, j3u, j3v, j3w, j3x, j3y, j3z, j40, j41, j42, j43, j44, j45, j46, j47, j48, j49, j4a, j4b, j4c, j4d, j4e, j4f, j4g, j4h, j4i, j4j, j4k, j4l, j4m, j4n, j4o, j4p, j4q, j4r, j4s, j4t, j4u, j4v, j4w, j4x, j4y, j4z, j50, j51, j52, j53, j54, j55, j56, j57, Bool.not_true, Bool.not_false, Bool.true_and, Bool.and_true, Bool.false_and, Bool.and_false, Bool.true_or, Bool.or_true, Bool.false_or, Bool.or_false, cond_true, cond_false, aAllocN, aIndex, xLoad, xStore, xField, xFA, xIA, xLen, xMM, xAlloc, xIface, xInt, xStr, xIs, xBin, xAgg, xUn, xPick, xExt, knd, fls, ifc, isBoolK, isPtrK, isFuncK, isIfK, j58, j59, Nat.reduceBEq, eq_self, j5a, j5b, j5c, j5d, j5e, j5f, j5g, j5h, j5i, j5j, j5k, j5l, j5m, j5n, j5o, j5p, j5q, j5r, j5s, j5t, j5u, j5v, j5w, j5x, j5y, j5z, j60, j61, j62, j63, j64, j65, j66, j67, j68, j69, j6a, j6b, j6c, j6d, j6e, j6f, j6g, j6h, j6i, j6j, j6k, j6l, j6m, j6n, splice, List.size_toArray, decide_true, decide_false, Nat.reduceLeDiff, List.getD_cons_zero, List.getD_cons_succ, List.drop_succ_cons, List.drop_zero, List.take_succ_cons, List.take_zero, List.take_nil, List.drop_nil, Bool.false_eq_true, List.length_map, List.length_cons, List.length_nil, List.append_nil, List.nil_append, List.cons_append, List.getElem?_cons_succ, List.getElem?_cons_zero, List.length_append, List.set_cons_succ, List.set_cons_zero, List.map_cons, List.map_nil, if_true, if_false, Nat.reduceEqDiff, Nat.reduceAdd, Nat.reduceLT, reduceIte, true_and, and_true, and_self, Nat.zero_add, Nat.add_zero, ge_iff_le, gt_iff_lt, List.filter_cons, List.filter_nil, List.replicate_zero, List.replicate_succ, List.reverse_cons, List.reverse_nil, Option.map_some, Option.map_none]
                refine fun_ret isfn55 (spec55 i (by omega) (by omega)) fun _ => ?_
                simp only [j00, j01, j02, j03, j04, j05, j06, j07, j08, j09, j0a, j0b, j0c, j0d, j0e, j0f, j0g, j0h, j0i, j0j, j0k, j0l, j0m, j0n, j0o, j0p, j0q, j0r, j0s, j0t, j3k, j3l, j3m, j3n, j3o, j3p, setAll, j3q, j3r, j3s, j3t, j3u, j3v, j3w, j3x, j3y, j3z, j40, j41, j42, j43, j44, j45, j46, j47, j48, j49, j4a, j4b, j4c, j4d, j4e, j4f, j4g, j4h, j4i, j4j, j4k, j4l, j4m, j4n, j4o, j4p, j4q, j4r, j4s, j4t, j4u, j4v, j4w, j4x, j4y, j4z, j50, j51, j52, j53, j54, j55, j56, j57, Bool.not_true, Bool.not_false, Bool.true_and, Bool.and_true, Bool.false_and, Bool.and_false, Bool.true_or, Bool.or_true, Bool.false_or, Bool.or_false, cond_true, cond_false, aAllocN, aIndex, xLoad, xStore, xField, xFA, xIA, xLen, xMM, xAlloc, xIface, xInt, xStr, xIs, xBin, xAgg, xUn, xPick, xExt, knd, fls, ifc, isBoolK, isPtrK, isFuncK, isIfK, j58, j59, Nat.reduceBEq, eq_self, j5a, j5b, j5c, j5d, j5e, j5f, j5g, j5h, j5i, j5j, j5k, j5l, j5m, j5n, j5o, j5p, j5q, j5r, j5s, j5t, j5u, j5v, j5w, j5x, j5y, j5z, j60, j61, j62, j63, j64, j65, j66, j67, j68, j69, j6a, j6b, j6c, j6d, j6e, j6f, j6g, j6h, j6i, j6j, j6k, j6l, j6m, j6n, splice, List.size_toArray, decide_true, decide_false, Nat.reduceLeDiff, List.getD_cons_zero, List.getD_cons_succ, List.drop_succ_cons, List.drop_zero, List.take_succ_cons, List.take_zero, List.take_nil, List.drop_nil, Bool.false_eq_true, List.length_map, List.length_cons, List.length_nil, List.append_nil, List.nil_append, List.cons_append, List.getElem?_cons_succ, List.getElem?_cons_zero, List.length_append, List.set_cons_succ, List.set_cons_zero, List.map_cons, List.map_nil, if_true, if_false, Nat.reduceEqDiff, Nat.reduceAdd, Nat.reduceLT, reduceIte, true_and, and_true, and_self, Nat.zero_add, Nat.add_zero, ge_iff_le, gt_iff_lt, List.filter_cons, List.filter_nil, List.replicate_zero, List.replicate_succ, List.reverse_cons, List.reverse_nil, Option.map_some, Option.map_none, ti3, ti9, ti26, ti28, aAppend, elemsOf_slice, sz_encT]
                refine bs28 (ok_T _ _ _ _ _) (cells_T _ _ _ _ _) ?_
                simp only [j00, j01, j02, j03, j04, j05, j06, j07, j08, j09, j0a, j0b, j0c, j0d, j0e, j0f, j0g, j0h, j0i, j0j, j0k, j0l, j0m, j0n, j0o, j0p, j0q, j0r, j0s, j0t, j3k, j3l, j3m, j3n, j3o, j3p, setAll, j3q, j3r, j3s, j3t, j3u, j3v, j3w, j3x, j3y, j3z, j40, j41, j42, j43, j44, j45, j46, j47, j48, j49, j4a, j4b, j4c, j4d, j4e, j4f, j4g, j4h, j4i, j4j, j4k, j4l, j4m, j4n, j4o, j4p, j4q, j4r, j4s, j4t, j4u, j4v, j4w, j4x, j4y, j4z, j50, j51, j52, j53, j54, j55, j56, j57, Bool.not_true, Bool.not_false, Bool.true_and, Bool.and_true, Bool.false_and, Bool.and_false, Bool.true_or, Bool.or_true, Bool.false_or, Bool.or_false, cond_true, cond_false, aAllocN, aIndex, xLoad, xStore, xField, xFA, xIA, xLen, xMM, xAlloc, xIface, xInt, xStr, xIs, xBin, xAgg, xUn, xPick, xExt, knd, fls, ifc, isBoolK, isPtrK, isFuncK, isIfK, j58, j59, Nat.reduceBEq, eq_self, j5a, j5b, j5c, j5d, j5e, j5f, j5g, j5h, j5i, j5j, j5k, j5l, j5m, j5n, j5o, j5p, j5q, j5r, j5s, j5t, j5u, j5v, j5w, j5x, j5y, j5z, j60, j61, j62, j63, j64, j65, j66, j67, j68, j69, j6a, j6b, j6c, j6d, j6e, j6f, j6g, j6h, j6i, j6j, j6k, j6l, j6m, j6n, splice, List.size_toArray, decide_true, decide_false, Nat.reduceLeDiff, List.getD_cons_zero, List.getD_cons_succ, List.drop_succ_cons, List.drop_zero, List.take_succ_cons, List.take_zero, List.take_nil, List.drop_nil, Bool.false_eq_true, List.length_map, List.length_cons, List.length_nil, List.append_nil, List.nil_append, List.cons_append, List.getElem?_cons_succ, List.getElem?_cons_zero, List.length_append, List.set_cons_succ, List.set_cons_zero, List.map_cons, List.map_nil, if_true, if_false, Nat.reduceEqDiff, Nat.reduceAdd, Nat.reduceLT, reduceIte, true_and, and_true, and_self, Nat.zero_add, Nat.add_zero, ge_iff_le, gt_iff_lt, List.filter_cons, List.filter_nil, List.replicate_zero, List.replicate_succ, List.reverse_cons, List.reverse_nil, Option.map_some, Option.map_none, ti3, ti9, ti26, ti28, aAppend, elemsOf_slice, sz_encT]
                refine ⟨sz1 rfl, by rw [List.length_take]; omega, j + 1, by omega, ?_, by omega⟩
                rw [wrapS j _ h2 (by omega), hnew, hkey]
                exact .to [0, 1, 2] (by simp [Nat.add_assoc, Nat.min_eq_left hj, -List.map_take]) (by simp [jobO, boxP, Nat.add_assoc, Nat.min_eq_left hj, -List.map_take]) (by simp)
            · have hje : j = b.length := by omega
              subst hje
              simp only [j00, j01, j02, j03, j04, j05, j06, j07, j08, j09, j0a, j0b, j0c, j0d, j0e, j0f, j0g, j0h, j0i, j0j, j0k, j0l, j0m, j0n, j0o, j0p, j0q, j0r, j0s, j0t, j3k, j3l, j3m, j3n, j3o, j3p, setAll, j3q, j3r, j3s, j3t, j3u, j3v, j3w, j3x, j3y, j3z, j40, j41, j42, j43, j44, j45, j46, j47, j48, j49, j4a, j4b, j4c, j4d, j4e, j4f, j4g, j4h, j4i, j4j, j4k, j4l, j4m, j4n, j4o, j4p, j4q, j4r, j4s, j4t, j4u, j4v, j4w, j4x, j4y, j4z, j50, j51, j52, j53, j54, j55, j56, j57, Bool.not_true, Bool.not_false, Bool.true_and, Bool.and_true, Bool.false_and, Bool.and_false, Bool.true_or, Bool.or_true, Bool.false_or, Bool.or_false, cond_true, cond_false, aAllocN, aIndex, xLoad, xStore, xField, xFA, xIA, xLen, xMM, xAlloc, xIface, xInt, xStr, xIs, xBin, xAgg, xUn, xPick, xExt, knd, fls, ifc, isBoolK, isPtrK, isFuncK, isIfK, j58, j59, Nat.reduceBEq, eq_self, j5a, j5b, j5c, j5d, j5e, j5f, j5g, j5h, j5i, j5j, j5k, j5l, j5m, j5n, j5o, j5p, j5q, j5r, j5s, j5t, j5u, j5v, j5w, j5x, j5y, j5z, j60, j61, j62, j63, j64, j65, j66, j67, j68, j69, j6a, j6b, j6c, j6d, j6e, j6f, j6g, j6h, j6i, j6j, j6k, j6l, j6m, j6n, splice, List.size_toArray, decide_true, decide_false, Nat.reduceLeDiff, List.getD_cons_zero, List.getD_cons_succ, List.drop_succ_cons, List.drop_zero, List.take_succ_cons, List.take_zero, List.take_nil, List.drop_nil, Bool.false_eq_true, List.length_map, List.length_cons, List.length_nil, List.append_nil, List.nil_append, List.cons_append, List.getElem?_cons_succ, List.getElem?_cons_zero, List.length_append, List.set_cons_succ, List.set_cons_zero, List.map_cons, List.map_nil, if_true, if_false, Nat.reduceEqDiff, Nat.reduceAdd, Nat.reduceLT, reduceIte, true_and, and_true, and_self, Nat.zero_add, Nat.add_zero, ge_iff_le, gt_iff_lt, List.filter_cons, List.filter_nil, List.replicate_zero, List.replicate_succ, List.reverse_cons, List.reverse_nil, Option.map_some, Option.map_none, ti3, Int.ofNat_lt, h2]
              refine ⟨(i + 1, acc ++ b.map (keyed i), s2), ⟨by omega, he1⟩, ?_, by simp only; omega⟩
              rw [wrapS i v.toNat h (by omega), List.take_length]
              exact .to [0, 1, 2] (by simp) (by simp [jobO, boxP]) (by simp)
        · have hie2 : i = v.toNat := by omega
          subst hie2
          obtain ⟨rfl, rfl⟩ := hyes _ _ _ hv hv24 hie
          simp only [j00, j01, j02, j03, j04, j05, j06, j07, j08, j09, j0a, j0b, j0c, j0d, j0e, j0f, j0g, j0h, j0i, j0j, j0k, j0l, j0m, j0n, j0o, j0p, j0q, j0r, j0s, j0t, j3k, j3l, j3m, j3n, j3o, j3p, setAll, j3q, j3r, j3s, j3t, j3u, j3v, j3w, j3x, j3y, j3z, j40, j41, j42, j43, j44, j45, j46, j47, j48, j49, j4a, j4b, j4c, j4d, j4e, j4f, j4g, j4h, j4i, j4j, j4k, j4l, j4m, j4n, j4o, j4p, j4q, j4r, j4s, j4t, j4u, j4v, j4w, j4x, j4y, j4z, j50, j51, j52, j53, j54, j55, j56, j57, Bool.not_true, Bool.not_false, Bool.true_and, Bool.and_true, Bool.false_and, Bool.and_false, Bool.true_or, Bool.or_true, Bool.false_or, Bool.or_false, cond_true, cond_false, aAllocN, aIndex, xLoad, xStore, xField, xFA, xIA, xLen, xMM, xAlloc, xIface, xInt, xStr, xIs, xBin, xAgg, xUn, xPick, xExt, knd, fls, ifc, isBoolK, isPtrK, isFuncK, isIfK, j58, j59, Nat.reduceBEq, eq_self, j5a, j5b, j5c, j5d, j5e, j5f, j5g, j5h, j5i, j5j, j5k, j5l, j5m, j5n, j5o, j5p, j5q, j5r, j5s, j5t, j5u, j5v, j5w, j5x, j5y, j5z, j60, j61, j62, j63, j64, j65, j66, j67, j68, j69, j6a, j6b, j6c, j6d, j6e, j6f, j6g, j6h, j6i, j6j, j6k, j6l, j6m, j6n, splice, List.size_toArray, decide_true, decide_false, Nat.reduceLeDiff, List.getD_cons_zero, List.getD_cons_succ, List.drop_succ_cons, List.drop_zero, List.take_succ_cons, List.take_zero, List.take_nil, List.drop_nil, Bool.false_eq_true, List.length_map, List.length_cons, List.length_nil, List.append_nil, List.nil_append, List.cons_append, List.getElem?_cons_succ, List.getElem?_cons_zero, List.length_append, List.set_cons_succ, List.set_cons_zero, List.map_cons, List.map_nil, if_true, if_false, Nat.reduceEqDiff, Nat.reduceAdd, Nat.reduceLT, reduceIte, true_and, and_true, and_self, Nat.zero_add, Nat.add_zero, ge_iff_le, gt_iff_lt, List.filter_cons, List.filter_nil, List.replicate_zero, List.replicate_succ, List.reverse_cons, List.reverse_nil, Option.map_some, Option.map_none, ti3, Int.ofNat_lt, h]
          exact kret_keep [0] rfl (by simp [jobO]) (by simp [jobO]) (by simp)
  unfold JSpec
  cases hv : numP st t.n with
  | error e => exact key (fun v l s' h => by rw [hv] at h; cases h) (fun v e h => by rw [hv] at h; cases h) (fun v h => by rw [hv] at h; cases h) fun e' h => by rw [hv] at h; injection h with h; subst h; exact ⟨rfl, rfl⟩
  | ok v =>
    by_cases hv24 : 24 < v
    · simp only [hv24, if_true]
      exact key (fun v' l s' h h2 => by rw [hv] at h; injection h with h; subst h; exact absurd hv24 h2) (fun v' e h h2 => by rw [hv] at h; injection h with h; subst h; exact absurd hv24 h2) (fun v' h _ => by rw [hv] at h; injection h with h; subst h; exact ⟨rfl, rfl⟩) fun e' h => by rw [hv] at h; cases h
    · simp only [hv24, if_false]
      cases hf : eachTo (fun s => kidsP st ps t.ks s) v.toNat s with
      | error e => exact key (fun v' l s' h h2 h3 => by rw [hv] at h; injection h with h; subst h; rw [hf] at h3; cases h3) (fun v' e' h h2 h3 => by rw [hv] at h; injection h with h; subst h; rw [hf] at h3; injection h3 with h3; subst h3; exact ⟨rfl, rfl⟩) (fun v' h h2 => by rw [hv] at h; injection h with h; subst h; exact absurd h2 hv24) fun e' h => by rw [hv] at h; cases h
      | ok x => exact key (fun v' l s' h h2 h3 => by rw [hv] at h; injection h with h; subst h; rw [hf] at h3; injection h3 with h3; subst h3; exact ⟨rfl, rfl⟩) (fun v' e' h h2 h3 => by rw [hv] at h; injection h with h; subst h; rw [hf] at h3; cases h3) (fun v' h h2 => by rw [hv] at h; injection h with h; subst h; exact absurd h2 hv24) fun e' h => by rw [hv] at h; cases h
end Go.Proofs.YtlfngjemfpjegaaDoor.Px
