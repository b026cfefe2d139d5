/- The program's renderer: what it does, as a function. -/
import Derived.Test.YtlfngjemfpjegaaDoorPyD
import Derived.Shelf.Strconv.Itoa3
namespace Go.Proofs.YtlfngjemfpjegaaDoor.Px
open Go Go.RowKit Go.Proofs
set_option linter.unusedVariables false
set_option linter.unnecessarySimpa false
set_option linter.unusedSimpArgs false
set_option maxRecDepth 4000
def x73 : XCode :=
  (.reg [⟨some 6, none, Op.move (Operand.tmp 0), false⟩,
    ⟨some 7, none, Op.move (Operand.tmp 1), false⟩,
    ⟨some 8, none, Op.move (Operand.tmp 2), false⟩,
    ⟨some 9, none, Op.build 70 #[(0, Operand.tmp 6), (1, Operand.tmp 7), (2, Operand.tmp 8)], false⟩,
    ⟨some 10, none, Op.makeInterface 70 (Operand.tmp 9), false⟩,
    ⟨none, none, Op.panic (Operand.tmp 10), false⟩])
theorem ispec73 {args : List PV} {L L' : List AObj} {out : Out} (h : aw Tryd.prog L.length 11 x73 (kfin Tryd.prog [] L.length 11 out L') ⟨enum 0 args, L⟩) : ISpec Tryd.prog 73 args L out L' :=
  ispec_of_aw mixd (fn := Tryd.f73) (x := x73) Tryd.func73 rfl (by kernel_rfl) (by kernel_rfl) rfl h
theorem isfn73 : isFn Tryd.prog 73 = true := by kernel_rfl

def x59 : XCode :=
  (.seq
   (.reg [⟨some 8, none, Op.move (Operand.tmp 0), false⟩,
     ⟨some 9, none, Op.unOp UnOp.not 4 (Operand.tmp 8), false⟩])
   (.cond (Operand.tmp 9)
    (.reg [⟨some 10, none, Op.move (Operand.tmp 1), false⟩,
      ⟨some 11, none, Op.move (Operand.tmp 2), false⟩,
      ⟨some 12, none, Op.move (Operand.tmp 3), false⟩,
      ⟨some 13, none, Op.call { callee := Callee.value (Operand.func 73), args := #[Operand.tmp 10, Operand.tmp 11, Operand.tmp 12], argTypes := #[29, 9, 3] }, false⟩])
    .skip))
theorem ispec59 {args : List PV} {L L' : List AObj} {out : Out} (h : aw Tryd.prog L.length 14 x59 (kfin Tryd.prog [] L.length 14 out L') ⟨enum 0 args, L⟩) : ISpec Tryd.prog 59 args L out L' :=
  ispec_of_aw mixd (fn := Tryd.f59) (x := x59) Tryd.func59 rfl (by kernel_rfl) (by kernel_rfl) rfl h
theorem isfn59 : isFn Tryd.prog 59 = true := by kernel_rfl

def x32 : XCode :=
  (.reg [⟨some 6, none, Op.move (Operand.tmp 0), false⟩,
    ⟨some 7, none, Op.move (Operand.tmp 1), false⟩,
    ⟨some 8, none, Op.move (Operand.tmp 2), false⟩,
    ⟨some 9, none, Op.call { callee := Callee.value (Operand.func 59), args := #[Operand.tmp 6, Operand.const (Value.int IntKind.i64 6), Operand.tmp 7, Operand.tmp 8], argTypes := #[4, 29, 9, 3] }, false⟩])
theorem ispec32 {args : List PV} {L L' : List AObj} {out : Out} (h : aw Tryd.prog L.length 10 x32 (kfin Tryd.prog [] L.length 10 out L') ⟨enum 0 args, L⟩) : ISpec Tryd.prog 32 args L out L' :=
  ispec_of_aw mixd (fn := Tryd.f32) (x := x32) Tryd.func32 rfl (by kernel_rfl) (by kernel_rfl) rfl h
theorem isfn32 : isFn Tryd.prog 32 = true := by kernel_rfl

def x56 : XCode :=
  (.seq
   (.reg [⟨some 4, none, Op.assign (Operand.const (Value.int IntKind.i64 0)), false⟩])
   (.seq
    (.reg [⟨some 5, none, Op.move (Operand.tmp 1), false⟩,
      ⟨some 6, none, Op.binOp BinOp.geq 3 (Operand.tmp 5) (Operand.const (Value.int IntKind.i64 0)) 3, false⟩,
      ⟨some 7, none, Op.move (Operand.tmp 6), false⟩,
      ⟨some 8, some (7, true), Op.move (Operand.tmp 1), false⟩,
      ⟨some 9, some (7, true), Op.move (Operand.tmp 0), false⟩,
      ⟨some 10, some (7, true), Op.nilCheck (Operand.tmp 9), false⟩,
      ⟨some 11, some (7, true), Op.fieldAddr 68 (Operand.tmp 10) 0, false⟩,
      ⟨some 12, some (7, true), Op.load 32 (Operand.tmp 11), false⟩,
      ⟨some 13, some (7, true), Op.call { callee := Callee.builtin Builtin.len, args := #[Operand.tmp 12], argTypes := #[32] }, false⟩,
      ⟨some 14, some (7, true), Op.binOp BinOp.lss 3 (Operand.tmp 8) (Operand.tmp 13) 3, false⟩,
      ⟨some 15, none, Op.pick (Operand.tmp 7) (Operand.tmp 14) (Operand.const (Value.bool false)), false⟩,
      ⟨some 16, none, Op.move (Operand.tmp 1), false⟩,
      ⟨some 17, none, Op.call { callee := Callee.value (Operand.func 32), args := #[Operand.tmp 15, Operand.const (Value.string { data := #[110, 117, 109, 98, 101, 114] }), Operand.tmp 16], argTypes := #[4, 9, 3] }, false⟩])
    (.seq
     (.reg [⟨some 18, none, Op.move (Operand.tmp 0), false⟩,
       ⟨some 19, none, Op.nilCheck (Operand.tmp 18), false⟩,
       ⟨some 20, none, Op.fieldAddr 68 (Operand.tmp 19) 0, false⟩,
       ⟨some 21, none, Op.load 32 (Operand.tmp 20), false⟩,
       ⟨some 22, none, Op.move (Operand.tmp 1), false⟩,
       ⟨some 23, none, Op.indexAddr 32 (Operand.tmp 21) (Operand.tmp 22), false⟩,
       ⟨some 24, none, Op.load 3 (Operand.tmp 23), false⟩,
       ⟨some 4, none, Op.assign (Operand.tmp 24), false⟩])
     .ret)))
theorem ispec56 {args : List PV} {L L' : List AObj} {out : Out} (h : aw Tryd.prog L.length 25 x56 (kfin Tryd.prog [.tmp 4] L.length 25 out L') ⟨enum 0 args, L⟩) : ISpec Tryd.prog 56 args L out L' :=
  ispec_of_aw mixd (fn := Tryd.f56) (x := x56) Tryd.func56 rfl (by kernel_rfl) (by kernel_rfl) rfl h
theorem isfn56 : isFn Tryd.prog 56 = true := by kernel_rfl

def x57 : XCode :=
  (.seq
   (.reg [⟨some 4, none, Op.assign (Operand.const (Value.string { data := #[] })), false⟩])
   (.seq
    (.seq
     (.reg [⟨some 7, none, Op.move (Operand.tmp 0), false⟩,
       ⟨some 8, none, Op.nilCheck (Operand.tmp 7), false⟩,
       ⟨some 9, none, Op.fieldAddr 68 (Operand.tmp 8) 1, false⟩,
       ⟨some 10, none, Op.load 38 (Operand.tmp 9), false⟩,
       ⟨some 11, none, Op.call { callee := Callee.builtin Builtin.len, args := #[Operand.tmp 10], argTypes := #[38] }, false⟩,
       ⟨some 12, none, Op.move (Operand.const (Value.int IntKind.i64 0)), false⟩])
     (.block 0
      (.loop
       (.seq
        (.reg [⟨some 13, none, Op.binOp BinOp.lss 3 (Operand.tmp 12) (Operand.tmp 11) 3, false⟩])
        (.seq
         (.cond (Operand.tmp 13)
          .skip
          (.exit 0))
         (.seq
          (.block 1
           (.seq
            (.reg [⟨some 14, none, Op.indexAddr 38 (Operand.tmp 10) (Operand.tmp 12), false⟩,
              ⟨some 15, none, Op.load 104 (Operand.tmp 14), false⟩,
              ⟨some 6, none, Op.alloc 104, false⟩,
              ⟨none, none, Op.store 104 (Operand.tmp 6) (Operand.tmp 15), false⟩])
            (.seq
             (.reg [⟨some 16, none, Op.fieldAddr 104 (Operand.tmp 6) 0, false⟩,
               ⟨some 17, none, Op.load 9 (Operand.tmp 16), false⟩,
               ⟨some 18, none, Op.move (Operand.tmp 1), false⟩,
               ⟨some 19, none, Op.binOp BinOp.eql 9 (Operand.tmp 17) (Operand.tmp 18) 9, false⟩])
             (.cond (Operand.tmp 19)
              (.seq
               (.reg [⟨some 20, none, Op.fieldAddr 104 (Operand.tmp 6) 1, false⟩,
                 ⟨some 21, none, Op.load 9 (Operand.tmp 20), false⟩,
                 ⟨some 4, none, Op.assign (Operand.tmp 21), false⟩])
               .ret)
              .skip))))
          (.reg [⟨some 22, none, Op.binOp BinOp.add 3 (Operand.tmp 12) (Operand.const (Value.int IntKind.i64 1)) 3, false⟩,
            ⟨some 12, none, Op.move (Operand.tmp 22), false⟩])))))))
    (.seq
     (.reg [⟨some 23, none, Op.move (Operand.tmp 1), false⟩,
       ⟨some 24, none, Op.call { callee := Callee.value (Operand.func 32), args := #[Operand.const (Value.bool false), Operand.tmp 23, Operand.const (Value.int IntKind.i64 0)], argTypes := #[4, 9, 3] }, false⟩])
     (.seq
      (.reg [⟨some 4, none, Op.assign (Operand.const (Value.string { data := #[] })), false⟩])
      .ret))))
theorem ispec57 {args : List PV} {L L' : List AObj} {out : Out} (h : aw Tryd.prog L.length 25 x57 (kfin Tryd.prog [.tmp 4] L.length 25 out L') ⟨enum 0 args, L⟩) : ISpec Tryd.prog 57 args L out L' :=
  ispec_of_aw mixd (fn := Tryd.f57) (x := x57) Tryd.func57 rfl (by kernel_rfl) (by kernel_rfl) rfl h
theorem isfn57 : isFn Tryd.prog 57 = true := by kernel_rfl



abbrev Er := BA × Int
/-- The fault that is thrown. -/
def flt (e : Er) : PV := .iface 70 (.agg [.int .i64 6, .str e.1, .int .i64 e.2])
theorem spec73 (e n : Int) (s : BA) : PSpec Tryd.prog 73 [.int .i64 e, .str s, .int .i64 n] (.pan (.iface 70 (.agg [.int .i64 e, .str s, .int .i64 n]))) := by
  refine ispec73 ?_
  simp only [x73, enum, j00, j01, j02, j03, j04, j05, j06, j07, j08, j09, j0a, j0b, j0c, j0d, j0e, j0f, j0g, j0h, j0i, j0j, j0k, j0l, j0m, j0n, j0o, j0p, j0q, j0r, j0s, j0t, j3k, j3l, j3m, j3n, j3o, j3p, setAll, j3q, j3r, j3s, j3t, j3u, j3v, j3w, j3x, j3y, j3z, j40, j41, j42, j43, j44, j45, j46, j47, j48, j49, j4a, j4b, j4c, j4d, j4e, j4f, j4g, j4h, j4i, j4j, j4k, j4l, j4m, j4n, j4o, j4p, j4q, j4r, j4s, j4t, j4u, j4v, j4w, j4x, j4y, j4z, j50, j51, j52, j53, j54, j55, j56, j57, Bool.not_true, Bool.not_false, Bool.true_and, Bool.and_true, Bool.false_and, Bool.and_false, Bool.true_or, Bool.or_true, Bool.false_or, Bool.or_false, cond_true, cond_false, aAllocN, aIndex, xLoad, xStore, xField, xFA, xIA, xLen, xMM, xAlloc, xIface, xInt, xStr, xIs, xBin, xAgg, xUn, xPick, xExt, knd, fls, ifc, isBoolK, isPtrK, isFuncK, isIfK, j58, j59, Nat.reduceBEq, eq_self, j5a, j5b, j5c, j5d, j5e, j5f, j5g, j5h, j5i, j5j, j5k, j5l, j5m, j5n, j5o, j5p, j5q, j5r, j5s, j5t, j5u, j5v, j5w, j5x, j5y, j5z, j60, j61, j62, j63, j64, j65, j66, j67, j68, j69, j6a, j6b, j6c, j6d, j6e, j6f, j6g, j6h, j6i, j6j, j6k, j6l, j6m, j6n, splice, List.size_toArray, decide_true, decide_false, Nat.reduceLeDiff, List.getD_cons_zero, List.getD_cons_succ, List.drop_succ_cons, List.drop_zero, List.take_succ_cons, List.take_zero, List.take_nil, List.drop_nil, Bool.false_eq_true, List.length_map, List.length_cons, List.length_nil, List.append_nil, List.nil_append, List.cons_append, List.getElem?_cons_succ, List.getElem?_cons_zero, List.length_append, List.set_cons_succ, List.set_cons_zero, List.map_cons, List.map_nil, if_true, if_false, Nat.reduceEqDiff, Nat.reduceAdd, Nat.reduceLT, reduceIte, true_and, and_true, and_self, Nat.zero_add, Nat.add_zero, ge_iff_le, gt_iff_lt, List.filter_cons, List.filter_nil, List.replicate_zero, List.replicate_succ, List.reverse_cons, List.reverse_nil, Option.map_some, Option.map_none, ti70, aBuild, fillP]
  exact ⟨_, rfl, kfin_pan rfl⟩
theorem spec59 (b : Bool) (e n : Int) (s : BA) : PSpec Tryd.prog 59 [.bool b, .int .i64 e, .str s, .int .i64 n] (if b then .ret (.tuple []) else .pan (.iface 70 (.agg [.int .i64 e, .str s, .int .i64 n]))) := by
  refine ispec59 ?_
  cases b
  · simp only [x59, enum, j00, j01, j02, j03, j04, j05, j06, j07, j08, j09, j0a, j0b, j0c, j0d, j0e, j0f, j0g, j0h, j0i, j0j, j0k, j0l, j0m, j0n, j0o, j0p, j0q, j0r, j0s, j0t, j3k, j3l, j3m, j3n, j3o, j3p, setAll, j3q, j3r, j3s, j3t, j3u, j3v, j3w, j3x, j3y, j3z, j40, j41, j42, j43, j44, j45, j46, j47, j48, j49, j4a, j4b, j4c, j4d, j4e, j4f, j4g, j4h, j4i, j4j, j4k, j4l, j4m, j4n, j4o, j4p, j4q, j4r, j4s, j4t, j4u, j4v, j4w, j4x, j4y, j4z, j50, j51, j52, j53, j54, j55, j56, j57, Bool.not_true, Bool.not_false, Bool.true_and, Bool.and_true, Bool.false_and, Bool.and_false, Bool.true_or, Bool.or_true, Bool.false_or, Bool.or_false, cond_true, cond_false, aAllocN, aIndex, xLoad, xStore, xField, xFA, xIA, xLen, xMM, xAlloc, xIface, xInt, xStr, xIs, xBin, xAgg, xUn, xPick, xExt, knd, fls, ifc, isBoolK, isPtrK, isFuncK, isIfK, j58, j59, Nat.reduceBEq, eq_self, j5a, j5b, j5c, j5d, j5e, j5f, j5g, j5h, j5i, j5j, j5k, j5l, j5m, j5n, j5o, j5p, j5q, j5r, j5s, j5t, j5u, j5v, j5w, j5x, j5y, j5z, j60, j61, j62, j63, j64, j65, j66, j67, j68, j69, j6a, j6b, j6c, j6d, j6e, j6f, j6g, j6h, j6i, j6j, j6k, j6l, j6m, j6n, splice, List.size_toArray, decide_true, decide_false, Nat.reduceLeDiff, List.getD_cons_zero, List.getD_cons_succ, List.drop_succ_cons, List.drop_zero, List.take_succ_cons, List.take_zero, List.take_nil, List.drop_nil, Bool.false_eq_true, List.length_map, List.length_cons, List.length_nil, List.append_nil, List.nil_append, List.cons_append, List.getElem?_cons_succ, List.getElem?_cons_zero, List.length_append, List.set_cons_succ, List.set_cons_zero, List.map_cons, List.map_nil, if_true, if_false, Nat.reduceEqDiff, Nat.reduceAdd, Nat.reduceLT, reduceIte, true_and, and_true, and_self, Nat.zero_add, Nat.add_zero, ge_iff_le, gt_iff_lt, List.filter_cons, List.filter_nil, List.replicate_zero, List.replicate_succ, List.reverse_cons, List.reverse_nil, Option.map_some, Option.map_none]
    exact fun_pan isfn73 (spec73 e n s) (kfin_pan rfl)
  · simp only [x59, enum, j00, j01, j02, j03, j04, j05, j06, j07, j08, j09, j0a, j0b, j0c, j0d, j0e, j0f, j0g, j0h, j0i, j0j, j0k, j0l, j0m, j0n, j0o, j0p, j0q, j0r, j0s, j0t, j3k, j3l, j3m, j3n, j3o, j3p, setAll, j3q, j3r, j3s, j3t, j3u, j3v, j3w, j3x, j3y, j3z, j40, j41, j42, j43, j44, j45, j46, j47, j48, j49, j4a, j4b, j4c, j4d, j4e, j4f, j4g, j4h, j4i, j4j, j4k, j4l, j4m, j4n, j4o, j4p, j4q, j4r, j4s, j4t, j4u, j4v, j4w, j4x, j4y, j4z, j50, j51, j52, j53, j54, j55, j56, j57, Bool.not_true, Bool.not_false, Bool.true_and, Bool.and_true, Bool.false_and, Bool.and_false, Bool.true_or, Bool.or_true, Bool.false_or, Bool.or_false, cond_true, cond_false, aAllocN, aIndex, xLoad, xStore, xField, xFA, xIA, xLen, xMM, xAlloc, xIface, xInt, xStr, xIs, xBin, xAgg, xUn, xPick, xExt, knd, fls, ifc, isBoolK, isPtrK, isFuncK, isIfK, j58, j59, Nat.reduceBEq, eq_self, j5a, j5b, j5c, j5d, j5e, j5f, j5g, j5h, j5i, j5j, j5k, j5l, j5m, j5n, j5o, j5p, j5q, j5r, j5s, j5t, j5u, j5v, j5w, j5x, j5y, j5z, j60, j61, j62, j63, j64, j65, j66, j67, j68, j69, j6a, j6b, j6c, j6d, j6e, j6f, j6g, j6h, j6i, j6j, j6k, j6l, j6m, j6n, splice, List.size_toArray, decide_true, decide_false, Nat.reduceLeDiff, List.getD_cons_zero, List.getD_cons_succ, List.drop_succ_cons, List.drop_zero, List.take_succ_cons, List.take_zero, List.take_nil, List.drop_nil, Bool.false_eq_true, List.length_map, List.length_cons, List.length_nil, List.append_nil, List.nil_append, List.cons_append, List.getElem?_cons_succ, List.getElem?_cons_zero, List.length_append, List.set_cons_succ, List.set_cons_zero, List.map_cons, List.map_nil, if_true, if_false, Nat.reduceEqDiff, Nat.reduceAdd, Nat.reduceLT, reduceIte, true_and, and_true, and_self, Nat.zero_add, Nat.add_zero, ge_iff_le, gt_iff_lt, List.filter_cons, List.filter_nil, List.replicate_zero, List.replicate_succ, List.reverse_cons, List.reverse_nil, Option.map_some, Option.map_none]
    exact kfin_normal rfl rfl
theorem spec32 (b : Bool) (n : Int) (s : BA) : PSpec Tryd.prog 32 [.bool b, .str s, .int .i64 n] (if b then .ret (.tuple []) else .pan (flt (s, n))) := by
  refine ispec32 ?_
  cases b
  · simp only [x32, enum, j00, j01, j02, j03, j04, j05, j06, j07, j08, j09, j0a, j0b, j0c, j0d, j0e, j0f, j0g, j0h, j0i, j0j, j0k, j0l, j0m, j0n, j0o, j0p, j0q, j0r, j0s, j0t, j3k, j3l, j3m, j3n, j3o, j3p, setAll, j3q, j3r, j3s, j3t, j3u, j3v, j3w, j3x, j3y, j3z, j40, j41, j42, j43, j44, j45, j46, j47, j48, j49, j4a, j4b, j4c, j4d, j4e, j4f, j4g, j4h, j4i, j4j, j4k, j4l, j4m, j4n, j4o, j4p, j4q, j4r, j4s, j4t, j4u, j4v, j4w, j4x, j4y, j4z, j50, j51, j52, j53, j54, j55, j56, j57, Bool.not_true, Bool.not_false, Bool.true_and, Bool.and_true, Bool.false_and, Bool.and_false, Bool.true_or, Bool.or_true, Bool.false_or, Bool.or_false, cond_true, cond_false, aAllocN, aIndex, xLoad, xStore, xField, xFA, xIA, xLen, xMM, xAlloc, xIface, xInt, xStr, xIs, xBin, xAgg, xUn, xPick, xExt, knd, fls, ifc, isBoolK, isPtrK, isFuncK, isIfK, j58, j59, Nat.reduceBEq, eq_self, j5a, j5b, j5c, j5d, j5e, j5f, j5g, j5h, j5i, j5j, j5k, j5l, j5m, j5n, j5o, j5p, j5q, j5r, j5s, j5t, j5u, j5v, j5w, j5x, j5y, j5z, j60, j61, j62, j63, j64, j65, j66, j67, j68, j69, j6a, j6b, j6c, j6d, j6e, j6f, j6g, j6h, j6i, j6j, j6k, j6l, j6m, j6n, splice, List.size_toArray, decide_true, decide_false, Nat.reduceLeDiff, List.getD_cons_zero, List.getD_cons_succ, List.drop_succ_cons, List.drop_zero, List.take_succ_cons, List.take_zero, List.take_nil, List.drop_nil, Bool.false_eq_true, List.length_map, List.length_cons, List.length_nil, List.append_nil, List.nil_append, List.cons_append, List.getElem?_cons_succ, List.getElem?_cons_zero, List.length_append, List.set_cons_succ, List.set_cons_zero, List.map_cons, List.map_nil, if_true, if_false, Nat.reduceEqDiff, Nat.reduceAdd, Nat.reduceLT, reduceIte, true_and, and_true, and_self, Nat.zero_add, Nat.add_zero, ge_iff_le, gt_iff_lt, List.filter_cons, List.filter_nil, List.replicate_zero, List.replicate_succ, List.reverse_cons, List.reverse_nil, Option.map_some, Option.map_none]
    exact fun_pan isfn59 (spec59 false 6 n s) (kfin_pan rfl)
  · simp only [x32, enum, j00, j01, j02, j03, j04, j05, j06, j07, j08, j09, j0a, j0b, j0c, j0d, j0e, j0f, j0g, j0h, j0i, j0j, j0k, j0l, j0m, j0n, j0o, j0p, j0q, j0r, j0s, j0t, j3k, j3l, j3m, j3n, j3o, j3p, setAll, j3q, j3r, j3s, j3t, j3u, j3v, j3w, j3x, j3y, j3z, j40, j41, j42, j43, j44, j45, j46, j47, j48, j49, j4a, j4b, j4c, j4d, j4e, j4f, j4g, j4h, j4i, j4j, j4k, j4l, j4m, j4n, j4o, j4p, j4q, j4r, j4s, j4t, j4u, j4v, j4w, j4x, j4y, j4z, j50, j51, j52, j53, j54, j55, j56, j57, Bool.not_true, Bool.not_false, Bool.true_and, Bool.and_true, Bool.false_and, Bool.and_false, Bool.true_or, Bool.or_true, Bool.false_or, Bool.or_false, cond_true, cond_false, aAllocN, aIndex, xLoad, xStore, xField, xFA, xIA, xLen, xMM, xAlloc, xIface, xInt, xStr, xIs, xBin, xAgg, xUn, xPick, xExt, knd, fls, ifc, isBoolK, isPtrK, isFuncK, isIfK, j58, j59, Nat.reduceBEq, eq_self, j5a, j5b, j5c, j5d, j5e, j5f, j5g, j5h, j5i, j5j, j5k, j5l, j5m, j5n, j5o, j5p, j5q, j5r, j5s, j5t, j5u, j5v, j5w, j5x, j5y, j5z, j60, j61, j62, j63, j64, j65, j66, j67, j68, j69, j6a, j6b, j6c, j6d, j6e, j6f, j6g, j6h, j6i, j6j, j6k, j6l, j6m, j6n, splice, List.size_toArray, decide_true, decide_false, Nat.reduceLeDiff, List.getD_cons_zero, List.getD_cons_succ, List.drop_succ_cons, List.drop_zero, List.take_succ_cons, List.take_zero, List.take_nil, List.drop_nil, Bool.false_eq_true, List.length_map, List.length_cons, List.length_nil, List.append_nil, List.nil_append, List.cons_append, List.getElem?_cons_succ, List.getElem?_cons_zero, List.length_append, List.set_cons_succ, List.set_cons_zero, List.map_cons, List.map_nil, if_true, if_false, Nat.reduceEqDiff, Nat.reduceAdd, Nat.reduceLT, reduceIte, true_and, and_true, and_self, Nat.zero_add, Nat.add_zero, ge_iff_le, gt_iff_lt, List.filter_cons, List.filter_nil, List.replicate_zero, List.replicate_succ, List.reverse_cons, List.reverse_nil, Option.map_some, Option.map_none]
    exact fun_ret isfn59 (spec59 true 6 n s) fun _ => kfin_normal rfl rfl

def jobO (st : List Int) (ps : List At) (s : Int) : AObj := .cells [.slice .dead (st.map encI), .slice .dead (ps.map encA), .int .i64 s]
/-- What a method of a job does: a value and the steps behind it, or a fault. -/
def JSpec (f : FuncId) (args : List PV) (st : List Int) (ps : List At) (s : Int) (o : Except Er (PV × Int)) : Prop :=
  match o with
  | .ok (v, s') => ISpec Tryd.prog f args [jobO st ps s] (.ret v) [jobO st ps s']
  | .error e => ISpec Tryd.prog f args [jobO st ps s] (.pan (flt e)) [.dead]
def numB : BA := ⟨#[110, 117, 109, 98, 101, 114]⟩
theorem numB_def : (⟨#[110, 117, 109, 98, 101, 114]⟩ : BA) = numB := rfl
theorem const_numB : ofConst (.string numB) = .str numB := j3y (by decide)
def numP (st : List Int) (n : Int) : Except Er Int := if 0 ≤ n ∧ n < st.length then .ok (st.getD n.toNat 0) else .error (numB, n)
theorem imp_flt (e : Er) {k : Bool} {f : Nat → Option Nat} : (flt e).imp k f = flt e := rfl
theorem bare_flt (e : Er) : (flt e).bare = flt e := rfl
theorem ren_flt (e : Er) {f : Nat → Nat} : (flt e).ren f = flt e := rfl
attribute [simp] imp_flt bare_flt ren_flt
theorem spec56 (st : List Int) (ps : List At) (s n : Int) : JSpec 56 [.ptr 0 0, .int .i64 n] st ps s ((numP st n).map fun v => (.int .i64 v, s)) := by
  unfold numP
  by_cases h : 0 ≤ n
  case neg =>
    rw [if_neg (by omega)]
    refine ispec56 ?_
    simp only [x56, enum, jobO, j00, j01, j02, j03, j04, j05, j06, j07, j08, j09, j0a, j0b, j0c, j0d, j0e, j0f, j0g, j0h, j0i, j0j, j0k, j0l, j0m, j0n, j0o, j0p, j0q, j0r, j0s, j0t, j3k, j3l, j3m, j3n, j3o, j3p, setAll, j3q, j3r, j3s, j3t, j3u, j3v, j3w, j3x, j3y, j3z, j40, j41, j42, j43, j44, j45, j46, j47, j48, j49, j4a, j4b, j4c, j4d, j4e, j4f, j4g, j4h, j4i, j4j, j4k, j4l, j4m, j4n, j4o, j4p, j4q, j4r, j4s, j4t, j4u, j4v, j4w, j4x, j4y, j4z, j50, j51, j52, j53, j54, j55, j56, j57, Bool.not_true, Bool.not_false, Bool.true_and, Bool.and_true, Bool.false_and, Bool.and_false, Bool.true_or, Bool.or_true, Bool.false_or, Bool.or_false, cond_true, cond_false, aAllocN, aIndex, xLoad, xStore, xField, xFA, xIA, xLen, xMM, xAlloc, xIface, xInt, xStr, xIs, xBin, xAgg, xUn, xPick, xExt, knd, fls, ifc, isBoolK, isPtrK, isFuncK, isIfK, j58, j59, Nat.reduceBEq, eq_self, j5a, j5b, j5c, j5d, j5e, j5f, j5g, j5h, j5i, j5j, j5k, j5l, j5m, j5n, j5o, j5p, j5q, j5r, j5s, j5t, j5u, j5v, j5w, j5x, j5y, j5z, j60, j61, j62, j63, j64, j65, j66, j67, j68, j69, j6a, j6b, j6c, j6d, j6e, j6f, j6g, j6h, j6i, j6j, j6k, j6l, j6m, j6n, splice, List.size_toArray, decide_true, decide_false, Nat.reduceLeDiff, List.getD_cons_zero, List.getD_cons_succ, List.drop_succ_cons, List.drop_zero, List.take_succ_cons, List.take_zero, List.take_nil, List.drop_nil, Bool.false_eq_true, List.length_map, List.length_cons, List.length_nil, List.append_nil, List.nil_append, List.cons_append, List.getElem?_cons_succ, List.getElem?_cons_zero, List.length_append, List.set_cons_succ, List.set_cons_zero, List.map_cons, List.map_nil, if_true, if_false, Nat.reduceEqDiff, Nat.reduceAdd, Nat.reduceLT, reduceIte, true_and, and_true, and_self, Nat.zero_add, Nat.add_zero, ge_iff_le, gt_iff_lt, List.filter_cons, List.filter_nil, List.replicate_zero, List.replicate_succ, List.reverse_cons, List.reverse_nil, Option.map_some, Option.map_none, ti3, ti32, ti66, ti68, h, numB_def, const_numB]
    refine fun_pan isfn32 (spec32 false n numB) ?_
    simp only [j00, j01, j02, j03, j04, j05, j06, j07, j08, j09, j0a, j0b, j0c, j0d, j0e, j0f, j0g, j0h, j0i, j0j, j0k, j0l, j0m, j0n, j0o, j0p, j0q, j0r, j0s, j0t, j3k, j3l, j3m, j3n, j3o, j3p, setAll, j3q, j3r, j3s, j3t, j3u, j3v, j3w, j3x, j3y, j3z, j40, j41, j42, j43, j44, j45, j46, j47, j48, j49, j4a, j4b, j4c, j4d, j4e, j4f, j4g, j4h, j4i, j4j, j4k, j4l, j4m, j4n, j4o, j4p, j4q, j4r, j4s, j4t, j4u, j4v, j4w, j4x, j4y, j4z, j50, j51, j52, j53, j54, j55, j56, j57, Bool.not_true, Bool.not_false, Bool.true_and, Bool.and_true, Bool.false_and, Bool.and_false, Bool.true_or, Bool.or_true, Bool.false_or, Bool.or_false, cond_true, cond_false, aAllocN, aIndex, xLoad, xStore, xField, xFA, xIA, xLen, xMM, xAlloc, xIface, xInt, xStr, xIs, xBin, xAgg, xUn, xPick, xExt, knd, fls, ifc, isBoolK, isPtrK, isFuncK, isIfK, j58, j59, Nat.reduceBEq, eq_self, j5a, j5b, j5c, j5d, j5e, j5f, j5g, j5h, j5i, j5j, j5k, j5l, j5m, j5n, j5o, j5p, j5q, j5r, j5s, j5t, j5u, j5v, j5w, j5x, j5y, j5z, j60, j61, j62, j63, j64, j65, j66, j67, j68, j69, j6a, j6b, j6c, j6d, j6e, j6f, j6g, j6h, j6i, j6j, j6k, j6l, j6m, j6n, splice, List.size_toArray, decide_true, decide_false, Nat.reduceLeDiff, List.getD_cons_zero, List.getD_cons_succ, List.drop_succ_cons, List.drop_zero, List.take_succ_cons, List.take_zero, List.take_nil, List.drop_nil, Bool.false_eq_true, List.length_map, List.length_cons, List.length_nil, List.append_nil, List.nil_append, List.cons_append, List.getElem?_cons_succ, List.getElem?_cons_zero, List.length_append, List.set_cons_succ, List.set_cons_zero, List.map_cons, List.map_nil, if_true, if_false, Nat.reduceEqDiff, Nat.reduceAdd, Nat.reduceLT, reduceIte, true_and, and_true, and_self, Nat.zero_add, Nat.add_zero, ge_iff_le, gt_iff_lt, List.filter_cons, List.filter_nil, List.replicate_zero, List.replicate_succ, List.reverse_cons, List.reverse_nil, Option.map_some, Option.map_none]
    exact kpan_at [0] [0] false (by simp) (by simp) (by simp)
  by_cases h' : n < st.length
  case neg =>
    rw [if_neg (by omega)]
    refine ispec56 ?_
    simp only [x56, enum, jobO, j00, j01, j02, j03, j04, j05, j06, j07, j08, j09, j0a, j0b, j0c, j0d, j0e, j0f, j0g, j0h, j0i, j0j, j0k, j0l, j0m, j0n, j0o, j0p, j0q, j0r, j0s, j0t, j3k, j3l, j3m, j3n, j3o, j3p, setAll, j3q, j3r, j3s, j3t, j3u, j3v, j3w, j3x, j3y, j3z, j40, j41, j42, j43, j44, j45, j46, j47, j48, j49, j4a, j4b, j4c, j4d, j4e, j4f, j4g, j4h, j4i, j4j, j4k, j4l, j4m, j4n, j4o, j4p, j4q, j4r, j4s, j4t, j4u, j4v, j4w, j4x, j4y, j4z, j50, j51, j52, j53, j54, j55, j56, j57, Bool.not_true, Bool.not_false, Bool.true_and, Bool.and_true, Bool.false_and, Bool.and_false, Bool.true_or, Bool.or_true, Bool.false_or, Bool.or_false, cond_true, cond_false, aAllocN, aIndex, xLoad, xStore, xField, xFA, xIA, xLen, xMM, xAlloc, xIface, xInt, xStr, xIs, xBin, xAgg, xUn, xPick, xExt, knd, fls, ifc, isBoolK, isPtrK, isFuncK, isIfK, j58, j59, Nat.reduceBEq, eq_self, j5a, j5b, j5c, j5d, j5e, j5f, j5g, j5h, j5i, j5j, j5k, j5l, j5m, j5n, j5o, j5p, j5q, j5r, j5s, j5t, j5u, j5v, j5w, j5x, j5y, j5z, j60, j61, j62, j63, j64, j65, j66, j67, j68, j69, j6a, j6b, j6c, j6d, j6e, j6f, j6g, j6h, j6i, j6j, j6k, j6l, j6m, j6n, splice, List.size_toArray, decide_true, decide_false, Nat.reduceLeDiff, List.getD_cons_zero, List.getD_cons_succ, List.drop_succ_cons, List.drop_zero, List.take_succ_cons, List.take_zero, List.take_nil, List.drop_nil, Bool.false_eq_true, List.length_map, List.length_cons, List.length_nil, List.append_nil, List.nil_append, List.cons_append, List.getElem?_cons_succ, List.getElem?_cons_zero, List.length_append, List.set_cons_succ, List.set_cons_zero, List.map_cons, List.map_nil, if_true, if_false, Nat.reduceEqDiff, Nat.reduceAdd, Nat.reduceLT, reduceIte, true_and, and_true, and_self, Nat.zero_add, Nat.add_zero, ge_iff_le, gt_iff_lt, List.filter_cons, List.filter_nil, List.replicate_zero, List.replicate_succ, List.reverse_cons, List.reverse_nil, Option.map_some, Option.map_none, ti3, ti32, ti66, ti68, h, h', numB_def, const_numB]
    refine fun_pan isfn32 (spec32 false n numB) ?_
    simp only [j00, j01, j02, j03, j04, j05, j06, j07, j08, j09, j0a, j0b, j0c, j0d, j0e, j0f, j0g, j0h, j0i, j0j, j0k, j0l, j0m, j0n, j0o, j0p, j0q, j0r, j0s, j0t, j3k, j3l, j3m, j3n, j3o, j3p, setAll, j3q, j3r, j3s, j3t, j3u, j3v, j3w, j3x, j3y, j3z, j40, j41, j42, j43, j44, j45, j46, j47, j48, j49, j4a, j4b, j4c, j4d, j4e, j4f, j4g, j4h, j4i, j4j, j4k, j4l, j4m, j4n, j4o, j4p, j4q, j4r, j4s, j4t, j4u, j4v, j4w, j4x, j4y, j4z, j50, j51, j52, j53, j54, j55, j56, j57, Bool.not_true, Bool.not_false, Bool.true_and, Bool.and_true, Bool.false_and, Bool.and_false, Bool.true_or, Bool.or_true, Bool.false_or, Bool.or_false, cond_true, cond_false, aAllocN, aIndex, xLoad, xStore, xField, xFA, xIA, xLen, xMM, xAlloc, xIface, xInt, xStr, xIs, xBin, xAgg, xUn, xPick, xExt, knd, fls, ifc, isBoolK, isPtrK, isFuncK, isIfK, j58, j59, Nat.reduceBEq, eq_self, j5a, j5b, j5c, j5d, j5e, j5f, j5g, j5h, j5i, j5j, j5k, j5l, j5m, j5n, j5o, j5p, j5q, j5r, j5s, j5t, j5u, j5v, j5w, j5x, j5y, j5z, j60, j61, j62, j63, j64, j65, j66, j67, j68, j69, j6a, j6b, j6c, j6d, j6e, j6f, j6g, j6h, j6i, j6j, j6k, j6l, j6m, j6n, splice, List.size_toArray, decide_true, decide_false, Nat.reduceLeDiff, List.getD_cons_zero, List.getD_cons_succ, List.drop_succ_cons, List.drop_zero, List.take_succ_cons, List.take_zero, List.take_nil, List.drop_nil, Bool.false_eq_true, List.length_map, List.length_cons, List.length_nil, List.append_nil, List.nil_append, List.cons_append, List.getElem?_cons_succ, List.getElem?_cons_zero, List.length_append, List.set_cons_succ, List.set_cons_zero, List.map_cons, List.map_nil, if_true, if_false, Nat.reduceEqDiff, Nat.reduceAdd, Nat.reduceLT, reduceIte, true_and, and_true, and_self, Nat.zero_add, Nat.add_zero, ge_iff_le, gt_iff_lt, List.filter_cons, List.filter_nil, List.replicate_zero, List.replicate_succ, List.reverse_cons, List.reverse_nil, Option.map_some, Option.map_none]
    exact kpan_at [0] [0] false (by simp) (by simp) (by simp)
  rw [if_pos ⟨h, h'⟩]
  have hn : n.toNat < st.length := by omega
  refine ispec56 ?_
  simp only [x56, enum, jobO, j00, j01, j02, j03, j04, j05, j06, j07, j08, j09, j0a, j0b, j0c, j0d, j0e, j0f, j0g, j0h, j0i, j0j, j0k, j0l, j0m, j0n, j0o, j0p, j0q, j0r, j0s, j0t, j3k, j3l, j3m, j3n, j3o, j3p, setAll, j3q, j3r, j3s, j3t, j3u, j3v, j3w, j3x, j3y, j3z, j40, j41, j42, j43, j44, j45, j46, j47, j48, j49, j4a, j4b, j4c, j4d, j4e, j4f, j4g, j4h, j4i, j4j, j4k, j4l, j4m, j4n, j4o, j4p, j4q, j4r, j4s, j4t, j4u, j4v, j4w, j4x, j4y, j4z, j50, j51, j52, j53, j54, j55, j56, j57, Bool.not_true, Bool.not_false, Bool.true_and, Bool.and_true, Bool.false_and, Bool.and_false, Bool.true_or, Bool.or_true, Bool.false_or, Bool.or_false, cond_true, cond_false, aAllocN, aIndex, xLoad, xStore, xField, xFA, xIA, xLen, xMM, xAlloc, xIface, xInt, xStr, xIs, xBin, xAgg, xUn, xPick, xExt, knd, fls, ifc, isBoolK, isPtrK, isFuncK, isIfK, j58, j59, Nat.reduceBEq, eq_self, j5a, j5b, j5c, j5d, j5e, j5f, j5g, j5h, j5i, j5j, j5k, j5l, j5m, j5n, j5o, j5p, j5q, j5r, j5s, j5t, j5u, j5v, j5w, j5x, j5y, j5z, j60, j61, j62, j63, j64, j65, j66, j67, j68, j69, j6a, j6b, j6c, j6d, j6e, j6f, j6g, j6h, j6i, j6j, j6k, j6l, j6m, j6n, splice, List.size_toArray, decide_true, decide_false, Nat.reduceLeDiff, List.getD_cons_zero, List.getD_cons_succ, List.drop_succ_cons, List.drop_zero, List.take_succ_cons, List.take_zero, List.take_nil, List.drop_nil, Bool.false_eq_true, List.length_map, List.length_cons, List.length_nil, List.append_nil, List.nil_append, List.cons_append, List.getElem?_cons_succ, List.getElem?_cons_zero, List.length_append, List.set_cons_succ, List.set_cons_zero, List.map_cons, List.map_nil, if_true, if_false, Nat.reduceEqDiff, Nat.reduceAdd, Nat.reduceLT, reduceIte, true_and, and_true, and_self, Nat.zero_add, Nat.add_zero, ge_iff_le, gt_iff_lt, List.filter_cons, List.filter_nil, List.replicate_zero, List.replicate_succ, List.reverse_cons, List.reverse_nil, Option.map_some, Option.map_none, ti3, ti32, ti66, ti68, h, h', numB_def, const_numB]
  refine fun_ret isfn32 (spec32 true n numB) fun _ => ?_
  simp only [j00, j01, j02, j03, j04, j05, j06, j07, j08, j09, j0a, j0b, j0c, j0d, j0e, j0f, j0g, j0h, j0i, j0j, j0k, j0l, j0m, j0n, j0o, j0p, j0q, j0r, j0s, j0t, j3k, j3l, j3m, j3n, j3o, j3p, setAll, j3q, j3r, j3s, j3t, j3u, j3v, j3w, j3x, j3y, j3z, j40, j41, j42, j43, j44, j45, j46, j47, j48, j49, j4a, j4b, j4c, j4d, j4e, j4f, j4g, j4h, j4i, j4j, j4k, j4l, j4m, j4n, j4o, j4p, j4q, j4r, j4s, j4t, j4u, j4v, j4w, j4x, j4y, j4z, j50, j51, j52, j53, j54, j55, j56, j57, Bool.not_true, Bool.not_false, Bool.true_and, Bool.and_true, Bool.false_and, Bool.and_false, Bool.true_or, Bool.or_true, Bool.false_or, Bool.or_false, cond_true, cond_false, aAllocN, aIndex, xLoad, xStore, xField, xFA, xIA, xLen, xMM, xAlloc, xIface, xInt, xStr, xIs, xBin, xAgg, xUn, xPick, xExt, knd, fls, ifc, isBoolK, isPtrK, isFuncK, isIfK, j58, j59, Nat.reduceBEq, eq_self, j5a, j5b, j5c, j5d, j5e, j5f, j5g, j5h, j5i, j5j, j5k, j5l, j5m, j5n, j5o, j5p, j5q, j5r, j5s, j5t, j5u, j5v, j5w, j5x, j5y, j5z, j60, j61, j62, j63, j64, j65, j66, j67, j68, j69, j6a, j6b, j6c, j6d, j6e, j6f, j6g, j6h, j6i, j6j, j6k, j6l, j6m, j6n, splice, List.size_toArray, decide_true, decide_false, Nat.reduceLeDiff, List.getD_cons_zero, List.getD_cons_succ, List.drop_succ_cons, List.drop_zero, List.take_succ_cons, List.take_zero, List.take_nil, List.drop_nil, Bool.false_eq_true, List.length_map, List.length_cons, List.length_nil, List.append_nil, List.nil_append, List.cons_append, List.getElem?_cons_succ, List.getElem?_cons_zero, List.length_append, List.set_cons_succ, List.set_cons_zero, List.map_cons, List.map_nil, if_true, if_false, Nat.reduceEqDiff, Nat.reduceAdd, Nat.reduceLT, reduceIte, true_and, and_true, and_self, Nat.zero_add, Nat.add_zero, ge_iff_le, gt_iff_lt, List.filter_cons, List.filter_nil, List.replicate_zero, List.replicate_succ, List.reverse_cons, List.reverse_nil, Option.map_some, Option.map_none, ti3, ti32, ti66, ti68, h, h', getD_map hn, encI]
  refine kret_keep [0] rfl (by simp) (by simp) ?_
  simp [List.getD_eq_getElem?_getD, hn]

def parP (ps : List At) (t : BA) : Except Er BA := match ps.find? fun p => decide (p.1 = t) with
  | some p => .ok p.2
  | none => .error (t, 0)
theorem find_at {α : Type} {q : α → Bool} {l : List α} {i : Nat} (h : i < l.length) (hn : (l.take i).find? q = none) : l.find? q = if q l[i] then some l[i] else (l.drop (i + 1)).find? q := by
  conv => lhs; rw [← List.take_append_drop i l, List.drop_eq_getElem_cons h]
  rw [List.find?_append, hn, List.find?_cons]
  cases q l[i] <;> rfl
theorem find_take {α : Type} {q : α → Bool} {l : List α} {i : Nat} (h : i < l.length) (hn : (l.take i).find? q = none) (hq : q l[i] = false) : (l.take (i + 1)).find? q = none := by
  rw [List.take_succ_eq_append_getElem h, List.find?_append, hn]
  simp [hq]
theorem spec57 (st : List Int) (ps : List At) (s : Int) (t : BA) : JSpec 57 [.ptr 0 0, .str t] st ps s ((parP ps t).map fun v => (.str v, s)) := by
  have key : ∀ {out : Out} {L' : List AObj}, (∀ (i : Nat) (h : i < ps.length), (ps.take i).find? (fun p => decide (p.1 = t)) = none → ps[i].1 = t → out = .ret (.str ps[i].2) ∧ L' = [jobO st ps s]) →
      (ps.find? (fun p => decide (p.1 = t)) = none → out = .pan (flt (t, 0)) ∧ L' = [.dead]) → ISpec Tryd.prog 57 [.ptr 0 0, .str t] [jobO st ps s] out L' := by
    intro out L' hyes hno
    refine ispec_bdo fun _ hob => ispec57 ?_
    have hlen : ps.length ≤ 9223372036854775807 := by
      have := hob 0 _ rfl
      simp only [PV.bdL, PV.bd, List.length_map] at this
      exact this.2.1.1
    clear hob
    simp only [x57, enum, jobO, j00, j01, j02, j03, j04, j05, j06, j07, j08, j09, j0a, j0b, j0c, j0d, j0e, j0f, j0g, j0h, j0i, j0j, j0k, j0l, j0m, j0n, j0o, j0p, j0q, j0r, j0s, j0t, j3k, j3l, j3m, j3n, j3o, j3p, setAll, j3q, j3r, j3s, j3t, j3u, j3v, j3w, j3x, j3y, j3z, j40, j41, j42, j43, j44, j45, j46, j47, j48, j49, j4a, j4b, j4c, j4d, j4e, j4f, j4g, j4h, j4i, j4j, j4k, j4l, j4m, j4n, j4o, j4p, j4q, j4r, j4s, j4t, j4u, j4v, j4w, j4x, j4y, j4z, j50, j51, j52, j53, j54, j55, j56, j57, Bool.not_true, Bool.not_false, Bool.true_and, Bool.and_true, Bool.false_and, Bool.and_false, Bool.true_or, Bool.or_true, Bool.false_or, Bool.or_false, cond_true, cond_false, aAllocN, aIndex, xLoad, xStore, xField, xFA, xIA, xLen, xMM, xAlloc, xIface, xInt, xStr, xIs, xBin, xAgg, xUn, xPick, xExt, knd, fls, ifc, isBoolK, isPtrK, isFuncK, isIfK, j58, j59, Nat.reduceBEq, eq_self, j5a, j5b, j5c, j5d, j5e, j5f, j5g, j5h, j5i, j5j, j5k, j5l, j5m, j5n, j5o, j5p, j5q, j5r, j5s, j5t, j5u, j5v, j5w, j5x, j5y, j5z, j60, j61, j62, j63, j64, j65, j66, j67, j68, j69, j6a, j6b, j6c, j6d, j6e, j6f, j6g, j6h, j6i, j6j, j6k, j6l, j6m, j6n, splice, List.size_toArray, decide_true, decide_false, Nat.reduceLeDiff, List.getD_cons_zero, List.getD_cons_succ, List.drop_succ_cons, List.drop_zero, List.take_succ_cons, List.take_zero, List.take_nil, List.drop_nil, Bool.false_eq_true, List.length_map, List.length_cons, List.length_nil, List.append_nil, List.nil_append, List.cons_append, List.getElem?_cons_succ, List.getElem?_cons_zero, List.length_append, List.set_cons_succ, List.set_cons_zero, List.map_cons, List.map_nil, if_true, if_false, Nat.reduceEqDiff, Nat.reduceAdd, Nat.reduceLT, reduceIte, true_and, and_true, and_self, Nat.zero_add, Nat.add_zero, ge_iff_le, gt_iff_lt, List.filter_cons, List.filter_nil, List.replicate_zero, List.replicate_succ, List.reverse_cons, List.reverse_nil, Option.map_some, Option.map_none, ti3, ti38, ti66, ti68, ti9, ti104]
    refine aw_loop (fun i : Nat => ⟨[(1, .str t), (10, .slice .dead (ps.map encA)), (11, .int .i64 ps.length), (12, .int .i64 i)], [jobO st ps s]⟩) (fun i => i ≤ ps.length ∧ (ps.take i).find? (fun p => decide (p.1 = t)) = none) (fun i => ps.length - i) 0 (by simp) (.to [0] (by simp) (by simp [jobO]) (by simp)) ?_
    intro i ⟨hi, hn⟩
    by_cases h : i < ps.length
    · have hr : (0 : Int) ≤ (i : Int) := by omega
      simp only [jobO, j00, j01, j02, j03, j04, j05, j06, j07, j08, j09, j0a, j0b, j0c, j0d, j0e, j0f, j0g, j0h, j0i, j0j, j0k, j0l, j0m, j0n, j0o, j0p, j0q, j0r, j0s, j0t, j3k, j3l, j3m, j3n, j3o, j3p, setAll, j3q, j3r, j3s, j3t, j3u, j3v, j3w, j3x, j3y, j3z, j40, j41, j42, j43, j44, j45, j46, j47, j48, j49, j4a, j4b, j4c, j4d, j4e, j4f, j4g, j4h, j4i, j4j, j4k, j4l, j4m, j4n, j4o, j4p, j4q, j4r, j4s, j4t, j4u, j4v, j4w, j4x, j4y, j4z, j50, j51, j52, j53, j54, j55, j56, j57, Bool.not_true, Bool.not_false, Bool.true_and, Bool.and_true, Bool.false_and, Bool.and_false, Bool.true_or, Bool.or_true, Bool.false_or, Bool.or_false, cond_true, cond_false, aAllocN, aIndex, xLoad, xStore, xField, xFA, xIA, xLen, xMM, xAlloc, xIface, xInt, xStr, xIs, xBin, xAgg, xUn, xPick, xExt, knd, fls, ifc, isBoolK, isPtrK, isFuncK, isIfK, j58, j59, Nat.reduceBEq, eq_self, j5a, j5b, j5c, j5d, j5e, j5f, j5g, j5h, j5i, j5j, j5k, j5l, j5m, j5n, j5o, j5p, j5q, j5r, j5s, j5t, j5u, j5v, j5w, j5x, j5y, j5z, j60, j61, j62, j63, j64, j65, j66, j67, j68, j69, j6a, j6b, j6c, j6d, j6e, j6f, j6g, j6h, j6i, j6j, j6k, j6l, j6m, j6n, splice, List.size_toArray, decide_true, decide_false, Nat.reduceLeDiff, List.getD_cons_zero, List.getD_cons_succ, List.drop_succ_cons, List.drop_zero, List.take_succ_cons, List.take_zero, List.take_nil, List.drop_nil, Bool.false_eq_true, List.length_map, List.length_cons, List.length_nil, List.append_nil, List.nil_append, List.cons_append, List.getElem?_cons_succ, List.getElem?_cons_zero, List.length_append, List.set_cons_succ, List.set_cons_zero, List.map_cons, List.map_nil, if_true, if_false, Nat.reduceEqDiff, Nat.reduceAdd, Nat.reduceLT, reduceIte, true_and, and_true, and_self, Nat.zero_add, Nat.add_zero, ge_iff_le, gt_iff_lt, List.filter_cons, List.filter_nil, List.replicate_zero, List.replicate_succ, List.reverse_cons, List.reverse_nil, Option.map_some, Option.map_none, ti3, ti38, ti104, ti9, hr, Int.toNat_natCast, getD_map h, Int.ofNat_lt, h, encA]
      by_cases hx : ps[i].1 = t
      · simp only [hx, j00, j01, j02, j03, j04, j05, j06, j07, j08, j09, j0a, j0b, j0c, j0d, j0e, j0f, j0g, j0h, j0i, j0j, j0k, j0l, j0m, j0n, j0o, j0p, j0q, j0r, j0s, j0t, j3k, j3l, j3m, j3n, j3o, j3p, setAll, j3q, j3r, j3s, j3t, j3u, j3v, j3w, j3x, j3y, j3z, j40, j41, j42, j43, j44, j45, j46, j47, j48, j49, j4a, j4b, j4c, j4d, j4e, j4f, j4g, j4h, j4i, j4j, j4k, j4l, j4m, j4n, j4o, j4p, j4q, j4r, j4s, j4t, j4u, j4v, j4w, j4x, j4y, j4z, j50, j51, j52, j53, j54, j55, j56, j57, Bool.not_true, Bool.not_false, Bool.true_and, Bool.and_true, Bool.false_and, Bool.and_false, Bool.true_or, Bool.or_true, Bool.false_or, Bool.or_false, cond_true, cond_false, aAllocN, aIndex, xLoad, xStore, xField, xFA, xIA, xLen, xMM, xAlloc, xIface, xInt, xStr, xIs, xBin, xAgg, xUn, xPick, xExt, knd, fls, ifc, isBoolK, isPtrK, isFuncK, isIfK, j58, j59, Nat.reduceBEq, eq_self, j5a, j5b, j5c, j5d, j5e, j5f, j5g, j5h, j5i, j5j, j5k, j5l, j5m, j5n, j5o, j5p, j5q, j5r, j5s, j5t, j5u, j5v, j5w, j5x, j5y, j5z, j60, j61, j62, j63, j64, j65, j66, j67, j68, j69, j6a, j6b, j6c, j6d, j6e, j6f, j6g, j6h, j6i, j6j, j6k, j6l, j6m, j6n, splice, List.size_toArray, decide_true, decide_false, Nat.reduceLeDiff, List.getD_cons_zero, List.getD_cons_succ, List.drop_succ_cons, List.drop_zero, List.take_succ_cons, List.take_zero, List.take_nil, List.drop_nil, Bool.false_eq_true, List.length_map, List.length_cons, List.length_nil, List.append_nil, List.nil_append, List.cons_append, List.getElem?_cons_succ, List.getElem?_cons_zero, List.length_append, List.set_cons_succ, List.set_cons_zero, List.map_cons, List.map_nil, if_true, if_false, Nat.reduceEqDiff, Nat.reduceAdd, Nat.reduceLT, reduceIte, true_and, and_true, and_self, Nat.zero_add, Nat.add_zero, ge_iff_le, gt_iff_lt, List.filter_cons, List.filter_nil, List.replicate_zero, List.replicate_succ, List.reverse_cons, List.reverse_nil, Option.map_some, Option.map_none, ti9, ti104]
        obtain ⟨rfl, rfl⟩ := hyes i h hn hx
        exact kret_keep [0] rfl (by simp) (by simp [jobO]) (by simp)
      · simp only [hx, j00, j01, j02, j03, j04, j05, j06, j07, j08, j09, j0a, j0b, j0c, j0d, j0e, j0f, j0g, j0h, j0i, j0j, j0k, j0l, j0m, j0n, j0o, j0p, j0q, j0r, j0s, j0t, j3k, j3l, j3m, j3n, j3o, j3p, setAll, j3q, j3r, j3s, j3t, j3u, j3v, j3w, j3x, j3y, j3z, j40, j41, j42, j43, j44, j45, j46, j47, j48, j49, j4a, j4b, j4c, j4d, j4e, j4f, j4g, j4h, j4i, j4j, j4k, j4l, j4m, j4n, j4o, j4p, j4q, j4r, j4s, j4t, j4u, j4v, j4w, j4x, j4y, j4z, j50, j51, j52, j53, j54, j55, j56, j57, Bool.not_true, Bool.not_false, Bool.true_and, Bool.and_true, Bool.false_and, Bool.and_false, Bool.true_or, Bool.or_true, Bool.false_or, Bool.or_false, cond_true, cond_false, aAllocN, aIndex, xLoad, xStore, xField, xFA, xIA, xLen, xMM, xAlloc, xIface, xInt, xStr, xIs, xBin, xAgg, xUn, xPick, xExt, knd, fls, ifc, isBoolK, isPtrK, isFuncK, isIfK, j58, j59, Nat.reduceBEq, eq_self, j5a, j5b, j5c, j5d, j5e, j5f, j5g, j5h, j5i, j5j, j5k, j5l, j5m, j5n, j5o, j5p, j5q, j5r, j5s, j5t, j5u, j5v, j5w, j5x, j5y, j5z, j60, j61, j62, j63, j64, j65, j66, j67, j68, j69, j6a, j6b, j6c, j6d, j6e, j6f, j6g, j6h, j6i, j6j, j6k, j6l, j6m, j6n, splice, List.size_toArray, decide_true, decide_false, Nat.reduceLeDiff, List.getD_cons_zero, List.getD_cons_succ, List.drop_succ_cons, List.drop_zero, List.take_succ_cons, List.take_zero, List.take_nil, List.drop_nil, Bool.false_eq_true, List.length_map, List.length_cons, List.length_nil, List.append_nil, List.nil_append, List.cons_append, List.getElem?_cons_succ, List.getElem?_cons_zero, List.length_append, List.set_cons_succ, List.set_cons_zero, List.map_cons, List.map_nil, if_true, if_false, Nat.reduceEqDiff, Nat.reduceAdd, Nat.reduceLT, reduceIte, true_and, and_true, and_self, Nat.zero_add, Nat.add_zero, ge_iff_le, gt_iff_lt, List.filter_cons, List.filter_nil, List.replicate_zero, List.replicate_succ, List.reverse_cons, List.reverse_nil, Option.map_some, Option.map_none, ti3, wrapS i _ h hlen]
        exact ⟨i + 1, ⟨by omega, find_take h hn (by simp [hx])⟩, .to [0] (by simp) (by simp [jobO]) (by simp), by omega⟩
    · simp only [jobO, j00, j01, j02, j03, j04, j05, j06, j07, j08, j09, j0a, j0b, j0c, j0d, j0e, j0f, j0g, j0h, j0i, j0j, j0k, j0l, j0m, j0n, j0o, j0p, j0q, j0r, j0s, j0t, j3k, j3l, j3m, j3n, j3o, j3p, setAll, j3q, j3r, j3s, j3t, j3u, j3v, j3w, j3x, j3y, j3z, j40, j41, j42, j43, j44, j45, j46, j47, j48, j49, j4a, j4b, j4c, j4d, j4e, j4f, j4g, j4h, j4i, j4j, j4k, j4l, j4m, j4n, j4o, j4p, j4q, j4r, j4s, j4t, j4u, j4v, j4w, j4x, j4y, j4z, j50, j51, j52, j53, j54, j55, j56, j57, Bool.not_true, Bool.not_false, Bool.true_and, Bool.and_true, Bool.false_and, Bool.and_false, Bool.true_or, Bool.or_true, Bool.false_or, Bool.or_false, cond_true, cond_false, aAllocN, aIndex, xLoad, xStore, xField, xFA, xIA, xLen, xMM, xAlloc, xIface, xInt, xStr, xIs, xBin, xAgg, xUn, xPick, xExt, knd, fls, ifc, isBoolK, isPtrK, isFuncK, isIfK, j58, j59, Nat.reduceBEq, eq_self, j5a, j5b, j5c, j5d, j5e, j5f, j5g, j5h, j5i, j5j, j5k, j5l, j5m, j5n, j5o, j5p, j5q, j5r, j5s, j5t, j5u, j5v, j5w, j5x, j5y, j5z, j60, j61, j62, j63, j64, j65, j66, j67, j68, j69, j6a, j6b, j6c, j6d, j6e, j6f, j6g, j6h, j6i, j6j, j6k, j6l, j6m, j6n, splice, List.size_toArray, decide_true, decide_false, Nat.reduceLeDiff, List.getD_cons_zero, List.getD_cons_succ, List.drop_succ_cons, List.drop_zero, List.take_succ_cons, List.take_zero, List.take_nil, List.drop_nil, Bool.false_eq_true, List.length_map, List.length_cons, List.length_nil, List.append_nil, List.nil_append, List.cons_append, List.getElem?_cons_succ, List.getElem?_cons_zero, List.length_append, List.set_cons_succ, List.set_cons_zero, List.map_cons, List.map_nil, if_true, if_false, Nat.reduceEqDiff, Nat.reduceAdd, Nat.reduceLT, reduceIte, true_and, and_true, and_self, Nat.zero_add, Nat.add_zero, ge_iff_le, gt_iff_lt, List.filter_cons, List.filter_nil, List.replicate_zero, List.replicate_succ, List.reverse_cons, List.reverse_nil, Option.map_some, Option.map_none, ti3, Int.ofNat_lt, h]
      obtain ⟨rfl, rfl⟩ := hno (by rw [List.take_of_length_le (by omega)] at hn; exact hn)
      refine fun_pan isfn32 (spec32 false 0 t) ?_
      simp only [j00, j01, j02, j03, j04, j05, j06, j07, j08, j09, j0a, j0b, j0c, j0d, j0e, j0f, j0g, j0h, j0i, j0j, j0k, j0l, j0m, j0n, j0o, j0p, j0q, j0r, j0s, j0t, j3k, j3l, j3m, j3n, j3o, j3p, setAll, j3q, j3r, j3s, j3t, j3u, j3v, j3w, j3x, j3y, j3z, j40, j41, j42, j43, j44, j45, j46, j47, j48, j49, j4a, j4b, j4c, j4d, j4e, j4f, j4g, j4h, j4i, j4j, j4k, j4l, j4m, j4n, j4o, j4p, j4q, j4r, j4s, j4t, j4u, j4v, j4w, j4x, j4y, j4z, j50, j51, j52, j53, j54, j55, j56, j57, Bool.not_true, Bool.not_false, Bool.true_and, Bool.and_true, Bool.false_and, Bool.and_false, Bool.true_or, Bool.or_true, Bool.false_or, Bool.or_false, cond_true, cond_false, aAllocN, aIndex, xLoad, xStore, xField, xFA, xIA, xLen, xMM, xAlloc, xIface, xInt, xStr, xIs, xBin, xAgg, xUn, xPick, xExt, knd, fls, ifc, isBoolK, isPtrK, isFuncK, isIfK, j58, j59, Nat.reduceBEq, eq_self, j5a, j5b, j5c, j5d, j5e, j5f, j5g, j5h, j5i, j5j, j5k, j5l, j5m, j5n, j5o, j5p, j5q, j5r, j5s, j5t, j5u, j5v, j5w, j5x, j5y, j5z, j60, j61, j62, j63, j64, j65, j66, j67, j68, j69, j6a, j6b, j6c, j6d, j6e, j6f, j6g, j6h, j6i, j6j, j6k, j6l, j6m, j6n, splice, List.size_toArray, decide_true, decide_false, Nat.reduceLeDiff, List.getD_cons_zero, List.getD_cons_succ, List.drop_succ_cons, List.drop_zero, List.take_succ_cons, List.take_zero, List.take_nil, List.drop_nil, Bool.false_eq_true, List.length_map, List.length_cons, List.length_nil, List.append_nil, List.nil_append, List.cons_append, List.getElem?_cons_succ, List.getElem?_cons_zero, List.length_append, List.set_cons_succ, List.set_cons_zero, List.map_cons, List.map_nil, if_true, if_false, Nat.reduceEqDiff, Nat.reduceAdd, Nat.reduceLT, reduceIte, true_and, and_true, and_self, Nat.zero_add, Nat.add_zero, ge_iff_le, gt_iff_lt, List.filter_cons, List.filter_nil, List.replicate_zero, List.replicate_succ, List.reverse_cons, List.reverse_nil, Option.map_some, Option.map_none]
      exact kpan_at [0] [0] false (by simp) (by simp) (by simp)
  unfold parP
  cases hf : ps.find? fun p => decide (p.1 = t) with
  | none =>
    refine key (fun i h hn hx => ?_) fun _ => ⟨rfl, rfl⟩
    rw [find_at h hn] at hf
    simp [hx] at hf
  | some p =>
    refine key (fun i h hn hx => ?_) fun h => ?_
    · rw [find_at h hn] at hf
      simp [hx] at hf
      subst hf
      exact ⟨rfl, rfl⟩
    · rw [hf] at h; cases h
end Go.Proofs.YtlfngjemfpjegaaDoor.Px
