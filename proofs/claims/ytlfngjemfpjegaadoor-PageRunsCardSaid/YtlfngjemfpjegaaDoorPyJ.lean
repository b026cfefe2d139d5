/- strings.Trim at bytes below 128. -/
import Derived.Test.YtlfngjemfpjegaaDoorPyA
namespace Go.Proofs.YtlfngjemfpjegaaDoor.Px
open Go Go.RowKit Go.Proofs
set_option linter.unusedVariables false
set_option linter.unnecessarySimpa false
set_option linter.unusedSimpArgs false
set_option maxRecDepth 4000
def x95 : XCode :=
  (.seq
   (.reg [⟨some 4, none, Op.assign (Operand.const (Value.bool false)), false⟩])
   (.seq
    (.reg [⟨some 5, none, Op.move (Operand.tmp 0), false⟩,
      ⟨some 6, none, Op.move (Operand.tmp 1), false⟩,
      ⟨some 7, none, Op.nilCheck (Operand.tmp 5), false⟩,
      ⟨some 8, none, Op.indexAddr 125 (Operand.tmp 7) (Operand.tmp 6), false⟩,
      ⟨some 9, none, Op.load 4 (Operand.tmp 8), false⟩,
      ⟨some 4, none, Op.assign (Operand.tmp 9), false⟩])
    .ret))
theorem ispec95 {args : List PV} {L L' : List AObj} {out : Out} (h : aw Tryd.prog L.length 10 x95 (kfin Tryd.prog [.tmp 4] L.length 10 out L') ⟨enum 0 args, L⟩) : ISpec Tryd.prog 95 args L out L' :=
  ispec_of_aw mixd (fn := Tryd.f95) (x := x95) Tryd.func95 rfl (by kernel_rfl) (by kernel_rfl) rfl h
theorem isfn95 : isFn Tryd.prog 95 = true := by kernel_rfl

def x84 : XCode :=
  (.seq
   (.reg [⟨some 2, none, Op.alloc 125, false⟩,
     ⟨some 3, none, Op.assign (Operand.const (Value.bool false)), false⟩])
   (.seq
    (.seq
     (.reg [⟨some 4, none, Op.assign (Operand.const (Value.int IntKind.i64 0)), false⟩])
     (.block 0
      (.loop
       (.seq
        (.seq
         (.reg [⟨some 6, none, Op.move (Operand.tmp 4), false⟩,
           ⟨some 7, none, Op.move (Operand.tmp 0), false⟩,
           ⟨some 8, none, Op.call { callee := Callee.builtin Builtin.len, args := #[Operand.tmp 7], argTypes := #[9] }, false⟩,
           ⟨some 9, none, Op.binOp BinOp.lss 3 (Operand.tmp 6) (Operand.tmp 8) 3, false⟩])
         (.cond (Operand.tmp 9)
          .skip
          (.exit 0)))
        (.seq
         (.block 1
          (.seq
           (.reg [⟨some 12, none, Op.move (Operand.tmp 0), false⟩,
             ⟨some 13, none, Op.move (Operand.tmp 4), false⟩,
             ⟨some 14, none, Op.index 9 (Operand.tmp 12) (Operand.tmp 13), false⟩,
             ⟨some 5, none, Op.assign (Operand.tmp 14), false⟩])
           (.seq
            (.seq
             (.reg [⟨some 15, none, Op.move (Operand.tmp 5), false⟩,
               ⟨some 16, none, Op.binOp BinOp.geq 5 (Operand.tmp 15) (Operand.const (Value.int IntKind.u8 128)) 5, false⟩])
             (.cond (Operand.tmp 16)
              (.seq
               (.reg [⟨some 17, none, Op.load 125 (Operand.tmp 2), false⟩,
                 ⟨none, none, Op.store 125 (Operand.tmp 2) (Operand.tmp 17), false⟩,
                 ⟨some 3, none, Op.assign (Operand.const (Value.bool false)), false⟩])
               .ret)
              .skip))
            (.reg [⟨some 18, none, Op.move (Operand.tmp 5), false⟩,
              ⟨some 19, none, Op.indexAddr 125 (Operand.tmp 2) (Operand.tmp 18), false⟩,
              ⟨none, none, Op.store 4 (Operand.tmp 19) (Operand.const (Value.bool true)), false⟩]))))
         (.reg [⟨some 10, none, Op.move (Operand.tmp 4), false⟩,
           ⟨some 11, none, Op.binOp BinOp.add 3 (Operand.tmp 10) (Operand.const (Value.int IntKind.i64 1)) 3, false⟩,
           ⟨some 4, none, Op.assign (Operand.tmp 11), false⟩]))))))
    (.seq
     (.reg [⟨some 20, none, Op.load 125 (Operand.tmp 2), false⟩,
       ⟨none, none, Op.store 125 (Operand.tmp 2) (Operand.tmp 20), false⟩,
       ⟨some 3, none, Op.assign (Operand.const (Value.bool true)), false⟩])
     .ret)))
theorem ispec84 {args : List PV} {L L' : List AObj} {out : Out} (h : aw Tryd.prog L.length 21 x84 (kfin Tryd.prog [.cell 2 125, .tmp 3] L.length 21 out L') ⟨enum 0 args, L⟩) : ISpec Tryd.prog 84 args L out L' :=
  ispec_of_aw mixd (fn := Tryd.f84) (x := x84) Tryd.func84 rfl (by kernel_rfl) (by kernel_rfl) rfl h
theorem isfn84 : isFn Tryd.prog 84 = true := by kernel_rfl

def x85 : XCode :=
  (.seq
   (.reg [⟨some 4, none, Op.assign (Operand.const (Value.string { data := #[] })), false⟩])
   (.seq
    (.block 0
     (.loop
      (.seq
       (.seq
        (.reg [⟨some 5, none, Op.move (Operand.tmp 0), false⟩,
          ⟨some 6, none, Op.call { callee := Callee.builtin Builtin.len, args := #[Operand.tmp 5], argTypes := #[9] }, false⟩,
          ⟨some 7, none, Op.binOp BinOp.gtr 3 (Operand.tmp 6) (Operand.const (Value.int IntKind.i64 0)) 3, false⟩])
        (.cond (Operand.tmp 7)
         .skip
         (.exit 0)))
       (.block 1
        (.seq
         (.seq
          (.reg [⟨some 8, none, Op.move (Operand.tmp 1), false⟩,
            ⟨some 9, none, Op.move (Operand.tmp 0), false⟩,
            ⟨some 10, none, Op.index 9 (Operand.tmp 9) (Operand.const (Value.int IntKind.i64 0)), false⟩,
            ⟨some 11, none, Op.call { callee := Callee.value (Operand.func 95), args := #[Operand.tmp 8, Operand.tmp 10], argTypes := #[129, 5] }, false⟩,
            ⟨some 12, none, Op.unOp UnOp.not 4 (Operand.tmp 11), false⟩])
          (.cond (Operand.tmp 12)
           (.exit 0)
           .skip))
         (.reg [⟨some 13, none, Op.move (Operand.tmp 0), false⟩,
           ⟨some 14, none, Op.slice 9 (Operand.tmp 13) (some (Operand.const (Value.int IntKind.i64 1))) none none, false⟩,
           ⟨some 0, none, Op.assign (Operand.tmp 14), false⟩]))))))
    (.seq
     (.reg [⟨some 15, none, Op.move (Operand.tmp 0), false⟩,
       ⟨some 4, none, Op.assign (Operand.tmp 15), false⟩])
     .ret)))
theorem ispec85 {args : List PV} {L L' : List AObj} {out : Out} (h : aw Tryd.prog L.length 16 x85 (kfin Tryd.prog [.tmp 4] L.length 16 out L') ⟨enum 0 args, L⟩) : ISpec Tryd.prog 85 args L out L' :=
  ispec_of_aw mixd (fn := Tryd.f85) (x := x85) Tryd.func85 rfl (by kernel_rfl) (by kernel_rfl) rfl h
theorem isfn85 : isFn Tryd.prog 85 = true := by kernel_rfl

def x86 : XCode :=
  (.seq
   (.reg [⟨some 4, none, Op.assign (Operand.const (Value.string { data := #[] })), false⟩])
   (.seq
    (.block 0
     (.loop
      (.seq
       (.seq
        (.reg [⟨some 5, none, Op.move (Operand.tmp 0), false⟩,
          ⟨some 6, none, Op.call { callee := Callee.builtin Builtin.len, args := #[Operand.tmp 5], argTypes := #[9] }, false⟩,
          ⟨some 7, none, Op.binOp BinOp.gtr 3 (Operand.tmp 6) (Operand.const (Value.int IntKind.i64 0)) 3, false⟩])
        (.cond (Operand.tmp 7)
         .skip
         (.exit 0)))
       (.block 1
        (.seq
         (.seq
          (.reg [⟨some 8, none, Op.move (Operand.tmp 1), false⟩,
            ⟨some 9, none, Op.move (Operand.tmp 0), false⟩,
            ⟨some 10, none, Op.move (Operand.tmp 0), false⟩,
            ⟨some 11, none, Op.call { callee := Callee.builtin Builtin.len, args := #[Operand.tmp 10], argTypes := #[9] }, false⟩,
            ⟨some 12, none, Op.binOp BinOp.sub 3 (Operand.tmp 11) (Operand.const (Value.int IntKind.i64 1)) 3, false⟩,
            ⟨some 13, none, Op.index 9 (Operand.tmp 9) (Operand.tmp 12), false⟩,
            ⟨some 14, none, Op.call { callee := Callee.value (Operand.func 95), args := #[Operand.tmp 8, Operand.tmp 13], argTypes := #[129, 5] }, false⟩,
            ⟨some 15, none, Op.unOp UnOp.not 4 (Operand.tmp 14), false⟩])
          (.cond (Operand.tmp 15)
           (.exit 0)
           .skip))
         (.reg [⟨some 16, none, Op.move (Operand.tmp 0), false⟩,
           ⟨some 17, none, Op.move (Operand.tmp 0), false⟩,
           ⟨some 18, none, Op.call { callee := Callee.builtin Builtin.len, args := #[Operand.tmp 17], argTypes := #[9] }, false⟩,
           ⟨some 19, none, Op.binOp BinOp.sub 3 (Operand.tmp 18) (Operand.const (Value.int IntKind.i64 1)) 3, false⟩,
           ⟨some 20, none, Op.slice 9 (Operand.tmp 16) none (some (Operand.tmp 19)) none, false⟩,
           ⟨some 0, none, Op.assign (Operand.tmp 20), false⟩]))))))
    (.seq
     (.reg [⟨some 21, none, Op.move (Operand.tmp 0), false⟩,
       ⟨some 4, none, Op.assign (Operand.tmp 21), false⟩])
     .ret)))
theorem ispec86 {args : List PV} {L L' : List AObj} {out : Out} (h : aw Tryd.prog L.length 22 x86 (kfin Tryd.prog [.tmp 4] L.length 22 out L') ⟨enum 0 args, L⟩) : ISpec Tryd.prog 86 args L out L' :=
  ispec_of_aw mixd (fn := Tryd.f86) (x := x86) Tryd.func86 rfl (by kernel_rfl) (by kernel_rfl) rfl h
theorem isfn86 : isFn Tryd.prog 86 = true := by kernel_rfl

def x74 : XCode :=
  (.seq
   (.reg [⟨some 4, none, Op.assign (Operand.const (Value.string { data := #[] })), false⟩])
   (.seq
    (.seq
     (.reg [⟨some 7, none, Op.move (Operand.tmp 0), false⟩,
       ⟨some 8, none, Op.binOp BinOp.eql 9 (Operand.tmp 7) (Operand.const (Value.string { data := #[] })) 9, false⟩,
       ⟨some 9, none, Op.move (Operand.tmp 8), false⟩,
       ⟨some 10, some (9, false), Op.move (Operand.tmp 1), false⟩,
       ⟨some 11, some (9, false), Op.binOp BinOp.eql 9 (Operand.tmp 10) (Operand.const (Value.string { data := #[] })) 9, false⟩,
       ⟨some 12, none, Op.pick (Operand.tmp 9) (Operand.const (Value.bool true)) (Operand.tmp 11), false⟩])
     (.cond (Operand.tmp 12)
      (.seq
       (.reg [⟨some 13, none, Op.move (Operand.tmp 0), false⟩,
         ⟨some 4, none, Op.assign (Operand.tmp 13), false⟩])
       .ret)
      .skip))
    (.seq
     (.seq
      (.reg [⟨some 14, none, Op.move (Operand.tmp 1), false⟩,
        ⟨some 15, none, Op.call { callee := Callee.builtin Builtin.len, args := #[Operand.tmp 14], argTypes := #[9] }, false⟩,
        ⟨some 16, none, Op.binOp BinOp.eql 3 (Operand.tmp 15) (Operand.const (Value.int IntKind.i64 1)) 3, false⟩,
        ⟨some 17, none, Op.move (Operand.tmp 16), false⟩,
        ⟨some 18, some (17, true), Op.move (Operand.tmp 1), false⟩,
        ⟨some 19, some (17, true), Op.index 9 (Operand.tmp 18) (Operand.const (Value.int IntKind.i64 0)), false⟩,
        ⟨some 20, some (17, true), Op.binOp BinOp.lss 5 (Operand.tmp 19) (Operand.const (Value.int IntKind.u8 128)) 5, false⟩,
        ⟨some 21, none, Op.pick (Operand.tmp 17) (Operand.tmp 20) (Operand.const (Value.bool false)), false⟩])
      (.cond (Operand.tmp 21)
       (.seq
        (.dreg [⟨some 22, none, Op.move (Operand.tmp 0), false⟩,
          ⟨some 23, none, Op.move (Operand.tmp 1), false⟩,
          ⟨some 24, none, Op.index 9 (Operand.tmp 23) (Operand.const (Value.int IntKind.i64 0)), false⟩,
          ⟨some 25, none, Op.call { callee := Callee.value (Operand.func 83), args := #[Operand.tmp 22, Operand.tmp 24], argTypes := #[9, 5] }, false⟩,
          ⟨some 26, none, Op.move (Operand.tmp 1), false⟩,
          ⟨some 27, none, Op.index 9 (Operand.tmp 26) (Operand.const (Value.int IntKind.i64 0)), false⟩,
          ⟨some 28, none, Op.call { callee := Callee.value (Operand.func 82), args := #[Operand.tmp 25, Operand.tmp 27], argTypes := #[9, 5] }, false⟩,
          ⟨some 4, none, Op.assign (Operand.tmp 28), false⟩] [[], [], [1], [0, 2], [], [4], [3, 5, 3], [6, 6, 0, 1, 2, 3, 4, 5, 6]])
        .ret)
       .skip))
     (.seq
      (.seq
       (.reg [⟨some 30, none, Op.move (Operand.tmp 1), false⟩,
         ⟨some 31, none, Op.call { callee := Callee.value (Operand.func 84), args := #[Operand.tmp 30], argTypes := #[9] }, false⟩,
         ⟨some 29, none, Op.move (Operand.tmp 31), false⟩,
         ⟨some 32, none, Op.extract (Operand.tmp 29) 0, false⟩,
         ⟨some 33, none, Op.extract (Operand.tmp 29) 1, false⟩,
         ⟨some 5, none, Op.alloc 125, false⟩,
         ⟨none, none, Op.store 125 (Operand.tmp 5) (Operand.tmp 32), false⟩,
         ⟨some 6, none, Op.assign (Operand.tmp 33), false⟩])
       (.seq
        (.reg [⟨some 34, none, Op.move (Operand.tmp 6), false⟩])
        (.cond (Operand.tmp 34)
         (.seq
          (.reg [⟨some 35, none, Op.move (Operand.tmp 0), false⟩,
            ⟨some 36, none, Op.call { callee := Callee.value (Operand.func 86), args := #[Operand.tmp 35, Operand.tmp 5], argTypes := #[9, 129] }, false⟩,
            ⟨some 37, none, Op.call { callee := Callee.value (Operand.func 85), args := #[Operand.tmp 36, Operand.tmp 5], argTypes := #[9, 129] }, false⟩,
            ⟨some 4, none, Op.assign (Operand.tmp 37), false⟩])
          .ret)
         .skip)))
      (.seq
       (.reg [⟨some 38, none, Op.move (Operand.tmp 0), false⟩,
         ⟨some 39, none, Op.move (Operand.tmp 1), false⟩,
         ⟨some 40, none, Op.call { callee := Callee.value (Operand.func 88), args := #[Operand.tmp 38, Operand.tmp 39], argTypes := #[9, 9] }, false⟩,
         ⟨some 41, none, Op.move (Operand.tmp 1), false⟩,
         ⟨some 42, none, Op.call { callee := Callee.value (Operand.func 87), args := #[Operand.tmp 40, Operand.tmp 41], argTypes := #[9, 9] }, false⟩,
         ⟨some 4, none, Op.assign (Operand.tmp 42), false⟩])
       .ret)))))
theorem ispec74 {args : List PV} {L L' : List AObj} {out : Out} (h : aw Tryd.prog L.length 43 x74 (kfin Tryd.prog [.tmp 4] L.length 43 out L') ⟨enum 0 args, L⟩) : ISpec Tryd.prog 74 args L out L' :=
  ispec_of_aw mixd (fn := Tryd.f74) (x := x74) Tryd.func74 rfl (by kernel_rfl) (by kernel_rfl) rfl h
theorem isfn74 : isFn Tryd.prog 74 = true := by kernel_rfl



def setC (l : List UInt8) : List PV := (List.range 256).map fun i => .bool (decide (UInt8.ofNat i ∈ l))
theorem setC_len (l : List UInt8) : (setC l).length = 256 := by simp [setC]
theorem ti125 : tinf Tryd.prog 125 = some { sz := 256, agg := true, bytes := 256, zero := .agg (setC []), kd := .array 256 4 } := by kernel_rfl
theorem setC_at (l : List UInt8) (n : Nat) (h : n < 256) : (setC l).getD n .bad = .bool (decide (UInt8.ofNat n ∈ l)) := by
  simp [setC, List.getD_eq_getElem?_getD, h]
def mkB (l : List UInt8) : BA := ⟨l.toArray⟩
theorem mkB_of (s : BA) : mkB s.data.toList = s := rfl
theorem mkB_size (l : List UInt8) : ByteArray.size (mkB l) = l.length := by simp [mkB, ByteArray.size]
theorem byteAt_mkB (l : List UInt8) (n : Nat) (h : n < l.length) : byteAt (mkB l) n = (l[n].toNat : Int) := by
  show ((l.getD n 0).toNat : Int) = _
  rw [List.getD_eq_getElem?_getD, List.getElem?_eq_getElem h]
  rfl
theorem extract_mkB (l : List UInt8) (a b : Nat) : ByteArray.extract (mkB l) a b = mkB ((l.take b).drop a) := by
  apply ByteArray.ext
  rw [ByteArray.data_extract]
  simp [mkB, List.extract_eq_take_drop, List.drop_take]

def eB0 : BA := ⟨#[]⟩
theorem eB0_def : (⟨#[]⟩ : BA) = eB0 := rfl
theorem const_eB0 : ofConst (.string eB0) = .str eB0 := j3y (by decide)
theorem imp_setC (l : List UInt8) {k : Bool} {g : Nat → Option Nat} : PV.impL k g (setC l) = setC l := by
  rw [PV.impL_map]; simp [setC]
theorem ren_setC (l : List UInt8) {g : Nat → Nat} : PV.renL g (setC l) = setC l := by
  rw [PV.renL_map]; simp [setC]
theorem bare_setC (l : List UInt8) : PV.bareL (setC l) = setC l := by
  rw [PV.bareL_map]; simp [setC]
attribute [simp] imp_setC ren_setC bare_setC

theorem spec95 (l : List UInt8) (b : UInt8) : ISpec Tryd.prog 95 [.ptr 0 0, .int .u8 b.toNat] [.cells (setC l)] (.ret (.bool (decide (b ∈ l)))) [.cells (setC l)] := by
  refine ispec95 ?_
  have hb := b.toNat_lt
  have h0 : (0 : Int) ≤ (b.toNat : Int) := by omega
  have h1 : (b.toNat : Int) < ((256 : Nat) : Int) := by omega
  have e : (setC l).getD b.toNat .bad = .bool (decide (b ∈ l)) := by rw [setC_at l _ (by omega), UInt8.ofNat_toNat]
  simp only [x95, enum, j00,j01,j02,j03,j04,j05,j06,j07,j08,j09,j0a,j0b,j0c,j0d,j0e,j0f,j0g,j0h,j0i,j0j,j0k,j0l,j0m,j0n,j0o,j0p,j0q,j0r,j0s,j0t,j3k,j3l,j3m,j3n,j3o,j3p,setAll,j3q,j3r,j3s,j3t,j3u,j3v,j3w,j3x,j3y,j3z,j40,j41,j42,j43,j44,j45,j46,j47,j48,j49,j4a,j4b,j4c,j4d,j4e,j4f,j4g,j4h,j4i,j4j,j4k,j4l,j4m,j4n,j4o,j4p,j4q,j4r,j4s,j4t,j4u,j4v,j4w,j4x,j4y,j4z,j50,j51,j52,j53,j54,j55,j56,j57,Bool.not_true,Bool.not_false,Bool.true_and,Bool.and_true,Bool.false_and,Bool.and_false,Bool.true_or,Bool.or_true,Bool.false_or,Bool.or_false,cond_true,cond_false,aAllocN,aIndex,xLoad,xStore,xField,xFA,xIA,xLen,xMM,xAlloc,xIface,xInt,xStr,xIs,xBin,xAgg,xUn,xPick,xExt,knd,fls,ifc,isBoolK,isPtrK,isFuncK,isIfK,j58,j59,Nat.reduceBEq,eq_self,j5a,j5b,j5c,j5d,j5e,j5f,j5g,j5h,j5i,j5j,j5k,j5l,j5m,j5n,j5o,j5p,j5q,j5r,j5s,j5t,j5u,j5v,j5w,j5x,j5y,j5z,j60,j61,j62,j63,j64,j65,j66,j67,j68,j69,j6a,j6b,j6c,j6d,j6e,j6f,j6g,j6h,j6i,j6j,j6k,j6l,j6m,j6n,splice,List.size_toArray,decide_true,decide_false,Nat.reduceLeDiff,List.getD_cons_zero,List.getD_cons_succ,List.drop_succ_cons,List.drop_zero,List.take_succ_cons,List.take_zero,List.take_nil,List.drop_nil,Bool.false_eq_true,List.length_map,List.length_cons,List.length_nil,List.append_nil,List.nil_append,List.cons_append,List.getElem?_cons_succ,List.getElem?_cons_zero,List.length_append,List.set_cons_succ,List.set_cons_zero,List.map_cons,List.map_nil,if_true,if_false,Nat.reduceEqDiff,Nat.reduceAdd,Nat.reduceLT,reduceIte,true_and,and_true,and_self,Nat.zero_add,Nat.add_zero,ge_iff_le,gt_iff_lt,List.filter_cons,List.filter_nil,List.replicate_zero,List.replicate_succ,List.reverse_cons,List.reverse_nil,Option.map_some,Option.map_none, ti125, ti129, ti4, ti5, h0, h1, Int.toNat_natCast, Nat.mul_one, setC_len, e]
  exact ⟨by omega, kret_keep [0] rfl (by simp) (by simp) (by simp)⟩
theorem spec85 (l : List UInt8) (xs : List UInt8) : ISpec Tryd.prog 85 [.str (mkB xs), .ptr 0 0] [.cells (setC l)] (.ret (.str (mkB (xs.dropWhile fun b => decide (b ∈ l))))) [.cells (setC l)] := by
  refine ispec_bd fun hbd => ispec85 ?_
  have hlen : xs.length ≤ 9223372036854775807 := by
    simp only [PV.bdL, PV.bd, mkB_size] at hbd
    exact hbd.1
  clear hbd
  simp only [x85, enum, j00,j01,j02,j03,j04,j05,j06,j07,j08,j09,j0a,j0b,j0c,j0d,j0e,j0f,j0g,j0h,j0i,j0j,j0k,j0l,j0m,j0n,j0o,j0p,j0q,j0r,j0s,j0t,j3k,j3l,j3m,j3n,j3o,j3p,setAll,j3q,j3r,j3s,j3t,j3u,j3v,j3w,j3x,j3y,j3z,j40,j41,j42,j43,j44,j45,j46,j47,j48,j49,j4a,j4b,j4c,j4d,j4e,j4f,j4g,j4h,j4i,j4j,j4k,j4l,j4m,j4n,j4o,j4p,j4q,j4r,j4s,j4t,j4u,j4v,j4w,j4x,j4y,j4z,j50,j51,j52,j53,j54,j55,j56,j57,Bool.not_true,Bool.not_false,Bool.true_and,Bool.and_true,Bool.false_and,Bool.and_false,Bool.true_or,Bool.or_true,Bool.false_or,Bool.or_false,cond_true,cond_false,aAllocN,aIndex,xLoad,xStore,xField,xFA,xIA,xLen,xMM,xAlloc,xIface,xInt,xStr,xIs,xBin,xAgg,xUn,xPick,xExt,knd,fls,ifc,isBoolK,isPtrK,isFuncK,isIfK,j58,j59,Nat.reduceBEq,eq_self,j5a,j5b,j5c,j5d,j5e,j5f,j5g,j5h,j5i,j5j,j5k,j5l,j5m,j5n,j5o,j5p,j5q,j5r,j5s,j5t,j5u,j5v,j5w,j5x,j5y,j5z,j60,j61,j62,j63,j64,j65,j66,j67,j68,j69,j6a,j6b,j6c,j6d,j6e,j6f,j6g,j6h,j6i,j6j,j6k,j6l,j6m,j6n,splice,List.size_toArray,decide_true,decide_false,Nat.reduceLeDiff,List.getD_cons_zero,List.getD_cons_succ,List.drop_succ_cons,List.drop_zero,List.take_succ_cons,List.take_zero,List.take_nil,List.drop_nil,Bool.false_eq_true,List.length_map,List.length_cons,List.length_nil,List.append_nil,List.nil_append,List.cons_append,List.getElem?_cons_succ,List.getElem?_cons_zero,List.length_append,List.set_cons_succ,List.set_cons_zero,List.map_cons,List.map_nil,if_true,if_false,Nat.reduceEqDiff,Nat.reduceAdd,Nat.reduceLT,reduceIte,true_and,and_true,and_self,Nat.zero_add,Nat.add_zero,ge_iff_le,gt_iff_lt,List.filter_cons,List.filter_nil,List.replicate_zero,List.replicate_succ,List.reverse_cons,List.reverse_nil,Option.map_some,Option.map_none, ti3, ti9]
  refine aw_loop (fun ys : List UInt8 => ⟨[(0, .str (mkB ys)), (1, .ptr 0 0)], [.cells (setC l)]⟩) (fun ys => (ys.dropWhile fun b => decide (b ∈ l)) = (xs.dropWhile fun b => decide (b ∈ l)) ∧ ys.length ≤ xs.length) (fun ys => ys.length) xs (by simp) (.to [0] (by simp) (by simp) (by simp)) ?_
  intro ys ⟨hI, hl⟩
  match ys with
  | [] =>
    have hz : ¬ (0 : Int) < ((0 : Nat) : Int) := by omega
    simp only [j00,j01,j02,j03,j04,j05,j06,j07,j08,j09,j0a,j0b,j0c,j0d,j0e,j0f,j0g,j0h,j0i,j0j,j0k,j0l,j0m,j0n,j0o,j0p,j0q,j0r,j0s,j0t,j3k,j3l,j3m,j3n,j3o,j3p,setAll,j3q,j3r,j3s,j3t,j3u,j3v,j3w,j3x,j3y,j3z,j40,j41,j42,j43,j44,j45,j46,j47,j48,j49,j4a,j4b,j4c,j4d,j4e,j4f,j4g,j4h,j4i,j4j,j4k,j4l,j4m,j4n,j4o,j4p,j4q,j4r,j4s,j4t,j4u,j4v,j4w,j4x,j4y,j4z,j50,j51,j52,j53,j54,j55,j56,j57,Bool.not_true,Bool.not_false,Bool.true_and,Bool.and_true,Bool.false_and,Bool.and_false,Bool.true_or,Bool.or_true,Bool.false_or,Bool.or_false,cond_true,cond_false,aAllocN,aIndex,xLoad,xStore,xField,xFA,xIA,xLen,xMM,xAlloc,xIface,xInt,xStr,xIs,xBin,xAgg,xUn,xPick,xExt,knd,fls,ifc,isBoolK,isPtrK,isFuncK,isIfK,j58,j59,Nat.reduceBEq,eq_self,j5a,j5b,j5c,j5d,j5e,j5f,j5g,j5h,j5i,j5j,j5k,j5l,j5m,j5n,j5o,j5p,j5q,j5r,j5s,j5t,j5u,j5v,j5w,j5x,j5y,j5z,j60,j61,j62,j63,j64,j65,j66,j67,j68,j69,j6a,j6b,j6c,j6d,j6e,j6f,j6g,j6h,j6i,j6j,j6k,j6l,j6m,j6n,splice,List.size_toArray,decide_true,decide_false,Nat.reduceLeDiff,List.getD_cons_zero,List.getD_cons_succ,List.drop_succ_cons,List.drop_zero,List.take_succ_cons,List.take_zero,List.take_nil,List.drop_nil,Bool.false_eq_true,List.length_map,List.length_cons,List.length_nil,List.append_nil,List.nil_append,List.cons_append,List.getElem?_cons_succ,List.getElem?_cons_zero,List.length_append,List.set_cons_succ,List.set_cons_zero,List.map_cons,List.map_nil,if_true,if_false,Nat.reduceEqDiff,Nat.reduceAdd,Nat.reduceLT,reduceIte,true_and,and_true,and_self,Nat.zero_add,Nat.add_zero,ge_iff_le,gt_iff_lt,List.filter_cons,List.filter_nil,List.replicate_zero,List.replicate_succ,List.reverse_cons,List.reverse_nil,Option.map_some,Option.map_none, ti3, ti9, mkB_size, List.length_nil, hz]
    rw [← hI]
    exact kret_keep [0] rfl (by simp) (by simp) (by simp)
  | b :: r =>
    have hz : (0 : Int) < ((r.length + 1 : Nat) : Int) := by omega
    have h00 : (0 : Int) ≤ 0 := by omega
    have hb0 : byteAt (mkB (b :: r)) 0 = (b.toNat : Int) := byteAt_mkB (b :: r) 0 (by simp)
    simp only [j00,j01,j02,j03,j04,j05,j06,j07,j08,j09,j0a,j0b,j0c,j0d,j0e,j0f,j0g,j0h,j0i,j0j,j0k,j0l,j0m,j0n,j0o,j0p,j0q,j0r,j0s,j0t,j3k,j3l,j3m,j3n,j3o,j3p,setAll,j3q,j3r,j3s,j3t,j3u,j3v,j3w,j3x,j3y,j3z,j40,j41,j42,j43,j44,j45,j46,j47,j48,j49,j4a,j4b,j4c,j4d,j4e,j4f,j4g,j4h,j4i,j4j,j4k,j4l,j4m,j4n,j4o,j4p,j4q,j4r,j4s,j4t,j4u,j4v,j4w,j4x,j4y,j4z,j50,j51,j52,j53,j54,j55,j56,j57,Bool.not_true,Bool.not_false,Bool.true_and,Bool.and_true,Bool.false_and,Bool.and_false,Bool.true_or,Bool.or_true,Bool.false_or,Bool.or_false,cond_true,cond_false,aAllocN,aIndex,xLoad,xStore,xField,xFA,xIA,xLen,xMM,xAlloc,xIface,xInt,xStr,xIs,xBin,xAgg,xUn,xPick,xExt,knd,fls,ifc,isBoolK,isPtrK,isFuncK,isIfK,j58,j59,Nat.reduceBEq,eq_self,j5a,j5b,j5c,j5d,j5e,j5f,j5g,j5h,j5i,j5j,j5k,j5l,j5m,j5n,j5o,j5p,j5q,j5r,j5s,j5t,j5u,j5v,j5w,j5x,j5y,j5z,j60,j61,j62,j63,j64,j65,j66,j67,j68,j69,j6a,j6b,j6c,j6d,j6e,j6f,j6g,j6h,j6i,j6j,j6k,j6l,j6m,j6n,splice,List.size_toArray,decide_true,decide_false,Nat.reduceLeDiff,List.getD_cons_zero,List.getD_cons_succ,List.drop_succ_cons,List.drop_zero,List.take_succ_cons,List.take_zero,List.take_nil,List.drop_nil,Bool.false_eq_true,List.length_map,List.length_cons,List.length_nil,List.append_nil,List.nil_append,List.cons_append,List.getElem?_cons_succ,List.getElem?_cons_zero,List.length_append,List.set_cons_succ,List.set_cons_zero,List.map_cons,List.map_nil,if_true,if_false,Nat.reduceEqDiff,Nat.reduceAdd,Nat.reduceLT,reduceIte,true_and,and_true,and_self,Nat.zero_add,Nat.add_zero,ge_iff_le,gt_iff_lt,List.filter_cons,List.filter_nil,List.replicate_zero,List.replicate_succ,List.reverse_cons,List.reverse_nil,Option.map_some,Option.map_none, ti3, ti9, ti129, mkB_size, hz, h00, Int.toNat_zero, hb0]
    refine fun_iret [0] [.cells (setC l)] isfn95 (r := .bool (decide (b ∈ l))) ?_ (by simp) fun _ => ?_
    · simpa using spec95 l b
    simp only [j00,j01,j02,j03,j04,j05,j06,j07,j08,j09,j0a,j0b,j0c,j0d,j0e,j0f,j0g,j0h,j0i,j0j,j0k,j0l,j0m,j0n,j0o,j0p,j0q,j0r,j0s,j0t,j3k,j3l,j3m,j3n,j3o,j3p,setAll,j3q,j3r,j3s,j3t,j3u,j3v,j3w,j3x,j3y,j3z,j40,j41,j42,j43,j44,j45,j46,j47,j48,j49,j4a,j4b,j4c,j4d,j4e,j4f,j4g,j4h,j4i,j4j,j4k,j4l,j4m,j4n,j4o,j4p,j4q,j4r,j4s,j4t,j4u,j4v,j4w,j4x,j4y,j4z,j50,j51,j52,j53,j54,j55,j56,j57,Bool.not_true,Bool.not_false,Bool.true_and,Bool.and_true,Bool.false_and,Bool.and_false,Bool.true_or,Bool.or_true,Bool.false_or,Bool.or_false,cond_true,cond_false,aAllocN,aIndex,xLoad,xStore,xField,xFA,xIA,xLen,xMM,xAlloc,xIface,xInt,xStr,xIs,xBin,xAgg,xUn,xPick,xExt,knd,fls,ifc,isBoolK,isPtrK,isFuncK,isIfK,j58,j59,Nat.reduceBEq,eq_self,j5a,j5b,j5c,j5d,j5e,j5f,j5g,j5h,j5i,j5j,j5k,j5l,j5m,j5n,j5o,j5p,j5q,j5r,j5s,j5t,j5u,j5v,j5w,j5x,j5y,j5z,j60,j61,j62,j63,j64,j65,j66,j67,j68,j69,j6a,j6b,j6c,j6d,j6e,j6f,j6g,j6h,j6i,j6j,j6k,j6l,j6m,j6n,splice,List.size_toArray,decide_true,decide_false,Nat.reduceLeDiff,List.getD_cons_zero,List.getD_cons_succ,List.drop_succ_cons,List.drop_zero,List.take_succ_cons,List.take_zero,List.take_nil,List.drop_nil,Bool.false_eq_true,List.length_map,List.length_cons,List.length_nil,List.append_nil,List.nil_append,List.cons_append,List.getElem?_cons_succ,List.getElem?_cons_zero,List.length_append,List.set_cons_succ,List.set_cons_zero,List.map_cons,List.map_nil,if_true,if_false,Nat.reduceEqDiff,Nat.reduceAdd,Nat.reduceLT,reduceIte,true_and,and_true,and_self,Nat.zero_add,Nat.add_zero,ge_iff_le,gt_iff_lt,List.filter_cons,List.filter_nil,List.replicate_zero,List.replicate_succ,List.reverse_cons,List.reverse_nil,Option.map_some,Option.map_none, ti4, backN, backSet, backNew, AObj.ren, PV.ren, ren_setC]
    by_cases hb : b ∈ l
    · have he : (ByteArray.extract (mkB (b :: r)) 1 (r.length + 1)) = mkB r := by
        rw [extract_mkB, List.take_of_length_le (by simp)]; rfl
      have g1 : (0 : Int) ≤ 1 := by omega
      have g2 : (1 : Int) ≤ ((r.length + 1 : Nat) : Int) := by omega
      simp only [hb, j00,j01,j02,j03,j04,j05,j06,j07,j08,j09,j0a,j0b,j0c,j0d,j0e,j0f,j0g,j0h,j0i,j0j,j0k,j0l,j0m,j0n,j0o,j0p,j0q,j0r,j0s,j0t,j3k,j3l,j3m,j3n,j3o,j3p,setAll,j3q,j3r,j3s,j3t,j3u,j3v,j3w,j3x,j3y,j3z,j40,j41,j42,j43,j44,j45,j46,j47,j48,j49,j4a,j4b,j4c,j4d,j4e,j4f,j4g,j4h,j4i,j4j,j4k,j4l,j4m,j4n,j4o,j4p,j4q,j4r,j4s,j4t,j4u,j4v,j4w,j4x,j4y,j4z,j50,j51,j52,j53,j54,j55,j56,j57,Bool.not_true,Bool.not_false,Bool.true_and,Bool.and_true,Bool.false_and,Bool.and_false,Bool.true_or,Bool.or_true,Bool.false_or,Bool.or_false,cond_true,cond_false,aAllocN,aIndex,xLoad,xStore,xField,xFA,xIA,xLen,xMM,xAlloc,xIface,xInt,xStr,xIs,xBin,xAgg,xUn,xPick,xExt,knd,fls,ifc,isBoolK,isPtrK,isFuncK,isIfK,j58,j59,Nat.reduceBEq,eq_self,j5a,j5b,j5c,j5d,j5e,j5f,j5g,j5h,j5i,j5j,j5k,j5l,j5m,j5n,j5o,j5p,j5q,j5r,j5s,j5t,j5u,j5v,j5w,j5x,j5y,j5z,j60,j61,j62,j63,j64,j65,j66,j67,j68,j69,j6a,j6b,j6c,j6d,j6e,j6f,j6g,j6h,j6i,j6j,j6k,j6l,j6m,j6n,splice,List.size_toArray,decide_true,decide_false,Nat.reduceLeDiff,List.getD_cons_zero,List.getD_cons_succ,List.drop_succ_cons,List.drop_zero,List.take_succ_cons,List.take_zero,List.take_nil,List.drop_nil,Bool.false_eq_true,List.length_map,List.length_cons,List.length_nil,List.append_nil,List.nil_append,List.cons_append,List.getElem?_cons_succ,List.getElem?_cons_zero,List.length_append,List.set_cons_succ,List.set_cons_zero,List.map_cons,List.map_nil,if_true,if_false,Nat.reduceEqDiff,Nat.reduceAdd,Nat.reduceLT,reduceIte,true_and,and_true,and_self,Nat.zero_add,Nat.add_zero,ge_iff_le,gt_iff_lt,List.filter_cons,List.filter_nil,List.replicate_zero,List.replicate_succ,List.reverse_cons,List.reverse_nil,Option.map_some,Option.map_none, ti3, ti9, aSlice, bI, mkB_size, Int.toNat_natCast, g1, g2, Int.toNat_one, he]
      refine ⟨by omega, r, ⟨?_, ?_⟩, .to [0] (by simp) (by simp) (by simp), by simp⟩
      · rw [← hI, List.dropWhile_cons_of_pos (by simpa using hb)]
      · simp at hl; omega
    · simp only [hb, j00,j01,j02,j03,j04,j05,j06,j07,j08,j09,j0a,j0b,j0c,j0d,j0e,j0f,j0g,j0h,j0i,j0j,j0k,j0l,j0m,j0n,j0o,j0p,j0q,j0r,j0s,j0t,j3k,j3l,j3m,j3n,j3o,j3p,setAll,j3q,j3r,j3s,j3t,j3u,j3v,j3w,j3x,j3y,j3z,j40,j41,j42,j43,j44,j45,j46,j47,j48,j49,j4a,j4b,j4c,j4d,j4e,j4f,j4g,j4h,j4i,j4j,j4k,j4l,j4m,j4n,j4o,j4p,j4q,j4r,j4s,j4t,j4u,j4v,j4w,j4x,j4y,j4z,j50,j51,j52,j53,j54,j55,j56,j57,Bool.not_true,Bool.not_false,Bool.true_and,Bool.and_true,Bool.false_and,Bool.and_false,Bool.true_or,Bool.or_true,Bool.false_or,Bool.or_false,cond_true,cond_false,aAllocN,aIndex,xLoad,xStore,xField,xFA,xIA,xLen,xMM,xAlloc,xIface,xInt,xStr,xIs,xBin,xAgg,xUn,xPick,xExt,knd,fls,ifc,isBoolK,isPtrK,isFuncK,isIfK,j58,j59,Nat.reduceBEq,eq_self,j5a,j5b,j5c,j5d,j5e,j5f,j5g,j5h,j5i,j5j,j5k,j5l,j5m,j5n,j5o,j5p,j5q,j5r,j5s,j5t,j5u,j5v,j5w,j5x,j5y,j5z,j60,j61,j62,j63,j64,j65,j66,j67,j68,j69,j6a,j6b,j6c,j6d,j6e,j6f,j6g,j6h,j6i,j6j,j6k,j6l,j6m,j6n,splice,List.size_toArray,decide_true,decide_false,Nat.reduceLeDiff,List.getD_cons_zero,List.getD_cons_succ,List.drop_succ_cons,List.drop_zero,List.take_succ_cons,List.take_zero,List.take_nil,List.drop_nil,Bool.false_eq_true,List.length_map,List.length_cons,List.length_nil,List.append_nil,List.nil_append,List.cons_append,List.getElem?_cons_succ,List.getElem?_cons_zero,List.length_append,List.set_cons_succ,List.set_cons_zero,List.map_cons,List.map_nil,if_true,if_false,Nat.reduceEqDiff,Nat.reduceAdd,Nat.reduceLT,reduceIte,true_and,and_true,and_self,Nat.zero_add,Nat.add_zero,ge_iff_le,gt_iff_lt,List.filter_cons,List.filter_nil,List.replicate_zero,List.replicate_succ,List.reverse_cons,List.reverse_nil,Option.map_some,Option.map_none]
      rw [List.dropWhile_cons_of_neg (by simpa using hb)] at hI
      rw [← hI]
      exact kret_keep [0] rfl (by simp) (by simp) (by simp)

/-- Off the end. -/
def dropR (p : UInt8 → Bool) (l : List UInt8) : List UInt8 := (l.reverse.dropWhile p).reverse
theorem dropR_snoc (p : UInt8 → Bool) (l : List UInt8) (b : UInt8) : dropR p (l ++ [b]) = if p b then dropR p l else l ++ [b] := by
  unfold dropR
  rw [List.reverse_append, List.reverse_cons, List.reverse_nil, List.nil_append, List.singleton_append, List.dropWhile_cons]
  split
  · rfl
  · simp
theorem spec86 (l : List UInt8) (xs : List UInt8) : ISpec Tryd.prog 86 [.str (mkB xs), .ptr 0 0] [.cells (setC l)] (.ret (.str (mkB (dropR (fun b => decide (b ∈ l)) xs)))) [.cells (setC l)] := by
  refine ispec_bd fun hbd => ispec86 ?_
  have hlen : xs.length ≤ 9223372036854775807 := by
    simp only [PV.bdL, PV.bd, mkB_size] at hbd
    exact hbd.1
  clear hbd
  simp only [x86, enum, j00,j01,j02,j03,j04,j05,j06,j07,j08,j09,j0a,j0b,j0c,j0d,j0e,j0f,j0g,j0h,j0i,j0j,j0k,j0l,j0m,j0n,j0o,j0p,j0q,j0r,j0s,j0t,j3k,j3l,j3m,j3n,j3o,j3p,setAll,j3q,j3r,j3s,j3t,j3u,j3v,j3w,j3x,j3y,j3z,j40,j41,j42,j43,j44,j45,j46,j47,j48,j49,j4a,j4b,j4c,j4d,j4e,j4f,j4g,j4h,j4i,j4j,j4k,j4l,j4m,j4n,j4o,j4p,j4q,j4r,j4s,j4t,j4u,j4v,j4w,j4x,j4y,j4z,j50,j51,j52,j53,j54,j55,j56,j57,Bool.not_true,Bool.not_false,Bool.true_and,Bool.and_true,Bool.false_and,Bool.and_false,Bool.true_or,Bool.or_true,Bool.false_or,Bool.or_false,cond_true,cond_false,aAllocN,aIndex,xLoad,xStore,xField,xFA,xIA,xLen,xMM,xAlloc,xIface,xInt,xStr,xIs,xBin,xAgg,xUn,xPick,xExt,knd,fls,ifc,isBoolK,isPtrK,isFuncK,isIfK,j58,j59,Nat.reduceBEq,eq_self,j5a,j5b,j5c,j5d,j5e,j5f,j5g,j5h,j5i,j5j,j5k,j5l,j5m,j5n,j5o,j5p,j5q,j5r,j5s,j5t,j5u,j5v,j5w,j5x,j5y,j5z,j60,j61,j62,j63,j64,j65,j66,j67,j68,j69,j6a,j6b,j6c,j6d,j6e,j6f,j6g,j6h,j6i,j6j,j6k,j6l,j6m,j6n,splice,List.size_toArray,decide_true,decide_false,Nat.reduceLeDiff,List.getD_cons_zero,List.getD_cons_succ,List.drop_succ_cons,List.drop_zero,List.take_succ_cons,List.take_zero,List.take_nil,List.drop_nil,Bool.false_eq_true,List.length_map,List.length_cons,List.length_nil,List.append_nil,List.nil_append,List.cons_append,List.getElem?_cons_succ,List.getElem?_cons_zero,List.length_append,List.set_cons_succ,List.set_cons_zero,List.map_cons,List.map_nil,if_true,if_false,Nat.reduceEqDiff,Nat.reduceAdd,Nat.reduceLT,reduceIte,true_and,and_true,and_self,Nat.zero_add,Nat.add_zero,ge_iff_le,gt_iff_lt,List.filter_cons,List.filter_nil,List.replicate_zero,List.replicate_succ,List.reverse_cons,List.reverse_nil,Option.map_some,Option.map_none, ti3, ti9]
  refine aw_loop (fun ys : List UInt8 => ⟨[(0, .str (mkB ys)), (1, .ptr 0 0)], [.cells (setC l)]⟩) (fun ys => dropR (fun b => decide (b ∈ l)) ys = dropR (fun b => decide (b ∈ l)) xs ∧ ys.length ≤ xs.length) (fun ys => ys.length) xs (by simp) (.to [0] (by simp) (by simp) (by simp)) ?_
  intro ys ⟨hI, hl⟩
  rcases List.eq_nil_or_concat ys with rfl | ⟨r, b, rfl⟩
  · have hz : ¬ (0 : Int) < ((0 : Nat) : Int) := by omega
    simp only [j00,j01,j02,j03,j04,j05,j06,j07,j08,j09,j0a,j0b,j0c,j0d,j0e,j0f,j0g,j0h,j0i,j0j,j0k,j0l,j0m,j0n,j0o,j0p,j0q,j0r,j0s,j0t,j3k,j3l,j3m,j3n,j3o,j3p,setAll,j3q,j3r,j3s,j3t,j3u,j3v,j3w,j3x,j3y,j3z,j40,j41,j42,j43,j44,j45,j46,j47,j48,j49,j4a,j4b,j4c,j4d,j4e,j4f,j4g,j4h,j4i,j4j,j4k,j4l,j4m,j4n,j4o,j4p,j4q,j4r,j4s,j4t,j4u,j4v,j4w,j4x,j4y,j4z,j50,j51,j52,j53,j54,j55,j56,j57,Bool.not_true,Bool.not_false,Bool.true_and,Bool.and_true,Bool.false_and,Bool.and_false,Bool.true_or,Bool.or_true,Bool.false_or,Bool.or_false,cond_true,cond_false,aAllocN,aIndex,xLoad,xStore,xField,xFA,xIA,xLen,xMM,xAlloc,xIface,xInt,xStr,xIs,xBin,xAgg,xUn,xPick,xExt,knd,fls,ifc,isBoolK,isPtrK,isFuncK,isIfK,j58,j59,Nat.reduceBEq,eq_self,j5a,j5b,j5c,j5d,j5e,j5f,j5g,j5h,j5i,j5j,j5k,j5l,j5m,j5n,j5o,j5p,j5q,j5r,j5s,j5t,j5u,j5v,j5w,j5x,j5y,j5z,j60,j61,j62,j63,j64,j65,j66,j67,j68,j69,j6a,j6b,j6c,j6d,j6e,j6f,j6g,j6h,j6i,j6j,j6k,j6l,j6m,j6n,splice,List.size_toArray,decide_true,decide_false,Nat.reduceLeDiff,List.getD_cons_zero,List.getD_cons_succ,List.drop_succ_cons,List.drop_zero,List.take_succ_cons,List.take_zero,List.take_nil,List.drop_nil,Bool.false_eq_true,List.length_map,List.length_cons,List.length_nil,List.append_nil,List.nil_append,List.cons_append,List.getElem?_cons_succ,List.getElem?_cons_zero,List.length_append,List.set_cons_succ,List.set_cons_zero,List.map_cons,List.map_nil,if_true,if_false,Nat.reduceEqDiff,Nat.reduceAdd,Nat.reduceLT,reduceIte,true_and,and_true,and_self,Nat.zero_add,Nat.add_zero,ge_iff_le,gt_iff_lt,List.filter_cons,List.filter_nil,List.replicate_zero,List.replicate_succ,List.reverse_cons,List.reverse_nil,Option.map_some,Option.map_none, ti3, ti9, mkB_size, List.length_nil, hz]
    rw [← hI]
    exact kret_keep [0] rfl (by simp) (by simp) rfl
  · simp only [List.concat_eq_append] at hI hl ⊢
    have hz : (0 : Int) < ((r.length + 1 : Nat) : Int) := by omega
    have hlr : r.length + 1 ≤ xs.length := by simpa using hl
    have hw : IntKind.i64.wrap (((r.length + 1 : Nat) : Int) - 1) = (r.length : Int) := by rw [wrap_id _ (by omega) (by omega)]; omega
    have h00 : (0 : Int) ≤ (r.length : Int) := by omega
    have h01 : (r.length : Int) < ((r.length + 1 : Nat) : Int) := by omega
    have hb0 : byteAt (mkB (r ++ [b])) r.length = (b.toNat : Int) := by rw [byteAt_mkB _ _ (by simp)]; simp
    simp only [j00,j01,j02,j03,j04,j05,j06,j07,j08,j09,j0a,j0b,j0c,j0d,j0e,j0f,j0g,j0h,j0i,j0j,j0k,j0l,j0m,j0n,j0o,j0p,j0q,j0r,j0s,j0t,j3k,j3l,j3m,j3n,j3o,j3p,setAll,j3q,j3r,j3s,j3t,j3u,j3v,j3w,j3x,j3y,j3z,j40,j41,j42,j43,j44,j45,j46,j47,j48,j49,j4a,j4b,j4c,j4d,j4e,j4f,j4g,j4h,j4i,j4j,j4k,j4l,j4m,j4n,j4o,j4p,j4q,j4r,j4s,j4t,j4u,j4v,j4w,j4x,j4y,j4z,j50,j51,j52,j53,j54,j55,j56,j57,Bool.not_true,Bool.not_false,Bool.true_and,Bool.and_true,Bool.false_and,Bool.and_false,Bool.true_or,Bool.or_true,Bool.false_or,Bool.or_false,cond_true,cond_false,aAllocN,aIndex,xLoad,xStore,xField,xFA,xIA,xLen,xMM,xAlloc,xIface,xInt,xStr,xIs,xBin,xAgg,xUn,xPick,xExt,knd,fls,ifc,isBoolK,isPtrK,isFuncK,isIfK,j58,j59,Nat.reduceBEq,eq_self,j5a,j5b,j5c,j5d,j5e,j5f,j5g,j5h,j5i,j5j,j5k,j5l,j5m,j5n,j5o,j5p,j5q,j5r,j5s,j5t,j5u,j5v,j5w,j5x,j5y,j5z,j60,j61,j62,j63,j64,j65,j66,j67,j68,j69,j6a,j6b,j6c,j6d,j6e,j6f,j6g,j6h,j6i,j6j,j6k,j6l,j6m,j6n,splice,List.size_toArray,decide_true,decide_false,Nat.reduceLeDiff,List.getD_cons_zero,List.getD_cons_succ,List.drop_succ_cons,List.drop_zero,List.take_succ_cons,List.take_zero,List.take_nil,List.drop_nil,Bool.false_eq_true,List.length_map,List.length_cons,List.length_nil,List.append_nil,List.nil_append,List.cons_append,List.getElem?_cons_succ,List.getElem?_cons_zero,List.length_append,List.set_cons_succ,List.set_cons_zero,List.map_cons,List.map_nil,if_true,if_false,Nat.reduceEqDiff,Nat.reduceAdd,Nat.reduceLT,reduceIte,true_and,and_true,and_self,Nat.zero_add,Nat.add_zero,ge_iff_le,gt_iff_lt,List.filter_cons,List.filter_nil,List.replicate_zero,List.replicate_succ,List.reverse_cons,List.reverse_nil,Option.map_some,Option.map_none, ti3, ti9, ti129, mkB_size, hz, hw, h00, h01, Int.toNat_natCast, hb0]
    refine fun_iret [0] [.cells (setC l)] isfn95 (r := .bool (decide (b ∈ l))) ?_ (by simp) fun _ => ?_
    · simpa using spec95 l b
    simp only [j00,j01,j02,j03,j04,j05,j06,j07,j08,j09,j0a,j0b,j0c,j0d,j0e,j0f,j0g,j0h,j0i,j0j,j0k,j0l,j0m,j0n,j0o,j0p,j0q,j0r,j0s,j0t,j3k,j3l,j3m,j3n,j3o,j3p,setAll,j3q,j3r,j3s,j3t,j3u,j3v,j3w,j3x,j3y,j3z,j40,j41,j42,j43,j44,j45,j46,j47,j48,j49,j4a,j4b,j4c,j4d,j4e,j4f,j4g,j4h,j4i,j4j,j4k,j4l,j4m,j4n,j4o,j4p,j4q,j4r,j4s,j4t,j4u,j4v,j4w,j4x,j4y,j4z,j50,j51,j52,j53,j54,j55,j56,j57,Bool.not_true,Bool.not_false,Bool.true_and,Bool.and_true,Bool.false_and,Bool.and_false,Bool.true_or,Bool.or_true,Bool.false_or,Bool.or_false,cond_true,cond_false,aAllocN,aIndex,xLoad,xStore,xField,xFA,xIA,xLen,xMM,xAlloc,xIface,xInt,xStr,xIs,xBin,xAgg,xUn,xPick,xExt,knd,fls,ifc,isBoolK,isPtrK,isFuncK,isIfK,j58,j59,Nat.reduceBEq,eq_self,j5a,j5b,j5c,j5d,j5e,j5f,j5g,j5h,j5i,j5j,j5k,j5l,j5m,j5n,j5o,j5p,j5q,j5r,j5s,j5t,j5u,j5v,j5w,j5x,j5y,j5z,j60,j61,j62,j63,j64,j65,j66,j67,j68,j69,j6a,j6b,j6c,j6d,j6e,j6f,j6g,j6h,j6i,j6j,j6k,j6l,j6m,j6n,splice,List.size_toArray,decide_true,decide_false,Nat.reduceLeDiff,List.getD_cons_zero,List.getD_cons_succ,List.drop_succ_cons,List.drop_zero,List.take_succ_cons,List.take_zero,List.take_nil,List.drop_nil,Bool.false_eq_true,List.length_map,List.length_cons,List.length_nil,List.append_nil,List.nil_append,List.cons_append,List.getElem?_cons_succ,List.getElem?_cons_zero,List.length_append,List.set_cons_succ,List.set_cons_zero,List.map_cons,List.map_nil,if_true,if_false,Nat.reduceEqDiff,Nat.reduceAdd,Nat.reduceLT,reduceIte,true_and,and_true,and_self,Nat.zero_add,Nat.add_zero,ge_iff_le,gt_iff_lt,List.filter_cons,List.filter_nil,List.replicate_zero,List.replicate_succ,List.reverse_cons,List.reverse_nil,Option.map_some,Option.map_none, ti4, backN, backSet, backNew, AObj.ren, PV.ren, ren_setC]
    rw [dropR_snoc] at hI
    by_cases hb : b ∈ l
    · have he : (ByteArray.extract (mkB (r ++ [b])) 0 r.length) = mkB r := by
        rw [extract_mkB, List.drop_zero, List.take_left]
      have g1 : (0 : Int) ≤ 0 := by omega
      have g2 : (r.length : Int) ≤ ((r.length + 1 : Nat) : Int) := by omega
      simp only [hb, j00,j01,j02,j03,j04,j05,j06,j07,j08,j09,j0a,j0b,j0c,j0d,j0e,j0f,j0g,j0h,j0i,j0j,j0k,j0l,j0m,j0n,j0o,j0p,j0q,j0r,j0s,j0t,j3k,j3l,j3m,j3n,j3o,j3p,setAll,j3q,j3r,j3s,j3t,j3u,j3v,j3w,j3x,j3y,j3z,j40,j41,j42,j43,j44,j45,j46,j47,j48,j49,j4a,j4b,j4c,j4d,j4e,j4f,j4g,j4h,j4i,j4j,j4k,j4l,j4m,j4n,j4o,j4p,j4q,j4r,j4s,j4t,j4u,j4v,j4w,j4x,j4y,j4z,j50,j51,j52,j53,j54,j55,j56,j57,Bool.not_true,Bool.not_false,Bool.true_and,Bool.and_true,Bool.false_and,Bool.and_false,Bool.true_or,Bool.or_true,Bool.false_or,Bool.or_false,cond_true,cond_false,aAllocN,aIndex,xLoad,xStore,xField,xFA,xIA,xLen,xMM,xAlloc,xIface,xInt,xStr,xIs,xBin,xAgg,xUn,xPick,xExt,knd,fls,ifc,isBoolK,isPtrK,isFuncK,isIfK,j58,j59,Nat.reduceBEq,eq_self,j5a,j5b,j5c,j5d,j5e,j5f,j5g,j5h,j5i,j5j,j5k,j5l,j5m,j5n,j5o,j5p,j5q,j5r,j5s,j5t,j5u,j5v,j5w,j5x,j5y,j5z,j60,j61,j62,j63,j64,j65,j66,j67,j68,j69,j6a,j6b,j6c,j6d,j6e,j6f,j6g,j6h,j6i,j6j,j6k,j6l,j6m,j6n,splice,List.size_toArray,decide_true,decide_false,Nat.reduceLeDiff,List.getD_cons_zero,List.getD_cons_succ,List.drop_succ_cons,List.drop_zero,List.take_succ_cons,List.take_zero,List.take_nil,List.drop_nil,Bool.false_eq_true,List.length_map,List.length_cons,List.length_nil,List.append_nil,List.nil_append,List.cons_append,List.getElem?_cons_succ,List.getElem?_cons_zero,List.length_append,List.set_cons_succ,List.set_cons_zero,List.map_cons,List.map_nil,if_true,if_false,Nat.reduceEqDiff,Nat.reduceAdd,Nat.reduceLT,reduceIte,true_and,and_true,and_self,Nat.zero_add,Nat.add_zero,ge_iff_le,gt_iff_lt,List.filter_cons,List.filter_nil,List.replicate_zero,List.replicate_succ,List.reverse_cons,List.reverse_nil,Option.map_some,Option.map_none, ti3, ti9, aSlice, bI, mkB_size, Int.toNat_natCast, g1, g2, h00, Int.toNat_zero, hw, he]
      refine ⟨r, ⟨by simpa [hb] using hI, by omega⟩, .to [0] (by simp) (by simp) (by simp), by simp⟩
    · simp only [hb, j00,j01,j02,j03,j04,j05,j06,j07,j08,j09,j0a,j0b,j0c,j0d,j0e,j0f,j0g,j0h,j0i,j0j,j0k,j0l,j0m,j0n,j0o,j0p,j0q,j0r,j0s,j0t,j3k,j3l,j3m,j3n,j3o,j3p,setAll,j3q,j3r,j3s,j3t,j3u,j3v,j3w,j3x,j3y,j3z,j40,j41,j42,j43,j44,j45,j46,j47,j48,j49,j4a,j4b,j4c,j4d,j4e,j4f,j4g,j4h,j4i,j4j,j4k,j4l,j4m,j4n,j4o,j4p,j4q,j4r,j4s,j4t,j4u,j4v,j4w,j4x,j4y,j4z,j50,j51,j52,j53,j54,j55,j56,j57,Bool.not_true,Bool.not_false,Bool.true_and,Bool.and_true,Bool.false_and,Bool.and_false,Bool.true_or,Bool.or_true,Bool.false_or,Bool.or_false,cond_true,cond_false,aAllocN,aIndex,xLoad,xStore,xField,xFA,xIA,xLen,xMM,xAlloc,xIface,xInt,xStr,xIs,xBin,xAgg,xUn,xPick,xExt,knd,fls,ifc,isBoolK,isPtrK,isFuncK,isIfK,j58,j59,Nat.reduceBEq,eq_self,j5a,j5b,j5c,j5d,j5e,j5f,j5g,j5h,j5i,j5j,j5k,j5l,j5m,j5n,j5o,j5p,j5q,j5r,j5s,j5t,j5u,j5v,j5w,j5x,j5y,j5z,j60,j61,j62,j63,j64,j65,j66,j67,j68,j69,j6a,j6b,j6c,j6d,j6e,j6f,j6g,j6h,j6i,j6j,j6k,j6l,j6m,j6n,splice,List.size_toArray,decide_true,decide_false,Nat.reduceLeDiff,List.getD_cons_zero,List.getD_cons_succ,List.drop_succ_cons,List.drop_zero,List.take_succ_cons,List.take_zero,List.take_nil,List.drop_nil,Bool.false_eq_true,List.length_map,List.length_cons,List.length_nil,List.append_nil,List.nil_append,List.cons_append,List.getElem?_cons_succ,List.getElem?_cons_zero,List.length_append,List.set_cons_succ,List.set_cons_zero,List.map_cons,List.map_nil,if_true,if_false,Nat.reduceEqDiff,Nat.reduceAdd,Nat.reduceLT,reduceIte,true_and,and_true,and_self,Nat.zero_add,Nat.add_zero,ge_iff_le,gt_iff_lt,List.filter_cons,List.filter_nil,List.replicate_zero,List.replicate_succ,List.reverse_cons,List.reverse_nil,Option.map_some,Option.map_none]
      simp only [hb, decide_false, Bool.false_eq_true, if_false] at hI
      rw [← hI]
      exact kret_keep [0] rfl (by simp) (by simp) rfl

theorem splice_setC (l : List UInt8) (b : UInt8) : (setC l).take b.toNat ++ [.bool true] ++ (setC l).drop (b.toNat + 1) = setC (l ++ [b]) := by
  have hb : b.toNat < 256 := b.toNat_lt
  have e : (setC l).take b.toNat ++ [.bool true] ++ (setC l).drop (b.toNat + 1) = (setC l).set b.toNat (.bool true) := by
    rw [List.set_eq_take_append_cons_drop, if_pos (by rw [setC_len]; exact hb), List.append_assoc]; rfl
  rw [e]
  apply List.ext_getElem
  · simp [setC]
  · intro i h1 h2
    have h3 : i < 256 := by simpa [setC] using h2
    have h4 : (setC (l ++ [b]))[i]'h2 = .bool (decide (UInt8.ofNat i ∈ l ++ [b])) := by simp [setC]
    have h5 : (setC l)[i]'(by rw [setC_len]; exact h3) = .bool (decide (UInt8.ofNat i ∈ l)) := by simp [setC]
    have h6 : b = UInt8.ofNat i ↔ b.toNat = i := by
      constructor
      · rintro rfl; exact UInt8.toNat_ofNat_of_lt' h3
      · rintro rfl; exact UInt8.ofNat_toNat.symm
    rw [h4, List.getElem_set, h5]
    by_cases hi : b.toNat = i
    · rw [if_pos hi]
      have := h6.2 hi
      simp [← this]
    · rw [if_neg hi]
      have : ¬ UInt8.ofNat i = b := fun e => hi (h6.1 e.symm)
      simp [this]
theorem take_setC (l : List UInt8) : (setC l).take 256 = setC l := List.take_of_length_le (by rw [setC_len]; exact Nat.le_refl _)
theorem drop_setC (l : List UInt8) : (setC l).drop 256 = [] := List.drop_of_length_le (by rw [setC_len]; exact Nat.le_refl _)
theorem spec84 (xs : List UInt8) (hx : ∀ b ∈ xs, b.toNat < 128) : PSpec Tryd.prog 84 [.str (mkB xs)] (.ret (.tuple [.agg (setC xs), .bool true])) := by
  refine ispec_bd fun hbd => ispec84 ?_
  have hlen : xs.length ≤ 9223372036854775807 := by
    simp only [PV.bdL, PV.bd, mkB_size] at hbd
    exact hbd.1
  clear hbd
  simp only [x84, enum, j00,j01,j02,j03,j04,j05,j06,j07,j08,j09,j0a,j0b,j0c,j0d,j0e,j0f,j0g,j0h,j0i,j0j,j0k,j0l,j0m,j0n,j0o,j0p,j0q,j0r,j0s,j0t,j3k,j3l,j3m,j3n,j3o,j3p,setAll,j3q,j3r,j3s,j3t,j3u,j3v,j3w,j3x,j3y,j3z,j40,j41,j42,j43,j44,j45,j46,j47,j48,j49,j4a,j4b,j4c,j4d,j4e,j4f,j4g,j4h,j4i,j4j,j4k,j4l,j4m,j4n,j4o,j4p,j4q,j4r,j4s,j4t,j4u,j4v,j4w,j4x,j4y,j4z,j50,j51,j52,j53,j54,j55,j56,j57,Bool.not_true,Bool.not_false,Bool.true_and,Bool.and_true,Bool.false_and,Bool.and_false,Bool.true_or,Bool.or_true,Bool.false_or,Bool.or_false,cond_true,cond_false,aAllocN,aIndex,xLoad,xStore,xField,xFA,xIA,xLen,xMM,xAlloc,xIface,xInt,xStr,xIs,xBin,xAgg,xUn,xPick,xExt,knd,fls,ifc,isBoolK,isPtrK,isFuncK,isIfK,j58,j59,Nat.reduceBEq,eq_self,j5a,j5b,j5c,j5d,j5e,j5f,j5g,j5h,j5i,j5j,j5k,j5l,j5m,j5n,j5o,j5p,j5q,j5r,j5s,j5t,j5u,j5v,j5w,j5x,j5y,j5z,j60,j61,j62,j63,j64,j65,j66,j67,j68,j69,j6a,j6b,j6c,j6d,j6e,j6f,j6g,j6h,j6i,j6j,j6k,j6l,j6m,j6n,splice,List.size_toArray,decide_true,decide_false,Nat.reduceLeDiff,List.getD_cons_zero,List.getD_cons_succ,List.drop_succ_cons,List.drop_zero,List.take_succ_cons,List.take_zero,List.take_nil,List.drop_nil,Bool.false_eq_true,List.length_map,List.length_cons,List.length_nil,List.append_nil,List.nil_append,List.cons_append,List.getElem?_cons_succ,List.getElem?_cons_zero,List.length_append,List.set_cons_succ,List.set_cons_zero,List.map_cons,List.map_nil,if_true,if_false,Nat.reduceEqDiff,Nat.reduceAdd,Nat.reduceLT,reduceIte,true_and,and_true,and_self,Nat.zero_add,Nat.add_zero,ge_iff_le,gt_iff_lt,List.filter_cons,List.filter_nil,List.replicate_zero,List.replicate_succ,List.reverse_cons,List.reverse_nil,Option.map_some,Option.map_none, ti3, ti4, ti9, ti125, setC_len]
  refine aw_loop (fun i : Nat => ⟨[(0, .str (mkB xs)), (2, .ptr 0 0), (4, .int .i64 i)], [.cells (setC (xs.take i))]⟩) (fun i => i ≤ xs.length) (fun i => xs.length - i) 0 (by simp) (.to [0] (by simp) (by simp) (by simp)) ?_
  intro i hi
  by_cases h : i < xs.length
  · have h0 : (0 : Int) ≤ (i : Int) := by omega
    have hb := hx xs[i] (List.getElem_mem h)
    have hb0 : byteAt (mkB xs) i = (xs[i].toNat : Int) := byteAt_mkB xs i h
    have hlt : (i : Int) < (xs.length : Int) := by omega
    have hge : ¬ (128 : Int) ≤ (xs[i].toNat : Int) := by omega
    have g0 : (0 : Int) ≤ (xs[i].toNat : Int) := by omega
    have g1 : (xs[i].toNat : Int) < ((256 : Nat) : Int) := by omega
    simp only [j00,j01,j02,j03,j04,j05,j06,j07,j08,j09,j0a,j0b,j0c,j0d,j0e,j0f,j0g,j0h,j0i,j0j,j0k,j0l,j0m,j0n,j0o,j0p,j0q,j0r,j0s,j0t,j3k,j3l,j3m,j3n,j3o,j3p,setAll,j3q,j3r,j3s,j3t,j3u,j3v,j3w,j3x,j3y,j3z,j40,j41,j42,j43,j44,j45,j46,j47,j48,j49,j4a,j4b,j4c,j4d,j4e,j4f,j4g,j4h,j4i,j4j,j4k,j4l,j4m,j4n,j4o,j4p,j4q,j4r,j4s,j4t,j4u,j4v,j4w,j4x,j4y,j4z,j50,j51,j52,j53,j54,j55,j56,j57,Bool.not_true,Bool.not_false,Bool.true_and,Bool.and_true,Bool.false_and,Bool.and_false,Bool.true_or,Bool.or_true,Bool.false_or,Bool.or_false,cond_true,cond_false,aAllocN,aIndex,xLoad,xStore,xField,xFA,xIA,xLen,xMM,xAlloc,xIface,xInt,xStr,xIs,xBin,xAgg,xUn,xPick,xExt,knd,fls,ifc,isBoolK,isPtrK,isFuncK,isIfK,j58,j59,Nat.reduceBEq,eq_self,j5a,j5b,j5c,j5d,j5e,j5f,j5g,j5h,j5i,j5j,j5k,j5l,j5m,j5n,j5o,j5p,j5q,j5r,j5s,j5t,j5u,j5v,j5w,j5x,j5y,j5z,j60,j61,j62,j63,j64,j65,j66,j67,j68,j69,j6a,j6b,j6c,j6d,j6e,j6f,j6g,j6h,j6i,j6j,j6k,j6l,j6m,j6n,splice,List.size_toArray,decide_true,decide_false,Nat.reduceLeDiff,List.getD_cons_zero,List.getD_cons_succ,List.drop_succ_cons,List.drop_zero,List.take_succ_cons,List.take_zero,List.take_nil,List.drop_nil,Bool.false_eq_true,List.length_map,List.length_cons,List.length_nil,List.append_nil,List.nil_append,List.cons_append,List.getElem?_cons_succ,List.getElem?_cons_zero,List.length_append,List.set_cons_succ,List.set_cons_zero,List.map_cons,List.map_nil,if_true,if_false,Nat.reduceEqDiff,Nat.reduceAdd,Nat.reduceLT,reduceIte,true_and,and_true,and_self,Nat.zero_add,Nat.add_zero,ge_iff_le,gt_iff_lt,List.filter_cons,List.filter_nil,List.replicate_zero,List.replicate_succ,List.reverse_cons,List.reverse_nil,Option.map_some,Option.map_none, ti3, ti4, ti5, ti9, ti125, mkB_size, h0, hlt, Int.toNat_natCast, hb0, hge, g0, g1, Nat.mul_one, setC_len, splice_setC]
    refine ⟨by omega, i + 1, by omega, ?_, by omega⟩
    rw [wrapS i _ h hlen, List.take_succ_eq_append_getElem h]
    exact .to [0] (by simp) (by simp) (by simp)
  · have hie : i = xs.length := by omega
    subst hie
    have hn : ¬ (xs.length : Int) < (xs.length : Int) := by omega
    simp only [j00,j01,j02,j03,j04,j05,j06,j07,j08,j09,j0a,j0b,j0c,j0d,j0e,j0f,j0g,j0h,j0i,j0j,j0k,j0l,j0m,j0n,j0o,j0p,j0q,j0r,j0s,j0t,j3k,j3l,j3m,j3n,j3o,j3p,setAll,j3q,j3r,j3s,j3t,j3u,j3v,j3w,j3x,j3y,j3z,j40,j41,j42,j43,j44,j45,j46,j47,j48,j49,j4a,j4b,j4c,j4d,j4e,j4f,j4g,j4h,j4i,j4j,j4k,j4l,j4m,j4n,j4o,j4p,j4q,j4r,j4s,j4t,j4u,j4v,j4w,j4x,j4y,j4z,j50,j51,j52,j53,j54,j55,j56,j57,Bool.not_true,Bool.not_false,Bool.true_and,Bool.and_true,Bool.false_and,Bool.and_false,Bool.true_or,Bool.or_true,Bool.false_or,Bool.or_false,cond_true,cond_false,aAllocN,aIndex,xLoad,xStore,xField,xFA,xIA,xLen,xMM,xAlloc,xIface,xInt,xStr,xIs,xBin,xAgg,xUn,xPick,xExt,knd,fls,ifc,isBoolK,isPtrK,isFuncK,isIfK,j58,j59,Nat.reduceBEq,eq_self,j5a,j5b,j5c,j5d,j5e,j5f,j5g,j5h,j5i,j5j,j5k,j5l,j5m,j5n,j5o,j5p,j5q,j5r,j5s,j5t,j5u,j5v,j5w,j5x,j5y,j5z,j60,j61,j62,j63,j64,j65,j66,j67,j68,j69,j6a,j6b,j6c,j6d,j6e,j6f,j6g,j6h,j6i,j6j,j6k,j6l,j6m,j6n,splice,List.size_toArray,decide_true,decide_false,Nat.reduceLeDiff,List.getD_cons_zero,List.getD_cons_succ,List.drop_succ_cons,List.drop_zero,List.take_succ_cons,List.take_zero,List.take_nil,List.drop_nil,Bool.false_eq_true,List.length_map,List.length_cons,List.length_nil,List.append_nil,List.nil_append,List.cons_append,List.getElem?_cons_succ,List.getElem?_cons_zero,List.length_append,List.set_cons_succ,List.set_cons_zero,List.map_cons,List.map_nil,if_true,if_false,Nat.reduceEqDiff,Nat.reduceAdd,Nat.reduceLT,reduceIte,true_and,and_true,and_self,Nat.zero_add,Nat.add_zero,ge_iff_le,gt_iff_lt,List.filter_cons,List.filter_nil,List.replicate_zero,List.replicate_succ,List.reverse_cons,List.reverse_nil,Option.map_some,Option.map_none, ti3, ti4, ti5, ti9, ti125, mkB_size, hn, setC_len, List.take_length]
    rw [take_setC, setC_len, drop_setC, List.append_nil]
    exact ⟨rfl, kfin_ret (p := .tuple [.agg (setC xs), .bool true]) (by simp [resV, rvs, rvOf, ti125, partP, setC_len, take_setC]) (by simp)⟩

/-- strings.Trim with bytes of a set. -/
def trimB (cs s : BA) : BA := mkB ((dropR (fun b => decide (b ∈ cs.data.toList)) s.data.toList).dropWhile fun b => decide (b ∈ cs.data.toList))
theorem spec74 (s cs : BA) (hx : ∀ b ∈ cs.data.toList, b.toNat < 128) (hc : 1 < cs.data.toList.length) : PSpec Tryd.prog 74 [.str s, .str cs] (.ret (.str (trimB cs s))) := by
  refine ispec74 ?_
  have hn1 : ¬ cs = eB0 := by rintro rfl; simp [eB0] at hc
  have hsz : ByteArray.size cs = cs.data.toList.length := rfl
  have hn2 : ¬ (cs.data.toList.length : Int) = 1 := by omega
  by_cases hs : s = eB0
  · simp only [x74, enum, j00,j01,j02,j03,j04,j05,j06,j07,j08,j09,j0a,j0b,j0c,j0d,j0e,j0f,j0g,j0h,j0i,j0j,j0k,j0l,j0m,j0n,j0o,j0p,j0q,j0r,j0s,j0t,j0u,j0v,j0w,j0x,j0y,j0z,j10,j11,j12,j13,j14,j15,j16,j17,j18,j19,j1a,j1b,j1c,j1d,j1e,j1f,j1g,j1h,j1i,j1j,j1k,j1l,j1m,j1n,j1o,j1p,j1q,j1r,j1s,j1t,j1u,j1v,j1w,j1x,j1y,j1z,j20,j21,j22,j23,j24,j25,j26,j27,j28,j29,j2a,j2b,j2c,j2d,j2e,j2f,j2g,j2h,j2i,j2j,j2k,j2l,j2m,j2n,j2o,j2p,j2q,j2r,j2s,j2t,j2u,j2v,j2w,j2x,j2y,j2z,j30,j31,j32,j33,j34,j35,j36,j37,j38,j39,j3a,j3b,j3c,j3d,j3e,j3f,j3g,j3h,j3i,j3j,j3k,j3l,j3m,j3n,j3o,j3p,setAll,j3q,j3r,j3s,j3t,j3u,j3v,j3w,j3x,j3y,j3z,j40,j41,j42,j43,j44,j45,j46,j47,j48,j49,j4a,j4b,j4c,j4d,j4e,j4f,j4g,j4h,j4i,j4j,j4k,j4l,j4m,j4n,j4o,j4p,j4q,j4r,j4s,j4t,j4u,j4v,j4w,j4x,j4y,j4z,j50,j51,j52,j53,j54,j55,j56,j57,Bool.not_true,Bool.not_false,Bool.true_and,Bool.and_true,Bool.false_and,Bool.and_false,Bool.true_or,Bool.or_true,Bool.false_or,Bool.or_false,cond_true,cond_false,aAllocN,aIndex,xLoad,xStore,xField,xFA,xIA,xLen,xMM,xAlloc,xIface,xInt,xStr,xIs,xBin,xAgg,xUn,xPick,xExt,knd,fls,ifc,isBoolK,isPtrK,isFuncK,isIfK,j58,j59,Nat.reduceBEq,eq_self,j5a,j5b,j5c,j5d,j5e,j5f,j5g,j5h,j5i,j5j,j5k,j5l,j5m,j5n,j5o,j5p,j5q,j5r,j5s,j5t,j5u,j5v,j5w,j5x,j5y,j5z,j60,j61,j62,j63,j64,j65,j66,j67,j68,j69,j6a,j6b,j6c,j6d,j6e,j6f,j6g,j6h,j6i,j6j,j6k,j6l,j6m,j6n,splice,List.size_toArray,decide_true,decide_false,Nat.reduceLeDiff,List.getD_cons_zero,List.getD_cons_succ,List.drop_succ_cons,List.drop_zero,List.take_succ_cons,List.take_zero,List.take_nil,List.drop_nil,Bool.false_eq_true,List.length_map,List.length_cons,List.length_nil,List.append_nil,List.nil_append,List.cons_append,List.getElem?_cons_succ,List.getElem?_cons_zero,List.length_append,List.set_cons_succ,List.set_cons_zero,List.map_cons,List.map_nil,if_true,if_false,Nat.reduceEqDiff,Nat.reduceAdd,Nat.reduceLT,reduceIte,true_and,and_true,and_self,Nat.zero_add,Nat.add_zero,ge_iff_le,gt_iff_lt,List.filter_cons,List.filter_nil,List.replicate_zero,List.replicate_succ,List.reverse_cons,List.reverse_nil,Option.map_some,Option.map_none, ti3, ti4, ti5, ti9, ti125, ti126, ti129, hs, hn1, hsz, hn2, eB0_def, const_eB0]
    exact kfin_ret rfl rfl
  · simp only [x74, enum, j00,j01,j02,j03,j04,j05,j06,j07,j08,j09,j0a,j0b,j0c,j0d,j0e,j0f,j0g,j0h,j0i,j0j,j0k,j0l,j0m,j0n,j0o,j0p,j0q,j0r,j0s,j0t,j0u,j0v,j0w,j0x,j0y,j0z,j10,j11,j12,j13,j14,j15,j16,j17,j18,j19,j1a,j1b,j1c,j1d,j1e,j1f,j1g,j1h,j1i,j1j,j1k,j1l,j1m,j1n,j1o,j1p,j1q,j1r,j1s,j1t,j1u,j1v,j1w,j1x,j1y,j1z,j20,j21,j22,j23,j24,j25,j26,j27,j28,j29,j2a,j2b,j2c,j2d,j2e,j2f,j2g,j2h,j2i,j2j,j2k,j2l,j2m,j2n,j2o,j2p,j2q,j2r,j2s,j2t,j2u,j2v,j2w,j2x,j2y,j2z,j30,j31,j32,j33,j34,j35,j36,j37,j38,j39,j3a,j3b,j3c,j3d,j3e,j3f,j3g,j3h,j3i,j3j,j3k,j3l,j3m,j3n,j3o,j3p,setAll,j3q,j3r,j3s,j3t,j3u,j3v,j3w,j3x,j3y,j3z,j40,j41,j42,j43,j44,j45,j46,j47,j48,j49,j4a,j4b,j4c,j4d,j4e,j4f,j4g,j4h,j4i,j4j,j4k,j4l,j4m,j4n,j4o,j4p,j4q,j4r,j4s,j4t,j4u,j4v,j4w,j4x,j4y,j4z,j50,j51,j52,j53,j54,j55,j56,j57,Bool.not_true,Bool.not_false,Bool.true_and,Bool.and_true,Bool.false_and,Bool.and_false,Bool.true_or,Bool.or_true,Bool.false_or,Bool.or_false,cond_true,cond_false,aAllocN,aIndex,xLoad,xStore,xField,xFA,xIA,xLen,xMM,xAlloc,xIface,xInt,xStr,xIs,xBin,xAgg,xUn,xPick,xExt,knd,fls,ifc,isBoolK,isPtrK,isFuncK,isIfK,j58,j59,Nat.reduceBEq,eq_self,j5a,j5b,j5c,j5d,j5e,j5f,j5g,j5h,j5i,j5j,j5k,j5l,j5m,j5n,j5o,j5p,j5q,j5r,j5s,j5t,j5u,j5v,j5w,j5x,j5y,j5z,j60,j61,j62,j63,j64,j65,j66,j67,j68,j69,j6a,j6b,j6c,j6d,j6e,j6f,j6g,j6h,j6i,j6j,j6k,j6l,j6m,j6n,splice,List.size_toArray,decide_true,decide_false,Nat.reduceLeDiff,List.getD_cons_zero,List.getD_cons_succ,List.drop_succ_cons,List.drop_zero,List.take_succ_cons,List.take_zero,List.take_nil,List.drop_nil,Bool.false_eq_true,List.length_map,List.length_cons,List.length_nil,List.append_nil,List.nil_append,List.cons_append,List.getElem?_cons_succ,List.getElem?_cons_zero,List.length_append,List.set_cons_succ,List.set_cons_zero,List.map_cons,List.map_nil,if_true,if_false,Nat.reduceEqDiff,Nat.reduceAdd,Nat.reduceLT,reduceIte,true_and,and_true,and_self,Nat.zero_add,Nat.add_zero,ge_iff_le,gt_iff_lt,List.filter_cons,List.filter_nil,List.replicate_zero,List.replicate_succ,List.reverse_cons,List.reverse_nil,Option.map_some,Option.map_none, ti3, ti4, ti5, ti9, ti125, ti126, ti129, hs, hn1, hsz, hn2, eB0_def, const_eB0]
    refine fun_ret isfn84 (spec84 cs.data.toList hx) fun _ => ?_
    simp only [j00,j01,j02,j03,j04,j05,j06,j07,j08,j09,j0a,j0b,j0c,j0d,j0e,j0f,j0g,j0h,j0i,j0j,j0k,j0l,j0m,j0n,j0o,j0p,j0q,j0r,j0s,j0t,j0u,j0v,j0w,j0x,j0y,j0z,j10,j11,j12,j13,j14,j15,j16,j17,j18,j19,j1a,j1b,j1c,j1d,j1e,j1f,j1g,j1h,j1i,j1j,j1k,j1l,j1m,j1n,j1o,j1p,j1q,j1r,j1s,j1t,j1u,j1v,j1w,j1x,j1y,j1z,j20,j21,j22,j23,j24,j25,j26,j27,j28,j29,j2a,j2b,j2c,j2d,j2e,j2f,j2g,j2h,j2i,j2j,j2k,j2l,j2m,j2n,j2o,j2p,j2q,j2r,j2s,j2t,j2u,j2v,j2w,j2x,j2y,j2z,j30,j31,j32,j33,j34,j35,j36,j37,j38,j39,j3a,j3b,j3c,j3d,j3e,j3f,j3g,j3h,j3i,j3j,j3k,j3l,j3m,j3n,j3o,j3p,setAll,j3q,j3r,j3s,j3t,j3u,j3v,j3w,j3x,j3y,j3z,j40,j41,j42,j43,j44,j45,j46,j47,j48,j49,j4a,j4b,j4c,j4d,j4e,j4f,j4g,j4h,j4i,j4j,j4k,j4l,j4m,j4n,j4o,j4p,j4q,j4r,j4s,j4t,j4u,j4v,j4w,j4x,j4y,j4z,j50,j51,j52,j53,j54,j55,j56,j57,Bool.not_true,Bool.not_false,Bool.true_and,Bool.and_true,Bool.false_and,Bool.and_false,Bool.true_or,Bool.or_true,Bool.false_or,Bool.or_false,cond_true,cond_false,aAllocN,aIndex,xLoad,xStore,xField,xFA,xIA,xLen,xMM,xAlloc,xIface,xInt,xStr,xIs,xBin,xAgg,xUn,xPick,xExt,knd,fls,ifc,isBoolK,isPtrK,isFuncK,isIfK,j58,j59,Nat.reduceBEq,eq_self,j5a,j5b,j5c,j5d,j5e,j5f,j5g,j5h,j5i,j5j,j5k,j5l,j5m,j5n,j5o,j5p,j5q,j5r,j5s,j5t,j5u,j5v,j5w,j5x,j5y,j5z,j60,j61,j62,j63,j64,j65,j66,j67,j68,j69,j6a,j6b,j6c,j6d,j6e,j6f,j6g,j6h,j6i,j6j,j6k,j6l,j6m,j6n,splice,List.size_toArray,decide_true,decide_false,Nat.reduceLeDiff,List.getD_cons_zero,List.getD_cons_succ,List.drop_succ_cons,List.drop_zero,List.take_succ_cons,List.take_zero,List.take_nil,List.drop_nil,Bool.false_eq_true,List.length_map,List.length_cons,List.length_nil,List.append_nil,List.nil_append,List.cons_append,List.getElem?_cons_succ,List.getElem?_cons_zero,List.length_append,List.set_cons_succ,List.set_cons_zero,List.map_cons,List.map_nil,if_true,if_false,Nat.reduceEqDiff,Nat.reduceAdd,Nat.reduceLT,reduceIte,true_and,and_true,and_self,Nat.zero_add,Nat.add_zero,ge_iff_le,gt_iff_lt,List.filter_cons,List.filter_nil,List.replicate_zero,List.replicate_succ,List.reverse_cons,List.reverse_nil,Option.map_some,Option.map_none, aExtract, ti3, ti4, ti5, ti9, ti125, ti126, ti129, setC_len, take_setC, drop_setC]
    refine fun_iret [0] [.cells (setC cs.data.toList)] isfn86 (r := .str (mkB (dropR (fun b => decide (b ∈ cs.data.toList)) s.data.toList))) ?_ (by simp) fun _ => ?_
    · have h86 := spec86 cs.data.toList s.data.toList
      rw [mkB_of] at h86
      simpa using h86
    simp only [j00,j01,j02,j03,j04,j05,j06,j07,j08,j09,j0a,j0b,j0c,j0d,j0e,j0f,j0g,j0h,j0i,j0j,j0k,j0l,j0m,j0n,j0o,j0p,j0q,j0r,j0s,j0t,j0u,j0v,j0w,j0x,j0y,j0z,j10,j11,j12,j13,j14,j15,j16,j17,j18,j19,j1a,j1b,j1c,j1d,j1e,j1f,j1g,j1h,j1i,j1j,j1k,j1l,j1m,j1n,j1o,j1p,j1q,j1r,j1s,j1t,j1u,j1v,j1w,j1x,j1y,j1z,j20,j21,j22,j23,j24,j25,j26,j27,j28,j29,j2a,j2b,j2c,j2d,j2e,j2f,j2g,j2h,j2i,j2j,j2k,j2l,j2m,j2n,j2o,j2p,j2q,j2r,j2s,j2t,j2u,j2v,j2w,j2x,j2y,j2z,j30,j31,j32,j33,j34,j35,j36,j37,j38,j39,j3a,j3b,j3c,j3d,j3e,j3f,j3g,j3h,j3i,j3j,j3k,j3l,j3m,j3n,j3o,j3p,setAll,j3q,j3r,j3s,j3t,j3u,j3v,j3w,j3x,j3y,j3z,j40,j41,j42,j43,j44,j45,j46,j47,j48,j49,j4a,j4b,j4c,j4d,j4e,j4f,j4g,j4h,j4i,j4j,j4k,j4l,j4m,j4n,j4o,j4p,j4q,j4r,j4s,j4t,j4u,j4v,j4w,j4x,j4y,j4z,j50,j51,j52,j53,j54,j55,j56,j57,Bool.not_true,Bool.not_false,Bool.true_and,Bool.and_true,Bool.false_and,Bool.and_false,Bool.true_or,Bool.or_true,Bool.false_or,Bool.or_false,cond_true,cond_false,aAllocN,aIndex,xLoad,xStore,xField,xFA,xIA,xLen,xMM,xAlloc,xIface,xInt,xStr,xIs,xBin,xAgg,xUn,xPick,xExt,knd,fls,ifc,isBoolK,isPtrK,isFuncK,isIfK,j58,j59,Nat.reduceBEq,eq_self,j5a,j5b,j5c,j5d,j5e,j5f,j5g,j5h,j5i,j5j,j5k,j5l,j5m,j5n,j5o,j5p,j5q,j5r,j5s,j5t,j5u,j5v,j5w,j5x,j5y,j5z,j60,j61,j62,j63,j64,j65,j66,j67,j68,j69,j6a,j6b,j6c,j6d,j6e,j6f,j6g,j6h,j6i,j6j,j6k,j6l,j6m,j6n,splice,List.size_toArray,decide_true,decide_false,Nat.reduceLeDiff,List.getD_cons_zero,List.getD_cons_succ,List.drop_succ_cons,List.drop_zero,List.take_succ_cons,List.take_zero,List.take_nil,List.drop_nil,Bool.false_eq_true,List.length_map,List.length_cons,List.length_nil,List.append_nil,List.nil_append,List.cons_append,List.getElem?_cons_succ,List.getElem?_cons_zero,List.length_append,List.set_cons_succ,List.set_cons_zero,List.map_cons,List.map_nil,if_true,if_false,Nat.reduceEqDiff,Nat.reduceAdd,Nat.reduceLT,reduceIte,true_and,and_true,and_self,Nat.zero_add,Nat.add_zero,ge_iff_le,gt_iff_lt,List.filter_cons,List.filter_nil,List.replicate_zero,List.replicate_succ,List.reverse_cons,List.reverse_nil,Option.map_some,Option.map_none, backN, backSet, backNew, AObj.ren, PV.ren, ren_setC]
    refine fun_iret [0] [.cells (setC cs.data.toList)] isfn85 (r := .str (trimB cs s)) ?_ (by simp) fun _ => ?_
    · have h85 := spec85 cs.data.toList (dropR (fun b => decide (b ∈ cs.data.toList)) s.data.toList)
      simpa [trimB] using h85
    simp only [j00,j01,j02,j03,j04,j05,j06,j07,j08,j09,j0a,j0b,j0c,j0d,j0e,j0f,j0g,j0h,j0i,j0j,j0k,j0l,j0m,j0n,j0o,j0p,j0q,j0r,j0s,j0t,j0u,j0v,j0w,j0x,j0y,j0z,j10,j11,j12,j13,j14,j15,j16,j17,j18,j19,j1a,j1b,j1c,j1d,j1e,j1f,j1g,j1h,j1i,j1j,j1k,j1l,j1m,j1n,j1o,j1p,j1q,j1r,j1s,j1t,j1u,j1v,j1w,j1x,j1y,j1z,j20,j21,j22,j23,j24,j25,j26,j27,j28,j29,j2a,j2b,j2c,j2d,j2e,j2f,j2g,j2h,j2i,j2j,j2k,j2l,j2m,j2n,j2o,j2p,j2q,j2r,j2s,j2t,j2u,j2v,j2w,j2x,j2y,j2z,j30,j31,j32,j33,j34,j35,j36,j37,j38,j39,j3a,j3b,j3c,j3d,j3e,j3f,j3g,j3h,j3i,j3j,j3k,j3l,j3m,j3n,j3o,j3p,setAll,j3q,j3r,j3s,j3t,j3u,j3v,j3w,j3x,j3y,j3z,j40,j41,j42,j43,j44,j45,j46,j47,j48,j49,j4a,j4b,j4c,j4d,j4e,j4f,j4g,j4h,j4i,j4j,j4k,j4l,j4m,j4n,j4o,j4p,j4q,j4r,j4s,j4t,j4u,j4v,j4w,j4x,j4y,j4z,j50,j51,j52,j53,j54,j55,j56,j57,Bool.not_true,Bool.not_false,Bool.true_and,Bool.and_true,Bool.false_and,Bool.and_false,Bool.true_or,Bool.or_true,Bool.false_or,Bool.or_false,cond_true,cond_false,aAllocN,aIndex,xLoad,xStore,xField,xFA,xIA,xLen,xMM,xAlloc,xIface,xInt,xStr,xIs,xBin,xAgg,xUn,xPick,xExt,knd,fls,ifc,isBoolK,isPtrK,isFuncK,isIfK,j58,j59,Nat.reduceBEq,eq_self,j5a,j5b,j5c,j5d,j5e,j5f,j5g,j5h,j5i,j5j,j5k,j5l,j5m,j5n,j5o,j5p,j5q,j5r,j5s,j5t,j5u,j5v,j5w,j5x,j5y,j5z,j60,j61,j62,j63,j64,j65,j66,j67,j68,j69,j6a,j6b,j6c,j6d,j6e,j6f,j6g,j6h,j6i,j6j,j6k,j6l,j6m,j6n,splice,List.size_toArray,decide_true,decide_false,Nat.reduceLeDiff,List.getD_cons_zero,List.getD_cons_succ,List.drop_succ_cons,List.drop_zero,List.take_succ_cons,List.take_zero,List.take_nil,List.drop_nil,Bool.false_eq_true,List.length_map,List.length_cons,List.length_nil,List.append_nil,List.nil_append,List.cons_append,List.getElem?_cons_succ,List.getElem?_cons_zero,List.length_append,List.set_cons_succ,List.set_cons_zero,List.map_cons,List.map_nil,if_true,if_false,Nat.reduceEqDiff,Nat.reduceAdd,Nat.reduceLT,reduceIte,true_and,and_true,and_self,Nat.zero_add,Nat.add_zero,ge_iff_le,gt_iff_lt,List.filter_cons,List.filter_nil,List.replicate_zero,List.replicate_succ,List.reverse_cons,List.reverse_nil,Option.map_some,Option.map_none, backN, backSet, backNew, AObj.ren, PV.ren, ren_setC]
    exact kfin_ret rfl rfl
theorem mkB_nil (l : List UInt8) : mkB l = ⟨#[]⟩ ↔ l = [] := by
  constructor
  · intro h
    have := congrArg ByteArray.size h
    rw [mkB_size] at this
    exact List.eq_nil_of_length_eq_zero this
  · rintro rfl; rfl
theorem all_dropR (p : UInt8 → Bool) (l : List UInt8) : (∀ x ∈ dropR p l, p x = true) ↔ ∀ x ∈ l, p x = true := by
  unfold dropR
  simp only [List.mem_reverse]
  constructor
  · intro h x hx
    have hx' : x ∈ l.reverse := List.mem_reverse.2 hx
    rw [← List.takeWhile_append_dropWhile (p := p) (l := l.reverse), List.mem_append] at hx'
    rcases hx' with h1 | h1
    · exact List.all_eq_true.1 List.all_takeWhile x h1
    · exact h x h1
  · intro h x hx
    exact h x (List.mem_reverse.1 ((List.dropWhile_suffix p).subset hx))
theorem trimB_nil (cs s : BA) : trimB cs s = ⟨#[]⟩ ↔ ∀ b ∈ s.data.toList, b ∈ cs.data.toList := by
  unfold trimB
  rw [mkB_nil]
  have h : ∀ l : List UInt8, (l.dropWhile fun b => decide (b ∈ cs.data.toList)) = [] ↔ ∀ x ∈ l, decide (x ∈ cs.data.toList) = true := fun l => by
    induction l with
    | nil => simp
    | cons x l ih =>
      rw [List.dropWhile_cons]
      split
      · rename_i hx
        rw [ih]
        simp at hx
        simp [hx]
      · rename_i hx
        simp at hx
        simp [hx]
  rw [h, all_dropR]
  simp
end Go.Proofs.YtlfngjemfpjegaaDoor.Px
