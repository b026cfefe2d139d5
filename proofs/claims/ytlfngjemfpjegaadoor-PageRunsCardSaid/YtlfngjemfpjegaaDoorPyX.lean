/- PageRuns. -/
import Derived.Test.YtlfngjemfpjegaaDoorPyV
import Derived.Test.YtlfngjemfpjegaaDoorPyW
import Derived.Test.YtlfngjemfpjegaaDoorPyD
namespace Go.Proofs.YtlfngjemfpjegaaDoor.Px
open Go Go.RowKit Go.Proofs
set_option linter.unusedVariables false
set_option linter.unnecessarySimpa false
set_option linter.unusedSimpArgs false
set_option maxRecDepth 4000
def x3 : XCode :=
  (.seq
   (.reg [⟨some 0, none, Op.assign (Operand.const (Value.bool false)), false⟩])
   (.seq
    (.reg [⟨some 7, none, Op.build 25 #[(0, Operand.const (Value.int IntKind.i64 3)), (1, Operand.const (Value.int IntKind.i64 1))], false⟩,
      ⟨some 8, none, Op.buildSlice 23 1 #[(0, Operand.tmp 7)], false⟩,
      ⟨some 9, none, Op.build 25 #[(0, Operand.const (Value.int IntKind.i64 1)), (2, Operand.const (Value.string { data := #[108, 105] })), (5, Operand.tmp 8)], false⟩,
      ⟨some 10, none, Op.buildSlice 23 1 #[(0, Operand.tmp 9)], false⟩,
      ⟨some 11, none, Op.build 25 #[(0, Operand.const (Value.int IntKind.i64 6)), (5, Operand.tmp 10)], false⟩,
      ⟨some 12, none, Op.buildSlice 23 1 #[(0, Operand.tmp 11)], false⟩,
      ⟨some 13, none, Op.build 25 #[(0, Operand.const (Value.int IntKind.i64 1)), (2, Operand.const (Value.string { data := #[117, 108] })), (5, Operand.tmp 12)], false⟩,
      ⟨some 1, none, Op.alloc 25, false⟩,
      ⟨none, none, Op.store 25 (Operand.tmp 1) (Operand.tmp 13), false⟩])
    (.seq
     (.reg [⟨some 15, none, Op.load 25 (Operand.tmp 1), false⟩,
       ⟨some 16, none, Op.buildSlice 32 2 #[(0, Operand.const (Value.int IntKind.i64 2)), (1, Operand.const (Value.int IntKind.i64 7))], false⟩,
       ⟨some 17, none, Op.call { callee := Callee.value (Operand.func 9), args := #[Operand.tmp 15, Operand.tmp 16, Operand.const (Value.slice none 0 0)], argTypes := #[25, 32, 38] }, false⟩,
       ⟨some 14, none, Op.move (Operand.tmp 17), false⟩,
       ⟨some 18, none, Op.extract (Operand.tmp 14) 0, false⟩,
       ⟨some 19, none, Op.extract (Operand.tmp 14) 1, false⟩,
       ⟨some 2, none, Op.alloc 28, false⟩,
       ⟨none, none, Op.store 28 (Operand.tmp 2) (Operand.tmp 18), false⟩,
       ⟨some 3, none, Op.assign (Operand.tmp 19), false⟩])
     (.seq
      (.reg [⟨some 21, none, Op.load 25 (Operand.tmp 1), false⟩,
        ⟨some 22, none, Op.buildSlice 32 2 #[(0, Operand.const (Value.int IntKind.i64 99)), (1, Operand.const (Value.int IntKind.i64 7))], false⟩,
        ⟨some 23, none, Op.call { callee := Callee.value (Operand.func 9), args := #[Operand.tmp 21, Operand.tmp 22, Operand.const (Value.slice none 0 0)], argTypes := #[25, 32, 38] }, false⟩,
        ⟨some 20, none, Op.move (Operand.tmp 23), false⟩,
        ⟨some 24, none, Op.extract (Operand.tmp 20) 0, false⟩,
        ⟨some 25, none, Op.extract (Operand.tmp 20) 1, false⟩,
        ⟨some 4, none, Op.alloc 28, false⟩,
        ⟨none, none, Op.store 28 (Operand.tmp 4) (Operand.tmp 24), false⟩,
        ⟨some 5, none, Op.assign (Operand.tmp 25), false⟩])
      (.seq
       (.reg [⟨some 26, none, Op.build 28 #[(2, Operand.const (Value.string { data := #[55] }))], false⟩,
         ⟨some 27, none, Op.buildSlice 26 1 #[(0, Operand.tmp 26)], false⟩,
         ⟨some 6, none, Op.assign (Operand.tmp 27), false⟩])
       (.seq
        (.reg [⟨some 28, none, Op.move (Operand.tmp 3), false⟩,
          ⟨some 29, none, Op.binOp BinOp.eql 29 (Operand.tmp 28) (Operand.const (Value.int IntKind.i64 0)) 29, false⟩,
          ⟨some 30, none, Op.move (Operand.tmp 29), false⟩,
          ⟨some 31, some (30, true), Op.load 28 (Operand.tmp 2), false⟩,
          ⟨some 32, some (30, true), Op.move (Operand.tmp 6), false⟩,
          ⟨some 33, some (30, true), Op.build 28 #[(0, Operand.const (Value.string { data := #[108, 105] })), (1, Operand.const (Value.string { data := #[48] })), (4, Operand.tmp 32)], false⟩,
          ⟨some 34, some (30, true), Op.move (Operand.tmp 6), false⟩,
          ⟨some 35, some (30, true), Op.build 28 #[(0, Operand.const (Value.string { data := #[108, 105] })), (1, Operand.const (Value.string { data := #[49] })), (4, Operand.tmp 34)], false⟩,
          ⟨some 36, some (30, true), Op.buildSlice 26 2 #[(0, Operand.tmp 33), (1, Operand.tmp 35)], false⟩,
          ⟨some 37, some (30, true), Op.build 28 #[(0, Operand.const (Value.string { data := #[117, 108] })), (4, Operand.tmp 36)], false⟩,
          ⟨some 38, some (30, true), Op.call { callee := Callee.value (Operand.func 10), args := #[Operand.tmp 31, Operand.tmp 37], argTypes := #[28, 28] }, false⟩,
          ⟨some 39, none, Op.pick (Operand.tmp 30) (Operand.tmp 38) (Operand.const (Value.bool false)), false⟩,
          ⟨some 40, none, Op.move (Operand.tmp 39), false⟩,
          ⟨some 41, some (40, true), Op.move (Operand.tmp 5), false⟩,
          ⟨some 42, some (40, true), Op.binOp BinOp.eql 29 (Operand.tmp 41) (Operand.const (Value.int IntKind.i64 6)) 29, false⟩,
          ⟨some 43, none, Op.pick (Operand.tmp 40) (Operand.tmp 42) (Operand.const (Value.bool false)), false⟩,
          ⟨some 44, none, Op.move (Operand.tmp 43), false⟩,
          ⟨some 45, some (44, true), Op.load 25 (Operand.tmp 1), false⟩,
          ⟨some 46, some (44, true), Op.call { callee := Callee.value (Operand.func 11), args := #[Operand.tmp 45, Operand.const (Value.int IntKind.i64 2)], argTypes := #[25, 3] }, false⟩,
          ⟨some 47, none, Op.pick (Operand.tmp 44) (Operand.tmp 46) (Operand.const (Value.bool false)), false⟩,
          ⟨some 48, none, Op.move (Operand.tmp 47), false⟩,
          ⟨some 49, some (48, true), Op.load 25 (Operand.tmp 1), false⟩,
          ⟨some 50, some (48, true), Op.call { callee := Callee.value (Operand.func 11), args := #[Operand.tmp 49, Operand.const (Value.int IntKind.i64 1)], argTypes := #[25, 3] }, false⟩,
          ⟨some 51, some (48, true), Op.unOp UnOp.not 4 (Operand.tmp 50), false⟩,
          ⟨some 52, none, Op.pick (Operand.tmp 48) (Operand.tmp 51) (Operand.const (Value.bool false)), false⟩,
          ⟨some 0, none, Op.assign (Operand.tmp 52), false⟩])
        .ret))))))
theorem ispec3 {args : List PV} {L L' : List AObj} {out : Out} (h : aw Tryd.prog L.length 53 x3 (kfin Tryd.prog [.tmp 0] L.length 53 out L') ⟨enum 0 args, L⟩) : ISpec Tryd.prog 3 args L out L' :=
  ispec_of_aw mixd (fn := Tryd.f3) (x := x3) Tryd.func3 rfl (by kernel_rfl) (by kernel_rfl) rfl h
theorem isfn3 : isFn Tryd.prog 3 = true := by kernel_rfl



def ulB : BA := ⟨#[117, 108]⟩
def liB : BA := ⟨#[108, 105]⟩
def sevB : BA := ⟨#[55]⟩
def nulB : BA := ⟨#[48]⟩
def oneB : BA := ⟨#[49]⟩
def tR : Tp := .mk 1 0 ulB eB [] [.mk 6 0 eB eB [] [.mk 1 0 liB eB [] [.mk 3 1 eB eB [] []]]]
def uR : Tr := .mk ulB eB eB [] [.mk liB nulB eB [] [.mk eB eB sevB [] []], .mk liB oneB eB [] [.mk eB eB sevB [] []]]
theorem itoa7 : itoa 7 = sevB := by
  show (⟨(Lib.itoa ((7 : Nat) : Int)).toArray⟩ : BA) = _
  rw [Lib.itoa_nonneg, Lib.decDigits]; rfl
theorem itoa0 : itoa 0 = nulB := by
  show (⟨(Lib.itoa ((0 : Nat) : Int)).toArray⟩ : BA) = _
  rw [Lib.itoa_nonneg, Lib.decDigits]; rfl
theorem itoa1 : itoa 1 = oneB := by
  show (⟨(Lib.itoa ((1 : Nat) : Int)).toArray⟩ : BA) = _
  rw [Lib.itoa_nonneg, Lib.decDigits]; rfl
theorem liB_ne : ¬ liB = eB := by decide
theorem ulB_ne : ¬ ulB = eB := by decide
theorem sevB_ne : ¬ sevB = eB := by decide
theorem row_R : rowP [2, 7] [] tR 0 = .ok ([uR], 6) := by
  simp [tR, rowP, kidsP, numP, eachTo, elemT, textT, keyed, uR, Tr.g, Tr.t, Tr.ats, Tr.ks, liB_ne, itoa7, itoa0, itoa1]
theorem row_R2 : rowP [99, 7] [] tR 0 = .error (timesB, 99) := by
  simp [tR, rowP, kidsP, numP, eachTo]
theorem trim_of {s : BA} (h : s.data.toList.all (fun b => letB.data.toList.contains b) = true) : trimB letB s = eB := by
  rw [show eB = (⟨#[]⟩ : BA) from rfl, trimB_nil]
  intro b hb
  have := List.all_eq_true.1 h b hb
  simpa using this
theorem text_R : rightOK (.mk eB eB sevB [] []) := by
  rw [rightOK]; exact .inl ⟨rfl, rfl, rfl, rfl, by decide⟩
theorem elem_R {g k : BA} {ks : List Tr} (h1 : ByteArray.size g ≤ 16) (h2 : g.data.toList.all (fun b => letB.data.toList.contains b) = true) (h3 : ks.length ≤ 24) (h4 : ByteArray.size k ≤ 64) : elemOK (.mk g k eB [] ks) :=
  ⟨⟨h1, trim_of h2, rfl, h3, h4⟩, fun i h => by simp [Tr.ats] at h⟩
theorem right_R : rightT uR := by
  refine ⟨?_, by decide, by decide⟩
  unfold uR
  rw [rightOK]
  refine .inr ⟨ulB_ne, elem_R (by decide) (by decide) (by decide) (by decide), ?_⟩
  rw [rightOKs_iff]
  intro t ht
  simp only [List.mem_cons, List.not_mem_nil, or_false] at ht
  rcases ht with rfl | rfl
  all_goals
    rw [rightOK]
    refine .inr ⟨liB_ne, elem_R (by decide) (by decide) (by decide) (by decide), ?_⟩
    rw [rightOKs_iff]
    intro t ht
    simp only [List.mem_cons, List.not_mem_nil, or_false] at ht
    subst ht
    exact text_R
open Classical in
theorem rend_R : rendP [2, 7] [] tR = .ok (uR, 6) := by
  unfold rendP
  rw [row_R]
  show (if uR.g ≠ eB ∧ rightT uR then (Except.ok (uR, (6 : Int)) : Except Er (Tr × Int)) else .error (shapeB, 1)) = _
  rw [if_pos ⟨ulB_ne, right_R⟩]
theorem render_R : renderP [2, 7] [] tR = (uR, 0) := by
  unfold renderP
  rw [rend_R]
theorem render_R2 : renderP [99, 7] [] tR = (zeroT, 6) := by
  unfold renderP rendP
  rw [row_R2]
  rfl
theorem right_R2 : rightTp 2 tR := by
  refine ⟨rfl, by decide, by decide, ?_⟩
  unfold tR
  simp [rightP, rightPs, nodeOK, inB]
  decide
theorem right_R3 : ¬ rightTp 1 tR := by
  rintro ⟨_, _, _, h⟩
  unfold tR at h
  simp [rightP, rightPs, nodeOK, inB] at h
theorem fine_R : tR.fine := by
  simp [tR, Tp.fine, finePs]
theorem bsl {P : Program} {t e : TypeId} {n : Nat} {ti te : TI} {parts : List (Nat × PV)} {K : Eff → Prop} (hT : tinf P t = some ti) (hk : ti.kd = .slice e) (hE : tinf P e = some te) (h1 : te.zero.ok = true) (h2 : te.zero.cells.length = te.sz) (h3 : 0 < te.sz) (h4 : (n + 1) * te.sz ≤ 16777216)
    (hp : parts = enumL 0 (parts.map (·.2))) (hl : parts.length = n + 1) (hx : (parts.all fun x => x.2.ok && decide (x.2.cells.length = te.sz)) = true) (hK : K { v := .slice .exact (parts.map (·.2)) }) : aBuildSlice P t (n + 1) parts K := by
  unfold aBuildSlice
  rw [hT]
  simp only [hk, hE]
  refine ⟨⟨hp, hl⟩, ⟨h1, h2, h3, h4⟩, fun x hx' => ?_, hK⟩
  obtain ⟨y, hy, rfl⟩ := List.mem_map.1 hx'
  have := List.all_eq_true.1 hx y hy
  simpa using this
theorem spec3 : PSpec Tryd.prog 3 [] (.ret (.bool true)) := by
  refine ispec3 ?_
  simp only [x3, enum, j00,j01,j02,j03,j04,j05,j06,j07,j08,j09,j0a,j0b,j0c,j0d,j0e,j0f,j0g,j0h,j0i,j0j,j0k,j0l,j0m,j0n,j0o,j0p,j0q,j0r,j0s,j0t,j3k,j3l,j3m,j3n,j3o,j3p,setAll,j3q,j3r,j3s,j3t,j3u,j3v,j3w,j3x,j3y,j3z,j40,j41,j42,j43,j44,j45,j46,j47,j48,j49,j4a,j4b,j4c,j4d,j4e,j4f,j4g,j4h,j4i,j4j,j4k,j4l,j4m,j4n,j4o,j4p,j4q,j4r,j4s,j4t,j4u,j4v,j4w,j4x,j4y,j4z,j50,j51,j52,j53,j54,j55,j56,j57,Bool.not_true,Bool.not_false,Bool.true_and,Bool.and_true,Bool.false_and,Bool.and_false,Bool.true_or,Bool.or_true,Bool.false_or,Bool.or_false,cond_true,cond_false,aAllocN,aIndex,xLoad,xStore,xField,xFA,xIA,xLen,xMM,xAlloc,xIface,xInt,xStr,xIs,xBin,xAgg,xUn,xPick,xExt,knd,fls,ifc,isBoolK,isPtrK,isFuncK,isIfK,j58,j59,Nat.reduceBEq,eq_self,j5a,j5b,j5c,j5d,j5e,j5f,j5g,j5h,j5i,j5j,j5k,j5l,j5m,j5n,j5o,j5p,j5q,j5r,j5s,j5t,j5u,j5v,j5w,j5x,j5y,j5z,j60,j61,j62,j63,j64,j65,j66,j67,j68,j69,j6a,j6b,j6c,j6d,j6e,j6f,j6g,j6h,j6i,j6j,j6k,j6l,j6m,j6n,splice,List.size_toArray,decide_true,decide_false,Nat.reduceLeDiff,List.getD_cons_zero,List.getD_cons_succ,List.drop_succ_cons,List.drop_zero,List.take_succ_cons,List.take_zero,List.take_nil,List.drop_nil,Bool.false_eq_true,List.length_map,List.length_cons,List.length_nil,List.append_nil,List.nil_append,List.cons_append,List.getElem?_cons_succ,List.getElem?_cons_zero,List.length_append,List.set_cons_succ,List.set_cons_zero,List.map_cons,List.map_nil,if_true,if_false,Nat.reduceEqDiff,Nat.reduceAdd,Nat.reduceLT,reduceIte,true_and,and_true,and_self,Nat.zero_add,Nat.add_zero,ge_iff_le,gt_iff_lt,List.filter_cons,List.filter_nil,List.replicate_zero,List.replicate_succ,List.reverse_cons,List.reverse_nil,Option.map_some,Option.map_none, ti25, ti23, ti28, ti26, ti32, ti3, ti29, ti9, ti30, ti4, aBuild, fillP]
  refine ⟨_, rfl, bsl ti23 rfl ti25 rfl rfl (by decide) (by decide) rfl rfl rfl ?_⟩
  simp only [j00,j01,j02,j03,j04,j05,j06,j07,j08,j09,j0a,j0b,j0c,j0d,j0e,j0f,j0g,j0h,j0i,j0j,j0k,j0l,j0m,j0n,j0o,j0p,j0q,j0r,j0s,j0t,j3k,j3l,j3m,j3n,j3o,j3p,setAll,j3q,j3r,j3s,j3t,j3u,j3v,j3w,j3x,j3y,j3z,j40,j41,j42,j43,j44,j45,j46,j47,j48,j49,j4a,j4b,j4c,j4d,j4e,j4f,j4g,j4h,j4i,j4j,j4k,j4l,j4m,j4n,j4o,j4p,j4q,j4r,j4s,j4t,j4u,j4v,j4w,j4x,j4y,j4z,j50,j51,j52,j53,j54,j55,j56,j57,Bool.not_true,Bool.not_false,Bool.true_and,Bool.and_true,Bool.false_and,Bool.and_false,Bool.true_or,Bool.or_true,Bool.false_or,Bool.or_false,cond_true,cond_false,aAllocN,aIndex,xLoad,xStore,xField,xFA,xIA,xLen,xMM,xAlloc,xIface,xInt,xStr,xIs,xBin,xAgg,xUn,xPick,xExt,knd,fls,ifc,isBoolK,isPtrK,isFuncK,isIfK,j58,j59,Nat.reduceBEq,eq_self,j5a,j5b,j5c,j5d,j5e,j5f,j5g,j5h,j5i,j5j,j5k,j5l,j5m,j5n,j5o,j5p,j5q,j5r,j5s,j5t,j5u,j5v,j5w,j5x,j5y,j5z,j60,j61,j62,j63,j64,j65,j66,j67,j68,j69,j6a,j6b,j6c,j6d,j6e,j6f,j6g,j6h,j6i,j6j,j6k,j6l,j6m,j6n,splice,List.size_toArray,decide_true,decide_false,Nat.reduceLeDiff,List.getD_cons_zero,List.getD_cons_succ,List.drop_succ_cons,List.drop_zero,List.take_succ_cons,List.take_zero,List.take_nil,List.drop_nil,Bool.false_eq_true,List.length_map,List.length_cons,List.length_nil,List.append_nil,List.nil_append,List.cons_append,List.getElem?_cons_succ,List.getElem?_cons_zero,List.length_append,List.set_cons_succ,List.set_cons_zero,List.map_cons,List.map_nil,if_true,if_false,Nat.reduceEqDiff,Nat.reduceAdd,Nat.reduceLT,reduceIte,true_and,and_true,and_self,Nat.zero_add,Nat.add_zero,ge_iff_le,gt_iff_lt,List.filter_cons,List.filter_nil,List.replicate_zero,List.replicate_succ,List.reverse_cons,List.reverse_nil,Option.map_some,Option.map_none, ti25, ti23, ti28, ti26, ti32, ti3, ti29, ti9, ti30, ti4, aBuild, fillP]
  refine ⟨_, rfl, bsl ti23 rfl ti25 rfl rfl (by decide) (by decide) rfl rfl rfl ?_⟩
  simp only [j00,j01,j02,j03,j04,j05,j06,j07,j08,j09,j0a,j0b,j0c,j0d,j0e,j0f,j0g,j0h,j0i,j0j,j0k,j0l,j0m,j0n,j0o,j0p,j0q,j0r,j0s,j0t,j3k,j3l,j3m,j3n,j3o,j3p,setAll,j3q,j3r,j3s,j3t,j3u,j3v,j3w,j3x,j3y,j3z,j40,j41,j42,j43,j44,j45,j46,j47,j48,j49,j4a,j4b,j4c,j4d,j4e,j4f,j4g,j4h,j4i,j4j,j4k,j4l,j4m,j4n,j4o,j4p,j4q,j4r,j4s,j4t,j4u,j4v,j4w,j4x,j4y,j4z,j50,j51,j52,j53,j54,j55,j56,j57,Bool.not_true,Bool.not_false,Bool.true_and,Bool.and_true,Bool.false_and,Bool.and_false,Bool.true_or,Bool.or_true,Bool.false_or,Bool.or_false,cond_true,cond_false,aAllocN,aIndex,xLoad,xStore,xField,xFA,xIA,xLen,xMM,xAlloc,xIface,xInt,xStr,xIs,xBin,xAgg,xUn,xPick,xExt,knd,fls,ifc,isBoolK,isPtrK,isFuncK,isIfK,j58,j59,Nat.reduceBEq,eq_self,j5a,j5b,j5c,j5d,j5e,j5f,j5g,j5h,j5i,j5j,j5k,j5l,j5m,j5n,j5o,j5p,j5q,j5r,j5s,j5t,j5u,j5v,j5w,j5x,j5y,j5z,j60,j61,j62,j63,j64,j65,j66,j67,j68,j69,j6a,j6b,j6c,j6d,j6e,j6f,j6g,j6h,j6i,j6j,j6k,j6l,j6m,j6n,splice,List.size_toArray,decide_true,decide_false,Nat.reduceLeDiff,List.getD_cons_zero,List.getD_cons_succ,List.drop_succ_cons,List.drop_zero,List.take_succ_cons,List.take_zero,List.take_nil,List.drop_nil,Bool.false_eq_true,List.length_map,List.length_cons,List.length_nil,List.append_nil,List.nil_append,List.cons_append,List.getElem?_cons_succ,List.getElem?_cons_zero,List.length_append,List.set_cons_succ,List.set_cons_zero,List.map_cons,List.map_nil,if_true,if_false,Nat.reduceEqDiff,Nat.reduceAdd,Nat.reduceLT,reduceIte,true_and,and_true,and_self,Nat.zero_add,Nat.add_zero,ge_iff_le,gt_iff_lt,List.filter_cons,List.filter_nil,List.replicate_zero,List.replicate_succ,List.reverse_cons,List.reverse_nil,Option.map_some,Option.map_none, ti25, ti23, ti28, ti26, ti32, ti3, ti29, ti9, ti30, ti4, aBuild, fillP]
  refine ⟨_, rfl, bsl ti23 rfl ti25 rfl rfl (by decide) (by decide) rfl rfl rfl ?_⟩
  simp only [j00,j01,j02,j03,j04,j05,j06,j07,j08,j09,j0a,j0b,j0c,j0d,j0e,j0f,j0g,j0h,j0i,j0j,j0k,j0l,j0m,j0n,j0o,j0p,j0q,j0r,j0s,j0t,j3k,j3l,j3m,j3n,j3o,j3p,setAll,j3q,j3r,j3s,j3t,j3u,j3v,j3w,j3x,j3y,j3z,j40,j41,j42,j43,j44,j45,j46,j47,j48,j49,j4a,j4b,j4c,j4d,j4e,j4f,j4g,j4h,j4i,j4j,j4k,j4l,j4m,j4n,j4o,j4p,j4q,j4r,j4s,j4t,j4u,j4v,j4w,j4x,j4y,j4z,j50,j51,j52,j53,j54,j55,j56,j57,Bool.not_true,Bool.not_false,Bool.true_and,Bool.and_true,Bool.false_and,Bool.and_false,Bool.true_or,Bool.or_true,Bool.false_or,Bool.or_false,cond_true,cond_false,aAllocN,aIndex,xLoad,xStore,xField,xFA,xIA,xLen,xMM,xAlloc,xIface,xInt,xStr,xIs,xBin,xAgg,xUn,xPick,xExt,knd,fls,ifc,isBoolK,isPtrK,isFuncK,isIfK,j58,j59,Nat.reduceBEq,eq_self,j5a,j5b,j5c,j5d,j5e,j5f,j5g,j5h,j5i,j5j,j5k,j5l,j5m,j5n,j5o,j5p,j5q,j5r,j5s,j5t,j5u,j5v,j5w,j5x,j5y,j5z,j60,j61,j62,j63,j64,j65,j66,j67,j68,j69,j6a,j6b,j6c,j6d,j6e,j6f,j6g,j6h,j6i,j6j,j6k,j6l,j6m,j6n,splice,List.size_toArray,decide_true,decide_false,Nat.reduceLeDiff,List.getD_cons_zero,List.getD_cons_succ,List.drop_succ_cons,List.drop_zero,List.take_succ_cons,List.take_zero,List.take_nil,List.drop_nil,Bool.false_eq_true,List.length_map,List.length_cons,List.length_nil,List.append_nil,List.nil_append,List.cons_append,List.getElem?_cons_succ,List.getElem?_cons_zero,List.length_append,List.set_cons_succ,List.set_cons_zero,List.map_cons,List.map_nil,if_true,if_false,Nat.reduceEqDiff,Nat.reduceAdd,Nat.reduceLT,reduceIte,true_and,and_true,and_self,Nat.zero_add,Nat.add_zero,ge_iff_le,gt_iff_lt,List.filter_cons,List.filter_nil,List.replicate_zero,List.replicate_succ,List.reverse_cons,List.reverse_nil,Option.map_some,Option.map_none, ti25, ti23, ti28, ti26, ti32, ti3, ti29, ti9, ti30, ti4, aBuild, fillP]
  refine ⟨_, rfl, ?_⟩
  simp only [j00,j01,j02,j03,j04,j05,j06,j07,j08,j09,j0a,j0b,j0c,j0d,j0e,j0f,j0g,j0h,j0i,j0j,j0k,j0l,j0m,j0n,j0o,j0p,j0q,j0r,j0s,j0t,j3k,j3l,j3m,j3n,j3o,j3p,setAll,j3q,j3r,j3s,j3t,j3u,j3v,j3w,j3x,j3y,j3z,j40,j41,j42,j43,j44,j45,j46,j47,j48,j49,j4a,j4b,j4c,j4d,j4e,j4f,j4g,j4h,j4i,j4j,j4k,j4l,j4m,j4n,j4o,j4p,j4q,j4r,j4s,j4t,j4u,j4v,j4w,j4x,j4y,j4z,j50,j51,j52,j53,j54,j55,j56,j57,Bool.not_true,Bool.not_false,Bool.true_and,Bool.and_true,Bool.false_and,Bool.and_false,Bool.true_or,Bool.or_true,Bool.false_or,Bool.or_false,cond_true,cond_false,aAllocN,aIndex,xLoad,xStore,xField,xFA,xIA,xLen,xMM,xAlloc,xIface,xInt,xStr,xIs,xBin,xAgg,xUn,xPick,xExt,knd,fls,ifc,isBoolK,isPtrK,isFuncK,isIfK,j58,j59,Nat.reduceBEq,eq_self,j5a,j5b,j5c,j5d,j5e,j5f,j5g,j5h,j5i,j5j,j5k,j5l,j5m,j5n,j5o,j5p,j5q,j5r,j5s,j5t,j5u,j5v,j5w,j5x,j5y,j5z,j60,j61,j62,j63,j64,j65,j66,j67,j68,j69,j6a,j6b,j6c,j6d,j6e,j6f,j6g,j6h,j6i,j6j,j6k,j6l,j6m,j6n,splice,List.size_toArray,decide_true,decide_false,Nat.reduceLeDiff,List.getD_cons_zero,List.getD_cons_succ,List.drop_succ_cons,List.drop_zero,List.take_succ_cons,List.take_zero,List.take_nil,List.drop_nil,Bool.false_eq_true,List.length_map,List.length_cons,List.length_nil,List.append_nil,List.nil_append,List.cons_append,List.getElem?_cons_succ,List.getElem?_cons_zero,List.length_append,List.set_cons_succ,List.set_cons_zero,List.map_cons,List.map_nil,if_true,if_false,Nat.reduceEqDiff,Nat.reduceAdd,Nat.reduceLT,reduceIte,true_and,and_true,and_self,Nat.zero_add,Nat.add_zero,ge_iff_le,gt_iff_lt,List.filter_cons,List.filter_nil,List.replicate_zero,List.replicate_succ,List.reverse_cons,List.reverse_nil,Option.map_some,Option.map_none, ti25, ti23, ti28, ti26, ti32, ti3, ti29, ti9, ti30, ti4, aBuild, fillP]
  refine bsl (n := 1) ti32 rfl ti3 rfl rfl (by decide) (by decide) rfl rfl rfl ?_
  simp only [j00,j01,j02,j03,j04,j05,j06,j07,j08,j09,j0a,j0b,j0c,j0d,j0e,j0f,j0g,j0h,j0i,j0j,j0k,j0l,j0m,j0n,j0o,j0p,j0q,j0r,j0s,j0t,j3k,j3l,j3m,j3n,j3o,j3p,setAll,j3q,j3r,j3s,j3t,j3u,j3v,j3w,j3x,j3y,j3z,j40,j41,j42,j43,j44,j45,j46,j47,j48,j49,j4a,j4b,j4c,j4d,j4e,j4f,j4g,j4h,j4i,j4j,j4k,j4l,j4m,j4n,j4o,j4p,j4q,j4r,j4s,j4t,j4u,j4v,j4w,j4x,j4y,j4z,j50,j51,j52,j53,j54,j55,j56,j57,Bool.not_true,Bool.not_false,Bool.true_and,Bool.and_true,Bool.false_and,Bool.and_false,Bool.true_or,Bool.or_true,Bool.false_or,Bool.or_false,cond_true,cond_false,aAllocN,aIndex,xLoad,xStore,xField,xFA,xIA,xLen,xMM,xAlloc,xIface,xInt,xStr,xIs,xBin,xAgg,xUn,xPick,xExt,knd,fls,ifc,isBoolK,isPtrK,isFuncK,isIfK,j58,j59,Nat.reduceBEq,eq_self,j5a,j5b,j5c,j5d,j5e,j5f,j5g,j5h,j5i,j5j,j5k,j5l,j5m,j5n,j5o,j5p,j5q,j5r,j5s,j5t,j5u,j5v,j5w,j5x,j5y,j5z,j60,j61,j62,j63,j64,j65,j66,j67,j68,j69,j6a,j6b,j6c,j6d,j6e,j6f,j6g,j6h,j6i,j6j,j6k,j6l,j6m,j6n,splice,List.size_toArray,decide_true,decide_false,Nat.reduceLeDiff,List.getD_cons_zero,List.getD_cons_succ,List.drop_succ_cons,List.drop_zero,List.take_succ_cons,List.take_zero,List.take_nil,List.drop_nil,Bool.false_eq_true,List.length_map,List.length_cons,List.length_nil,List.append_nil,List.nil_append,List.cons_append,List.getElem?_cons_succ,List.getElem?_cons_zero,List.length_append,List.set_cons_succ,List.set_cons_zero,List.map_cons,List.map_nil,if_true,if_false,Nat.reduceEqDiff,Nat.reduceAdd,Nat.reduceLT,reduceIte,true_and,and_true,and_self,Nat.zero_add,Nat.add_zero,ge_iff_le,gt_iff_lt,List.filter_cons,List.filter_nil,List.replicate_zero,List.replicate_succ,List.reverse_cons,List.reverse_nil,Option.map_some,Option.map_none, ti25, ti23, ti28, ti26, ti32, ti3, ti29, ti9, ti30, ti4, aBuild, fillP]
  refine fun_ret (r := .tuple [encT uR, .int .i64 0]) isfn9 ?_ fun _ => ?_
  · have := spec9 [2, 7] (by intro x hx; simp at hx; omega) [] tR fine_R
    rw [render_R] at this
    simpa [tR, encP_eq, Tp.c, Tp.n, Tp.g, Tp.t, Tp.ats, Tp.ks, encI, ulB, liB, eB] using this
  simp only [j00,j01,j02,j03,j04,j05,j06,j07,j08,j09,j0a,j0b,j0c,j0d,j0e,j0f,j0g,j0h,j0i,j0j,j0k,j0l,j0m,j0n,j0o,j0p,j0q,j0r,j0s,j0t,j3k,j3l,j3m,j3n,j3o,j3p,setAll,j3q,j3r,j3s,j3t,j3u,j3v,j3w,j3x,j3y,j3z,j40,j41,j42,j43,j44,j45,j46,j47,j48,j49,j4a,j4b,j4c,j4d,j4e,j4f,j4g,j4h,j4i,j4j,j4k,j4l,j4m,j4n,j4o,j4p,j4q,j4r,j4s,j4t,j4u,j4v,j4w,j4x,j4y,j4z,j50,j51,j52,j53,j54,j55,j56,j57,Bool.not_true,Bool.not_false,Bool.true_and,Bool.and_true,Bool.false_and,Bool.and_false,Bool.true_or,Bool.or_true,Bool.false_or,Bool.or_false,cond_true,cond_false,aAllocN,aIndex,xLoad,xStore,xField,xFA,xIA,xLen,xMM,xAlloc,xIface,xInt,xStr,xIs,xBin,xAgg,xUn,xPick,xExt,knd,fls,ifc,isBoolK,isPtrK,isFuncK,isIfK,j58,j59,Nat.reduceBEq,eq_self,j5a,j5b,j5c,j5d,j5e,j5f,j5g,j5h,j5i,j5j,j5k,j5l,j5m,j5n,j5o,j5p,j5q,j5r,j5s,j5t,j5u,j5v,j5w,j5x,j5y,j5z,j60,j61,j62,j63,j64,j65,j66,j67,j68,j69,j6a,j6b,j6c,j6d,j6e,j6f,j6g,j6h,j6i,j6j,j6k,j6l,j6m,j6n,splice,List.size_toArray,decide_true,decide_false,Nat.reduceLeDiff,List.getD_cons_zero,List.getD_cons_succ,List.drop_succ_cons,List.drop_zero,List.take_succ_cons,List.take_zero,List.take_nil,List.drop_nil,Bool.false_eq_true,List.length_map,List.length_cons,List.length_nil,List.append_nil,List.nil_append,List.cons_append,List.getElem?_cons_succ,List.getElem?_cons_zero,List.length_append,List.set_cons_succ,List.set_cons_zero,List.map_cons,List.map_nil,if_true,if_false,Nat.reduceEqDiff,Nat.reduceAdd,Nat.reduceLT,reduceIte,true_and,and_true,and_self,Nat.zero_add,Nat.add_zero,ge_iff_le,gt_iff_lt,List.filter_cons,List.filter_nil,List.replicate_zero,List.replicate_succ,List.reverse_cons,List.reverse_nil,Option.map_some,Option.map_none, aExtract, ti25, ti23, ti28, ti26, ti32, ti3, ti29, ti9, ti30, ti4, aBuild, fillP, encT_eq uR]
  refine bsl (n := 1) ti32 rfl ti3 rfl rfl (by decide) (by decide) rfl rfl rfl ?_
  simp only [j00,j01,j02,j03,j04,j05,j06,j07,j08,j09,j0a,j0b,j0c,j0d,j0e,j0f,j0g,j0h,j0i,j0j,j0k,j0l,j0m,j0n,j0o,j0p,j0q,j0r,j0s,j0t,j3k,j3l,j3m,j3n,j3o,j3p,setAll,j3q,j3r,j3s,j3t,j3u,j3v,j3w,j3x,j3y,j3z,j40,j41,j42,j43,j44,j45,j46,j47,j48,j49,j4a,j4b,j4c,j4d,j4e,j4f,j4g,j4h,j4i,j4j,j4k,j4l,j4m,j4n,j4o,j4p,j4q,j4r,j4s,j4t,j4u,j4v,j4w,j4x,j4y,j4z,j50,j51,j52,j53,j54,j55,j56,j57,Bool.not_true,Bool.not_false,Bool.true_and,Bool.and_true,Bool.false_and,Bool.and_false,Bool.true_or,Bool.or_true,Bool.false_or,Bool.or_false,cond_true,cond_false,aAllocN,aIndex,xLoad,xStore,xField,xFA,xIA,xLen,xMM,xAlloc,xIface,xInt,xStr,xIs,xBin,xAgg,xUn,xPick,xExt,knd,fls,ifc,isBoolK,isPtrK,isFuncK,isIfK,j58,j59,Nat.reduceBEq,eq_self,j5a,j5b,j5c,j5d,j5e,j5f,j5g,j5h,j5i,j5j,j5k,j5l,j5m,j5n,j5o,j5p,j5q,j5r,j5s,j5t,j5u,j5v,j5w,j5x,j5y,j5z,j60,j61,j62,j63,j64,j65,j66,j67,j68,j69,j6a,j6b,j6c,j6d,j6e,j6f,j6g,j6h,j6i,j6j,j6k,j6l,j6m,j6n,splice,List.size_toArray,decide_true,decide_false,Nat.reduceLeDiff,List.getD_cons_zero,List.getD_cons_succ,List.drop_succ_cons,List.drop_zero,List.take_succ_cons,List.take_zero,List.take_nil,List.drop_nil,Bool.false_eq_true,List.length_map,List.length_cons,List.length_nil,List.append_nil,List.nil_append,List.cons_append,List.getElem?_cons_succ,List.getElem?_cons_zero,List.length_append,List.set_cons_succ,List.set_cons_zero,List.map_cons,List.map_nil,if_true,if_false,Nat.reduceEqDiff,Nat.reduceAdd,Nat.reduceLT,reduceIte,true_and,and_true,and_self,Nat.zero_add,Nat.add_zero,ge_iff_le,gt_iff_lt,List.filter_cons,List.filter_nil,List.replicate_zero,List.replicate_succ,List.reverse_cons,List.reverse_nil,Option.map_some,Option.map_none, ti25, ti23, ti28, ti26, ti32, ti3, ti29, ti9, ti30, ti4, aBuild, fillP]
  refine fun_ret (r := .tuple [encT zeroT, .int .i64 6]) isfn9 ?_ fun _ => ?_
  · have := spec9 [99, 7] (by intro x hx; simp at hx; omega) [] tR fine_R
    rw [render_R2] at this
    simpa [tR, encP_eq, Tp.c, Tp.n, Tp.g, Tp.t, Tp.ats, Tp.ks, encI, ulB, liB, eB] using this
  simp only [j00,j01,j02,j03,j04,j05,j06,j07,j08,j09,j0a,j0b,j0c,j0d,j0e,j0f,j0g,j0h,j0i,j0j,j0k,j0l,j0m,j0n,j0o,j0p,j0q,j0r,j0s,j0t,j3k,j3l,j3m,j3n,j3o,j3p,setAll,j3q,j3r,j3s,j3t,j3u,j3v,j3w,j3x,j3y,j3z,j40,j41,j42,j43,j44,j45,j46,j47,j48,j49,j4a,j4b,j4c,j4d,j4e,j4f,j4g,j4h,j4i,j4j,j4k,j4l,j4m,j4n,j4o,j4p,j4q,j4r,j4s,j4t,j4u,j4v,j4w,j4x,j4y,j4z,j50,j51,j52,j53,j54,j55,j56,j57,Bool.not_true,Bool.not_false,Bool.true_and,Bool.and_true,Bool.false_and,Bool.and_false,Bool.true_or,Bool.or_true,Bool.false_or,Bool.or_false,cond_true,cond_false,aAllocN,aIndex,xLoad,xStore,xField,xFA,xIA,xLen,xMM,xAlloc,xIface,xInt,xStr,xIs,xBin,xAgg,xUn,xPick,xExt,knd,fls,ifc,isBoolK,isPtrK,isFuncK,isIfK,j58,j59,Nat.reduceBEq,eq_self,j5a,j5b,j5c,j5d,j5e,j5f,j5g,j5h,j5i,j5j,j5k,j5l,j5m,j5n,j5o,j5p,j5q,j5r,j5s,j5t,j5u,j5v,j5w,j5x,j5y,j5z,j60,j61,j62,j63,j64,j65,j66,j67,j68,j69,j6a,j6b,j6c,j6d,j6e,j6f,j6g,j6h,j6i,j6j,j6k,j6l,j6m,j6n,splice,List.size_toArray,decide_true,decide_false,Nat.reduceLeDiff,List.getD_cons_zero,List.getD_cons_succ,List.drop_succ_cons,List.drop_zero,List.take_succ_cons,List.take_zero,List.take_nil,List.drop_nil,Bool.false_eq_true,List.length_map,List.length_cons,List.length_nil,List.append_nil,List.nil_append,List.cons_append,List.getElem?_cons_succ,List.getElem?_cons_zero,List.length_append,List.set_cons_succ,List.set_cons_zero,List.map_cons,List.map_nil,if_true,if_false,Nat.reduceEqDiff,Nat.reduceAdd,Nat.reduceLT,reduceIte,true_and,and_true,and_self,Nat.zero_add,Nat.add_zero,ge_iff_le,gt_iff_lt,List.filter_cons,List.filter_nil,List.replicate_zero,List.replicate_succ,List.reverse_cons,List.reverse_nil,Option.map_some,Option.map_none, aExtract, ti25, ti23, ti28, ti26, ti32, ti3, ti29, ti9, ti30, ti4, aBuild, fillP, encT_eq uR, encT_eq zeroT]
  refine ⟨_, rfl, bsl ti26 rfl ti28 rfl rfl (by decide) (by decide) rfl rfl rfl ?_⟩
  simp only [j00,j01,j02,j03,j04,j05,j06,j07,j08,j09,j0a,j0b,j0c,j0d,j0e,j0f,j0g,j0h,j0i,j0j,j0k,j0l,j0m,j0n,j0o,j0p,j0q,j0r,j0s,j0t,j3k,j3l,j3m,j3n,j3o,j3p,setAll,j3q,j3r,j3s,j3t,j3u,j3v,j3w,j3x,j3y,j3z,j40,j41,j42,j43,j44,j45,j46,j47,j48,j49,j4a,j4b,j4c,j4d,j4e,j4f,j4g,j4h,j4i,j4j,j4k,j4l,j4m,j4n,j4o,j4p,j4q,j4r,j4s,j4t,j4u,j4v,j4w,j4x,j4y,j4z,j50,j51,j52,j53,j54,j55,j56,j57,Bool.not_true,Bool.not_false,Bool.true_and,Bool.and_true,Bool.false_and,Bool.and_false,Bool.true_or,Bool.or_true,Bool.false_or,Bool.or_false,cond_true,cond_false,aAllocN,aIndex,xLoad,xStore,xField,xFA,xIA,xLen,xMM,xAlloc,xIface,xInt,xStr,xIs,xBin,xAgg,xUn,xPick,xExt,knd,fls,ifc,isBoolK,isPtrK,isFuncK,isIfK,j58,j59,Nat.reduceBEq,eq_self,j5a,j5b,j5c,j5d,j5e,j5f,j5g,j5h,j5i,j5j,j5k,j5l,j5m,j5n,j5o,j5p,j5q,j5r,j5s,j5t,j5u,j5v,j5w,j5x,j5y,j5z,j60,j61,j62,j63,j64,j65,j66,j67,j68,j69,j6a,j6b,j6c,j6d,j6e,j6f,j6g,j6h,j6i,j6j,j6k,j6l,j6m,j6n,splice,List.size_toArray,decide_true,decide_false,Nat.reduceLeDiff,List.getD_cons_zero,List.getD_cons_succ,List.drop_succ_cons,List.drop_zero,List.take_succ_cons,List.take_zero,List.take_nil,List.drop_nil,Bool.false_eq_true,List.length_map,List.length_cons,List.length_nil,List.append_nil,List.nil_append,List.cons_append,List.getElem?_cons_succ,List.getElem?_cons_zero,List.length_append,List.set_cons_succ,List.set_cons_zero,List.map_cons,List.map_nil,if_true,if_false,Nat.reduceEqDiff,Nat.reduceAdd,Nat.reduceLT,reduceIte,true_and,and_true,and_self,Nat.zero_add,Nat.add_zero,ge_iff_le,gt_iff_lt,List.filter_cons,List.filter_nil,List.replicate_zero,List.replicate_succ,List.reverse_cons,List.reverse_nil,Option.map_some,Option.map_none, aExtract, ti25, ti23, ti28, ti26, ti32, ti3, ti29, ti9, ti30, ti4, aBuild, fillP]
  refine ⟨_, rfl, _, rfl, bsl (n := 1) ti26 rfl ti28 rfl rfl (by decide) (by decide) rfl rfl rfl ?_⟩
  simp only [j00,j01,j02,j03,j04,j05,j06,j07,j08,j09,j0a,j0b,j0c,j0d,j0e,j0f,j0g,j0h,j0i,j0j,j0k,j0l,j0m,j0n,j0o,j0p,j0q,j0r,j0s,j0t,j3k,j3l,j3m,j3n,j3o,j3p,setAll,j3q,j3r,j3s,j3t,j3u,j3v,j3w,j3x,j3y,j3z,j40,j41,j42,j43,j44,j45,j46,j47,j48,j49,j4a,j4b,j4c,j4d,j4e,j4f,j4g,j4h,j4i,j4j,j4k,j4l,j4m,j4n,j4o,j4p,j4q,j4r,j4s,j4t,j4u,j4v,j4w,j4x,j4y,j4z,j50,j51,j52,j53,j54,j55,j56,j57,Bool.not_true,Bool.not_false,Bool.true_and,Bool.and_true,Bool.false_and,Bool.and_false,Bool.true_or,Bool.or_true,Bool.false_or,Bool.or_false,cond_true,cond_false,aAllocN,aIndex,xLoad,xStore,xField,xFA,xIA,xLen,xMM,xAlloc,xIface,xInt,xStr,xIs,xBin,xAgg,xUn,xPick,xExt,knd,fls,ifc,isBoolK,isPtrK,isFuncK,isIfK,j58,j59,Nat.reduceBEq,eq_self,j5a,j5b,j5c,j5d,j5e,j5f,j5g,j5h,j5i,j5j,j5k,j5l,j5m,j5n,j5o,j5p,j5q,j5r,j5s,j5t,j5u,j5v,j5w,j5x,j5y,j5z,j60,j61,j62,j63,j64,j65,j66,j67,j68,j69,j6a,j6b,j6c,j6d,j6e,j6f,j6g,j6h,j6i,j6j,j6k,j6l,j6m,j6n,splice,List.size_toArray,decide_true,decide_false,Nat.reduceLeDiff,List.getD_cons_zero,List.getD_cons_succ,List.drop_succ_cons,List.drop_zero,List.take_succ_cons,List.take_zero,List.take_nil,List.drop_nil,Bool.false_eq_true,List.length_map,List.length_cons,List.length_nil,List.append_nil,List.nil_append,List.cons_append,List.getElem?_cons_succ,List.getElem?_cons_zero,List.length_append,List.set_cons_succ,List.set_cons_zero,List.map_cons,List.map_nil,if_true,if_false,Nat.reduceEqDiff,Nat.reduceAdd,Nat.reduceLT,reduceIte,true_and,and_true,and_self,Nat.zero_add,Nat.add_zero,ge_iff_le,gt_iff_lt,List.filter_cons,List.filter_nil,List.replicate_zero,List.replicate_succ,List.reverse_cons,List.reverse_nil,Option.map_some,Option.map_none, aExtract, ti25, ti23, ti28, ti26, ti32, ti3, ti29, ti9, ti30, ti4, aBuild, fillP]
  refine ⟨_, rfl, ?_⟩
  refine fun_ret (r := .bool true) isfn10 ?_ fun _ => ?_
  · have := spec10 uR uR
    rw [decide_eq_true rfl] at this
    simpa [uR, encT_eq, Tr.g, Tr.k, Tr.t, Tr.ats, Tr.ks, ulB, liB, eB, nulB, oneB, sevB] using this
  simp only [j00,j01,j02,j03,j04,j05,j06,j07,j08,j09,j0a,j0b,j0c,j0d,j0e,j0f,j0g,j0h,j0i,j0j,j0k,j0l,j0m,j0n,j0o,j0p,j0q,j0r,j0s,j0t,j3k,j3l,j3m,j3n,j3o,j3p,setAll,j3q,j3r,j3s,j3t,j3u,j3v,j3w,j3x,j3y,j3z,j40,j41,j42,j43,j44,j45,j46,j47,j48,j49,j4a,j4b,j4c,j4d,j4e,j4f,j4g,j4h,j4i,j4j,j4k,j4l,j4m,j4n,j4o,j4p,j4q,j4r,j4s,j4t,j4u,j4v,j4w,j4x,j4y,j4z,j50,j51,j52,j53,j54,j55,j56,j57,Bool.not_true,Bool.not_false,Bool.true_and,Bool.and_true,Bool.false_and,Bool.and_false,Bool.true_or,Bool.or_true,Bool.false_or,Bool.or_false,cond_true,cond_false,aAllocN,aIndex,xLoad,xStore,xField,xFA,xIA,xLen,xMM,xAlloc,xIface,xInt,xStr,xIs,xBin,xAgg,xUn,xPick,xExt,knd,fls,ifc,isBoolK,isPtrK,isFuncK,isIfK,j58,j59,Nat.reduceBEq,eq_self,j5a,j5b,j5c,j5d,j5e,j5f,j5g,j5h,j5i,j5j,j5k,j5l,j5m,j5n,j5o,j5p,j5q,j5r,j5s,j5t,j5u,j5v,j5w,j5x,j5y,j5z,j60,j61,j62,j63,j64,j65,j66,j67,j68,j69,j6a,j6b,j6c,j6d,j6e,j6f,j6g,j6h,j6i,j6j,j6k,j6l,j6m,j6n,splice,List.size_toArray,decide_true,decide_false,Nat.reduceLeDiff,List.getD_cons_zero,List.getD_cons_succ,List.drop_succ_cons,List.drop_zero,List.take_succ_cons,List.take_zero,List.take_nil,List.drop_nil,Bool.false_eq_true,List.length_map,List.length_cons,List.length_nil,List.append_nil,List.nil_append,List.cons_append,List.getElem?_cons_succ,List.getElem?_cons_zero,List.length_append,List.set_cons_succ,List.set_cons_zero,List.map_cons,List.map_nil,if_true,if_false,Nat.reduceEqDiff,Nat.reduceAdd,Nat.reduceLT,reduceIte,true_and,and_true,and_self,Nat.zero_add,Nat.add_zero,ge_iff_le,gt_iff_lt,List.filter_cons,List.filter_nil,List.replicate_zero,List.replicate_succ,List.reverse_cons,List.reverse_nil,Option.map_some,Option.map_none, ti25, ti23, ti28, ti26, ti32, ti3, ti29, ti9, ti30, ti4, aBuild, fillP]
  trace_state
  refine fun_ret (r := .bool true) isfn11 ?_ fun _ => ?_
  · have := spec11 tR 2
    rw [dec_true right_R2] at this
    simpa [tR, encP_eq, Tp.c, Tp.n, Tp.g, Tp.t, Tp.ats, Tp.ks, encI, ulB, liB, eB] using this
  simp only [j00,j01,j02,j03,j04,j05,j06,j07,j08,j09,j0a,j0b,j0c,j0d,j0e,j0f,j0g,j0h,j0i,j0j,j0k,j0l,j0m,j0n,j0o,j0p,j0q,j0r,j0s,j0t,j3k,j3l,j3m,j3n,j3o,j3p,setAll,j3q,j3r,j3s,j3t,j3u,j3v,j3w,j3x,j3y,j3z,j40,j41,j42,j43,j44,j45,j46,j47,j48,j49,j4a,j4b,j4c,j4d,j4e,j4f,j4g,j4h,j4i,j4j,j4k,j4l,j4m,j4n,j4o,j4p,j4q,j4r,j4s,j4t,j4u,j4v,j4w,j4x,j4y,j4z,j50,j51,j52,j53,j54,j55,j56,j57,Bool.not_true,Bool.not_false,Bool.true_and,Bool.and_true,Bool.false_and,Bool.and_false,Bool.true_or,Bool.or_true,Bool.false_or,Bool.or_false,cond_true,cond_false,aAllocN,aIndex,xLoad,xStore,xField,xFA,xIA,xLen,xMM,xAlloc,xIface,xInt,xStr,xIs,xBin,xAgg,xUn,xPick,xExt,knd,fls,ifc,isBoolK,isPtrK,isFuncK,isIfK,j58,j59,Nat.reduceBEq,eq_self,j5a,j5b,j5c,j5d,j5e,j5f,j5g,j5h,j5i,j5j,j5k,j5l,j5m,j5n,j5o,j5p,j5q,j5r,j5s,j5t,j5u,j5v,j5w,j5x,j5y,j5z,j60,j61,j62,j63,j64,j65,j66,j67,j68,j69,j6a,j6b,j6c,j6d,j6e,j6f,j6g,j6h,j6i,j6j,j6k,j6l,j6m,j6n,splice,List.size_toArray,decide_true,decide_false,Nat.reduceLeDiff,List.getD_cons_zero,List.getD_cons_succ,List.drop_succ_cons,List.drop_zero,List.take_succ_cons,List.take_zero,List.take_nil,List.drop_nil,Bool.false_eq_true,List.length_map,List.length_cons,List.length_nil,List.append_nil,List.nil_append,List.cons_append,List.getElem?_cons_succ,List.getElem?_cons_zero,List.length_append,List.set_cons_succ,List.set_cons_zero,List.map_cons,List.map_nil,if_true,if_false,Nat.reduceEqDiff,Nat.reduceAdd,Nat.reduceLT,reduceIte,true_and,and_true,and_self,Nat.zero_add,Nat.add_zero,ge_iff_le,gt_iff_lt,List.filter_cons,List.filter_nil,List.replicate_zero,List.replicate_succ,List.reverse_cons,List.reverse_nil,Option.map_some,Option.map_none, ti25, ti23, ti28, ti26, ti32, ti3, ti29, ti9, ti30, ti4, aBuild, fillP]
  refine fun_ret (r := .bool false) isfn11 ?_ fun _ => ?_
  · have := spec11 tR 1
    rw [dec_false right_R3] at this
    simpa [tR, encP_eq, Tp.c, Tp.n, Tp.g, Tp.t, Tp.ats, Tp.ks, encI, ulB, liB, eB] using this
  simp only [j00,j01,j02,j03,j04,j05,j06,j07,j08,j09,j0a,j0b,j0c,j0d,j0e,j0f,j0g,j0h,j0i,j0j,j0k,j0l,j0m,j0n,j0o,j0p,j0q,j0r,j0s,j0t,j3k,j3l,j3m,j3n,j3o,j3p,setAll,j3q,j3r,j3s,j3t,j3u,j3v,j3w,j3x,j3y,j3z,j40,j41,j42,j43,j44,j45,j46,j47,j48,j49,j4a,j4b,j4c,j4d,j4e,j4f,j4g,j4h,j4i,j4j,j4k,j4l,j4m,j4n,j4o,j4p,j4q,j4r,j4s,j4t,j4u,j4v,j4w,j4x,j4y,j4z,j50,j51,j52,j53,j54,j55,j56,j57,Bool.not_true,Bool.not_false,Bool.true_and,Bool.and_true,Bool.false_and,Bool.and_false,Bool.true_or,Bool.or_true,Bool.false_or,Bool.or_false,cond_true,cond_false,aAllocN,aIndex,xLoad,xStore,xField,xFA,xIA,xLen,xMM,xAlloc,xIface,xInt,xStr,xIs,xBin,xAgg,xUn,xPick,xExt,knd,fls,ifc,isBoolK,isPtrK,isFuncK,isIfK,j58,j59,Nat.reduceBEq,eq_self,j5a,j5b,j5c,j5d,j5e,j5f,j5g,j5h,j5i,j5j,j5k,j5l,j5m,j5n,j5o,j5p,j5q,j5r,j5s,j5t,j5u,j5v,j5w,j5x,j5y,j5z,j60,j61,j62,j63,j64,j65,j66,j67,j68,j69,j6a,j6b,j6c,j6d,j6e,j6f,j6g,j6h,j6i,j6j,j6k,j6l,j6m,j6n,splice,List.size_toArray,decide_true,decide_false,Nat.reduceLeDiff,List.getD_cons_zero,List.getD_cons_succ,List.drop_succ_cons,List.drop_zero,List.take_succ_cons,List.take_zero,List.take_nil,List.drop_nil,Bool.false_eq_true,List.length_map,List.length_cons,List.length_nil,List.append_nil,List.nil_append,List.cons_append,List.getElem?_cons_succ,List.getElem?_cons_zero,List.length_append,List.set_cons_succ,List.set_cons_zero,List.map_cons,List.map_nil,if_true,if_false,Nat.reduceEqDiff,Nat.reduceAdd,Nat.reduceLT,reduceIte,true_and,and_true,and_self,Nat.zero_add,Nat.add_zero,ge_iff_le,gt_iff_lt,List.filter_cons,List.filter_nil,List.replicate_zero,List.replicate_succ,List.reverse_cons,List.reverse_nil,Option.map_some,Option.map_none, ti25, ti23, ti28, ti26, ti32, ti3, ti29, ti9, ti30, ti4, aBuild, fillP]
  exact kfin_ret rfl rfl
end Go.Proofs.YtlfngjemfpjegaaDoor.Px
