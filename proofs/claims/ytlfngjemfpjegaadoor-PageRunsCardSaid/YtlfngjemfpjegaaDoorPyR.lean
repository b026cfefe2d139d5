/- trap.Run: what a deferred recovery makes of a call. -/
import Derived.Test.YtlfngjemfpjegaaDoorPyA
import Derived.Test.YtlfngjemfpjegaaDoorPxX
namespace Go.Proofs.YtlfngjemfpjegaaDoor.Px
open Go Go.RowKit Go.Proofs
set_option linter.unusedVariables false
set_option linter.unnecessarySimpa false
set_option linter.unusedSimpArgs false
set_option maxRecDepth 4000
def x53 : XCode :=
  (.seq
   (.seq
    (.reg [⟨some 5, none, Op.load 4 (Operand.tmp 0), false⟩])
    (.cond (Operand.tmp 5)
     .ret
     .skip))
   (.seq
    (.reg [⟨some 6, none, Op.call { callee := Callee.builtin Builtin.recover, args := #[], argTypes := #[] }, false⟩,
      ⟨some 2, none, Op.assign (Operand.tmp 6), false⟩])
    (.seq
     (.reg [⟨some 8, none, Op.move (Operand.tmp 2), false⟩,
       ⟨some 9, none, Op.typeAssert (Operand.tmp 8) 20 70 true, false⟩,
       ⟨some 7, none, Op.move (Operand.tmp 9), false⟩,
       ⟨some 10, none, Op.extract (Operand.tmp 7) 0, false⟩,
       ⟨some 11, none, Op.extract (Operand.tmp 7) 1, false⟩,
       ⟨some 3, none, Op.alloc 70, false⟩,
       ⟨none, none, Op.store 70 (Operand.tmp 3) (Operand.tmp 10), false⟩,
       ⟨some 4, none, Op.assign (Operand.tmp 11), false⟩])
     (.seq
      (.seq
       (.reg [⟨some 12, none, Op.move (Operand.tmp 4), false⟩,
         ⟨some 13, none, Op.unOp UnOp.not 4 (Operand.tmp 12), false⟩])
       (.cond (Operand.tmp 13)
        (.reg [⟨some 14, none, Op.move (Operand.tmp 2), false⟩,
          ⟨none, none, Op.panic (Operand.tmp 14), false⟩])
        .skip))
      (.reg [⟨some 15, none, Op.load 70 (Operand.tmp 3), false⟩,
        ⟨none, none, Op.store 70 (Operand.tmp 1) (Operand.tmp 15), false⟩])))))
theorem ispec53 {args : List PV} {L L' : List AObj} {out : Out} (h : aw Tryd.prog L.length 16 x53 (kfin Tryd.prog [] L.length 16 out L') ⟨enum 0 args, L⟩) : ISpec Tryd.prog 53 args L out L' :=
  ispec_of_aw mixd (fn := Tryd.f53) (x := x53) Tryd.func53 rfl (by kernel_rfl) (by kernel_rfl) rfl h
theorem isfn53 : isFn Tryd.prog 53 = true := by kernel_rfl

def x29 : XCode :=
  (.seq
   (.reg [⟨some 2, none, Op.alloc 70, false⟩,
     ⟨some 3, none, Op.alloc 4, false⟩])
   (.seq
    (.seq
     (.reg [⟨some 4, none, Op.move (Operand.tmp 0), false⟩,
       ⟨some 5, none, Op.binOp BinOp.eql 1 (Operand.tmp 4) (Operand.const Value.nilFunc) 1, false⟩])
     (.cond (Operand.tmp 5)
      (.seq
       (.reg [⟨some 6, none, Op.build 70 #[], false⟩,
         ⟨none, none, Op.store 70 (Operand.tmp 2) (Operand.tmp 6), false⟩,
         ⟨none, none, Op.store 4 (Operand.tmp 3) (Operand.const (Value.bool true)), false⟩])
       .ret)
      .skip))
    (.seq
     (.reg [⟨some 7, none, Op.makeFunc (Fn.func 53) #[] #[Operand.tmp 3, Operand.tmp 2], false⟩,
       ⟨none, none, Op.defer { callee := Callee.value (Operand.tmp 7), args := #[], argTypes := #[] }, false⟩])
     (.seq
      (.reg [⟨some 8, none, Op.move (Operand.tmp 0), false⟩,
        ⟨some 9, none, Op.call { callee := Callee.value (Operand.tmp 8), args := #[], argTypes := #[] }, false⟩])
      (.seq
       (.reg [⟨some 10, none, Op.build 70 #[], false⟩,
         ⟨none, none, Op.store 70 (Operand.tmp 2) (Operand.tmp 10), false⟩,
         ⟨none, none, Op.store 4 (Operand.tmp 3) (Operand.const (Value.bool true)), false⟩])
       .ret)))))
theorem ispec29 {args : List PV} {L L' : List AObj} {out : Out} (h : aw Tryd.prog L.length 11 x29 (kfin Tryd.prog [.cell 2 70, .cell 3 4] L.length 11 out L') ⟨enum 0 args, L⟩) : ISpec Tryd.prog 29 args L out L' :=
  ispec_of_aw mixd (fn := Tryd.f29) (x := x29) Tryd.func29 rfl (by kernel_rfl) (by kernel_rfl) rfl h
theorem isfn29 : isFn Tryd.prog 29 = true := by kernel_rfl



def ftl (a c : Int) (b : BA) : List PV := [.int .i64 a, .str b, .int .i64 c]
theorem impL_ftl {a c : Int} {b : BA} {k : Bool} {g : Nat → Option Nat} : PV.impL k g (ftl a c b) = ftl a c b := rfl
theorem renL_ftl {a c : Int} {b : BA} {g : Nat → Nat} : PV.renL g (ftl a c b) = ftl a c b := rfl
attribute [simp] impL_ftl renL_ftl
/-- The deferred function where nothing was thrown. -/
theorem d53_ok {G : Gh} {w : World} {cargs : Array Value} {u : FrameMode} (a c : Int) (b : BA) (hR : RH G [.cells [.bool true], .cells (ftl a c b)] w) (hV : VL G w [.ptr 0 0, .ptr 1 0] cargs.toList) :
    CallsD Tryd.prog 53 cargs u w fun e u' w' => u' = u ∧ ∃ r, e = .returned r ∧ ∃ G', RH G' [.cells [.bool true], .cells (ftl a c b)] w' ∧ Ev G w G' w' := by
  refine ispecD_of_aw mixd (fn := Tryd.f53) (x := x53) (ts := []) (v := .tuple []) Tryd.func53 rfl (by kernel_rfl) (by kernel_rfl) rfl ?_ hR hV
  simp only [x53, enum, j00,j01,j02,j03,j04,j05,j06,j07,j08,j09,j0a,j0b,j0c,j0d,j0e,j0f,j0g,j0h,j0i,j0j,j0k,j0l,j0m,j0n,j0o,j0p,j0q,j0r,j0s,j0t,j3k,j3l,j3m,j3n,j3o,j3p,setAll,j3q,j3r,j3s,j3t,j3u,j3v,j3w,j3x,j3y,j3z,j40,j41,j42,j43,j44,j45,j46,j47,j48,j49,j4a,j4b,j4c,j4d,j4e,j4f,j4g,j4h,j4i,j4j,j4k,j4l,j4m,j4n,j4o,j4p,j4q,j4r,j4s,j4t,j4u,j4v,j4w,j4x,j4y,j4z,j50,j51,j52,j53,j54,j55,j56,j57,Bool.not_true,Bool.not_false,Bool.true_and,Bool.and_true,Bool.false_and,Bool.and_false,Bool.true_or,Bool.or_true,Bool.false_or,Bool.or_false,cond_true,cond_false,aAllocN,aIndex,xLoad,xStore,xField,xFA,xIA,xLen,xMM,xAlloc,xIface,xInt,xStr,xIs,xBin,xAgg,xUn,xPick,xExt,knd,fls,ifc,isBoolK,isPtrK,isFuncK,isIfK,j58,j59,Nat.reduceBEq,eq_self,j5a,j5b,j5c,j5d,j5e,j5f,j5g,j5h,j5i,j5j,j5k,j5l,j5m,j5n,j5o,j5p,j5q,j5r,j5s,j5t,j5u,j5v,j5w,j5x,j5y,j5z,j60,j61,j62,j63,j64,j65,j66,j67,j68,j69,j6a,j6b,j6c,j6d,j6e,j6f,j6g,j6h,j6i,j6j,j6k,j6l,j6m,j6n,splice,List.size_toArray,decide_true,decide_false,Nat.reduceLeDiff,List.getD_cons_zero,List.getD_cons_succ,List.drop_succ_cons,List.drop_zero,List.take_succ_cons,List.take_zero,List.take_nil,List.drop_nil,Bool.false_eq_true,List.length_map,List.length_cons,List.length_nil,List.append_nil,List.nil_append,List.cons_append,List.getElem?_cons_succ,List.getElem?_cons_zero,List.length_append,List.set_cons_succ,List.set_cons_zero,List.map_cons,List.map_nil,if_true,if_false,Nat.reduceEqDiff,Nat.reduceAdd,Nat.reduceLT,reduceIte,true_and,and_true,and_self,Nat.zero_add,Nat.add_zero,ge_iff_le,gt_iff_lt,List.filter_cons,List.filter_nil,List.replicate_zero,List.replicate_succ,List.reverse_cons,List.reverse_nil,Option.map_some,Option.map_none, ti4]
  have h2 : ∀ i < 2, [0, 1][i]? = some i := fun i hi => match i, hi with
    | 0, _ => rfl
    | 1, _ => rfl
  exact ⟨.inl trivial, kret_at _ [0, 1] false (.refl _ _ _) rfl ⟨by simp, by simp, h2⟩ (by simp) rfl⟩
theorem d53_pan {G : Gh} {w : World} {cargs : Array Value} (a0 c0 : Int) (b0 : BA) (a c : Int) (b : BA) (v : Value) (hv : V G w (.iface 70 (.agg (ftl a c b))) v) (hR : RH G [.cells [.bool false], .cells (ftl a0 c0 b0)] w) (hV : VL G w [.ptr 0 0, .ptr 1 0] cargs.toList) :
    CallsD Tryd.prog 53 cargs (.panicking [{ v, recovered := false }]) w fun e u' w' => u' = .panicking [{ v, recovered := true }] ∧ ∃ r, e = .returned r ∧ ∃ G', RH G' [.cells [.bool false], .cells (ftl a c b)] w' ∧ Ev G w G' w' := by
  refine callsD_of_wpS Tryd.func53 rfl fun c₀ cs hu => ?_
  have hσ : ∀ l B, G.σ l = some B → l < 2 := fun l B h => (hR.σdom l B h).1
  have hH : ∀ l e x, G.H l e = some x → l < 2 := fun l e x h => (hR.Hdom l e x.1 x.2 h).1
  have hRX := rx_start (n := 16) hR hV
  refine wpS_seq (wpS_of_wp ?_)
  refine aw_run (N := 16) (D := []) (m := 2) mixd hσ hH (x := .seq (.reg [⟨some 5, none, Op.load 4 (Operand.tmp 0), false⟩]) (.cond (Operand.tmp 5) .ret .skip)) (by kernel_rfl) (by kernel_rfl)
    (fun e s' => e = .normal ∧ s' = ⟨[(5, .bool false), (0, .ptr 0 0), (1, .ptr 1 0)], [.cells [.bool false], .cells (ftl a0 c0 b0)]⟩) ?_ hRX (.refl _ _) ?_
  · simp only [enum, j00,j01,j02,j03,j04,j05,j06,j07,j08,j09,j0a,j0b,j0c,j0d,j0e,j0f,j0g,j0h,j0i,j0j,j0k,j0l,j0m,j0n,j0o,j0p,j0q,j0r,j0s,j0t,j3k,j3l,j3m,j3n,j3o,j3p,setAll,j3q,j3r,j3s,j3t,j3u,j3v,j3w,j3x,j3y,j3z,j40,j41,j42,j43,j44,j45,j46,j47,j48,j49,j4a,j4b,j4c,j4d,j4e,j4f,j4g,j4h,j4i,j4j,j4k,j4l,j4m,j4n,j4o,j4p,j4q,j4r,j4s,j4t,j4u,j4v,j4w,j4x,j4y,j4z,j50,j51,j52,j53,j54,j55,j56,j57,Bool.not_true,Bool.not_false,Bool.true_and,Bool.and_true,Bool.false_and,Bool.and_false,Bool.true_or,Bool.or_true,Bool.false_or,Bool.or_false,cond_true,cond_false,aAllocN,aIndex,xLoad,xStore,xField,xFA,xIA,xLen,xMM,xAlloc,xIface,xInt,xStr,xIs,xBin,xAgg,xUn,xPick,xExt,knd,fls,ifc,isBoolK,isPtrK,isFuncK,isIfK,j58,j59,Nat.reduceBEq,eq_self,j5a,j5b,j5c,j5d,j5e,j5f,j5g,j5h,j5i,j5j,j5k,j5l,j5m,j5n,j5o,j5p,j5q,j5r,j5s,j5t,j5u,j5v,j5w,j5x,j5y,j5z,j60,j61,j62,j63,j64,j65,j66,j67,j68,j69,j6a,j6b,j6c,j6d,j6e,j6f,j6g,j6h,j6i,j6j,j6k,j6l,j6m,j6n,splice,List.size_toArray,decide_true,decide_false,Nat.reduceLeDiff,List.getD_cons_zero,List.getD_cons_succ,List.drop_succ_cons,List.drop_zero,List.take_succ_cons,List.take_zero,List.take_nil,List.drop_nil,Bool.false_eq_true,List.length_map,List.length_cons,List.length_nil,List.append_nil,List.nil_append,List.cons_append,List.getElem?_cons_succ,List.getElem?_cons_zero,List.length_append,List.set_cons_succ,List.set_cons_zero,List.map_cons,List.map_nil,if_true,if_false,Nat.reduceEqDiff,Nat.reduceAdd,Nat.reduceLT,reduceIte,true_and,and_true,and_self,Nat.zero_add,Nat.add_zero,ge_iff_le,gt_iff_lt,List.filter_cons,List.filter_nil,List.replicate_zero,List.replicate_succ,List.reverse_cons,List.reverse_nil,Option.map_some,Option.map_none, ti4]
  rintro e s' ee G1 a1 w1 ⟨rfl, rfl⟩ hx hR1 hE1
  cases ee <;> first | exact hx.elim | skip
  simp only [Exit.thenS]
  refine wpS_seq (wpS_region ?_)
  refine wpOpsS_recover (v := v) (cs' := { c₀ with mode := .panicking [{ v, recovered := true }] } :: cs) rfl rfl rfl ?_ ?_
  · simp [recoverD, hu]
  refine wpOpsS_assign rfl rfl rfl ?_
  have hR2 : RX 16 [] G1 ⟨[(6, .iface 70 (.agg (ftl a c b))), (5, .bool false), (0, .ptr 0 0), (1, .ptr 1 0)], [.cells [.bool false], .cells (ftl a0 c0 b0)]⟩ (a1.put (some 6) v) w1 :=
    hR1.go (d := some 6) (p := .iface 70 (.agg (ftl a c b))) (hp := [.cells [.bool false], .cells (ftl a0 c0 b0)]) rfl (hv.mono hE1.keeps) hR1.rs.hp (.refl _ _)
  have hR3 : RX 16 [] G1 ⟨[(2, .iface 70 (.agg (ftl a c b))), (6, .iface 70 (.agg (ftl a c b))), (5, .bool false), (0, .ptr 0 0), (1, .ptr 1 0)], [.cells [.bool false], .cells (ftl a0 c0 b0)]⟩ ((a1.put (some 6) v).put (some 2) ((a1.put (some 6) v).eval (.tmp 6))) w1 :=
    hR2.go (d := some 2) (p := .iface 70 (.agg (ftl a c b))) (hp := [.cells [.bool false], .cells (ftl a0 c0 b0)]) rfl (hR2.rs.ev (.tmp 6)) hR2.rs.hp (.refl _ _)
  show Code.wpS _ _ _ ((a1.put (some 6) v).put (some 2) ((a1.put (some 6) v).eval (.tmp 6))) _ w1
  refine wpS_of_wp ?_
  refine aw_run (N := 16) (D := []) (m := 2) mixd hσ hH (x := x53.snd.snd) (by kernel_rfl) (by kernel_rfl)
    (fun e s' => e = .normal ∧ kret Tryd.prog [] 2 16 (.ret (.tuple [])) [.cells [.bool false], .cells (ftl a c b)] s') ?_ hR3 hE1 ?_
  · simp only [x53, XCode.snd, ftl, j00,j01,j02,j03,j04,j05,j06,j07,j08,j09,j0a,j0b,j0c,j0d,j0e,j0f,j0g,j0h,j0i,j0j,j0k,j0l,j0m,j0n,j0o,j0p,j0q,j0r,j0s,j0t,j3k,j3l,j3m,j3n,j3o,j3p,setAll,j3q,j3r,j3s,j3t,j3u,j3v,j3w,j3x,j3y,j3z,j40,j41,j42,j43,j44,j45,j46,j47,j48,j49,j4a,j4b,j4c,j4d,j4e,j4f,j4g,j4h,j4i,j4j,j4k,j4l,j4m,j4n,j4o,j4p,j4q,j4r,j4s,j4t,j4u,j4v,j4w,j4x,j4y,j4z,j50,j51,j52,j53,j54,j55,j56,j57,Bool.not_true,Bool.not_false,Bool.true_and,Bool.and_true,Bool.false_and,Bool.and_false,Bool.true_or,Bool.or_true,Bool.false_or,Bool.or_false,cond_true,cond_false,aAllocN,aIndex,xLoad,xStore,xField,xFA,xIA,xLen,xMM,xAlloc,xIface,xInt,xStr,xIs,xBin,xAgg,xUn,xPick,xExt,knd,fls,ifc,isBoolK,isPtrK,isFuncK,isIfK,j58,j59,Nat.reduceBEq,eq_self,j5a,j5b,j5c,j5d,j5e,j5f,j5g,j5h,j5i,j5j,j5k,j5l,j5m,j5n,j5o,j5p,j5q,j5r,j5s,j5t,j5u,j5v,j5w,j5x,j5y,j5z,j60,j61,j62,j63,j64,j65,j66,j67,j68,j69,j6a,j6b,j6c,j6d,j6e,j6f,j6g,j6h,j6i,j6j,j6k,j6l,j6m,j6n,splice,List.size_toArray,decide_true,decide_false,Nat.reduceLeDiff,List.getD_cons_zero,List.getD_cons_succ,List.drop_succ_cons,List.drop_zero,List.take_succ_cons,List.take_zero,List.take_nil,List.drop_nil,Bool.false_eq_true,List.length_map,List.length_cons,List.length_nil,List.append_nil,List.nil_append,List.cons_append,List.getElem?_cons_succ,List.getElem?_cons_zero,List.length_append,List.set_cons_succ,List.set_cons_zero,List.map_cons,List.map_nil,if_true,if_false,Nat.reduceEqDiff,Nat.reduceAdd,Nat.reduceLT,reduceIte,true_and,and_true,and_self,Nat.zero_add,Nat.add_zero,ge_iff_le,gt_iff_lt,List.filter_cons,List.filter_nil,List.replicate_zero,List.replicate_succ,List.reverse_cons,List.reverse_nil,Option.map_some,Option.map_none, ti4, ti70, aTA, aExtract]
    have h2 : ∀ i < 2, [0, 1][i]? = some i := fun i hi => match i, hi with
      | 0, _ => rfl
      | 1, _ => rfl
    exact kret_at _ [0, 1] false (.refl _ _ _) rfl ⟨by simp, by simp, h2⟩ (by simp) rfl
  rintro e s' ee G2 a2 w2 ⟨rfl, hk⟩ hx hR4 hE4
  cases ee <;> first | exact hx.elim | skip
  obtain ⟨r, hres, G', ho, hR', hE'⟩ := kret_out (P := Tryd.prog) hR (fn := Tryd.f53) rfl hk hR4 hE4
  exact ⟨hR4.df, _, rfl, r, hres, rfl, r, rfl, G', hR', hE'⟩
end Go.Proofs.YtlfngjemfpjegaaDoor.Px
