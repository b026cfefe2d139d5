/- page.Render: the run of the closure under trap.Run. -/
import Derived.Test.YtlfngjemfpjegaaDoorPyT
namespace Go.Proofs.YtlfngjemfpjegaaDoor.Px
open Go Go.RowKit Go.Proofs
set_option linter.unusedVariables false
set_option linter.unnecessarySimpa false
set_option linter.unusedSimpArgs false
set_option maxRecDepth 4000

def clo : PV := .func 30 [.ptr 0 0, .ptr 1 0, .ptr 2 0]
theorem slots3 {D : List Deferred} {G : Gh} {s : XS} {a : Act} {w : World} {x y z : PV} (h : RX 11 D G s a w) (h0 : look s.l 0 = x) (h2 : look s.l 2 = y) (h3 : look s.l 3 = z) : RX 11 D G ⟨[(0, x), (2, y), (3, z)], s.hp⟩ a w := by
  refine rx_slots h fun p hp => ?_
  simp only [List.mem_cons, List.not_mem_nil, or_false] at hp
  rcases hp with rfl | rfl | rfl
  · exact h0
  · exact h2
  · exact h3
def K3 (hp : List AObj) (s' : XS) : Prop := look s'.l 0 = clo ∧ look s'.l 2 = .ptr 4 0 ∧ look s'.l 3 = .ptr 5 0 ∧ s'.hp = hp

/-- The deferred call of a run that has come to its end, or was thrown out of. -/
theorem leaves_run {G0 G : Gh} {w0 w : World} {L : List AObj} (hR0 : RH G0 L w0) (hL : L.length = 4) {d : Deferred} {caps : Array Value} (hd : d = ⟨.fn (.func 53) caps, #[]⟩) {s : XS} {a : Act} {u : FrameMode} (hu : u ≠ .run) {R : Ending → World → Prop} {out : Out} {L' L2 L3 : List AObj}
    (hR : RX 11 [d] G s a w) (hE : Ev G0 w0 G w) (hc : VL G w [.ptr 5 0, .ptr 4 0] caps.toList) (hlen : s.hp.length = 6) (h4 : s.hp[4]? ≠ some .dead) (h5 : s.hp[5]? ≠ some .dead) (hh : handed s.hp [5, 4] = L2) (hL3 : L3.length = 2)
    (hcall : ∀ (G1 : Gh), RH G1 L2 w → VL G1 w [.ptr 0 0, .ptr 1 0] caps.toList → (∀ (p : Er) v, V G w (.iface 70 (.agg (ftl 6 p.2 p.1))) v → V G1 w (.iface 70 (.agg (ftl 6 p.2 p.1))) v) →
      CallsD Tryd.prog 53 caps u w fun e u' w' => settle u' = .returning ∧ ∃ r, e = .returned r ∧ ∃ G', RH G' L3 w' ∧ Ev G1 w G' w')
    (hk : kret Tryd.prog [.cell 2 70, .cell 3 4] 4 11 out L' ⟨s.l, setAll s.hp (backSet (backN s.hp.length [5, 4]) [5, 4] L3) ++ backNew (backN s.hp.length [5, 4]) 2 L3⟩)
    (hout : ∀ v w' G', OutRel G' w' out (.returned v) → RH G' L' w' → Ev G0 w0 G' w' → R (.returned v) w') :
    Leaves Tryd.prog Tryd.f29 a.tmps R a.defers u w := by
  rw [hR.df, hd]
  have hn : [5, 4].Nodup := by decide
  have hlt : ∀ l ∈ [5, 4], l < s.hp.length ∧ s.hp[l]? ≠ some .dead := by
    intro l hl
    simp only [List.mem_cons, List.not_mem_nil, or_false] at hl
    rcases hl with rfl | rfl
    · exact ⟨by omega, h5⟩
    · exact ⟨by omega, h4⟩
  have hRs : RH G s.hp w := hR.rs.hp
  refine leaves_cons (args := caps) (f := 53) hu ?_ ?_
  · simp [invoke, run_callFunc (show isFn Tryd.prog 53 = true from isfn53)]
  have hsub := hRs.sub hn fun l hl => (hlt l hl).1
  rw [hh] at hsub
  refine (hcall (G.sub [5, 4]) hsub (by simpa using hc.imp (rs := [5, 4])) (fun p v hv => by simpa using sub_V (rs := [5, 4]) (k := false) hv)).mono ?_
  rintro e u' w' ⟨hset, r, rfl, G1, hR1, hE1⟩
  show Leaves _ _ _ R [] (settle u') w'
  rw [hset]
  obtain ⟨hR2, hE2⟩ := rx_behind hR hn hlt (by rw [hL3]; rfl) hR1 hE1
  obtain ⟨v, hv, G', ho, hR', hE'⟩ := kret_out (P := Tryd.prog) hR0 (fn := Tryd.f29) (ts := [.cell 2 70, .cell 3 4]) rfl (by rw [hL]; exact hk) hR2 (hE.trans hE2)
  exact ⟨v, hv, hout v w' G' ho hR' hE'⟩

theorem run30 (st : List Int) (hst : RngI st) (ps : List At) (t : Tp) (ht : t.fine) {out : Out} {L' : List AObj}
    (hyes : ∀ x s, rendP st ps t = .ok (x, s) → out = .ret (.tuple [.agg (ftl 0 0 eB0), .bool true]) ∧ L' = [.cells [.ptr 3 0], boxP t, treeO x, jobO st ps s])
    (hno : ∀ e, rendP st ps t = .error e → out = .ret (.tuple [.agg (ftl 6 e.2 e.1), .bool false]) ∧ L' = [.dead, .dead, .dead, .dead]) :
    ISpec Tryd.prog 29 [.func 30 [.ptr 0 0, .ptr 1 0, .ptr 2 0]] [.cells [.ptr 3 0], boxP t, zeroO, jobO st ps 0] out L' := by
  intro G w cargs hR hV
  refine calls_of_wp_defers Tryd.func29 rfl ?_
  have hσ : ∀ l B, G.σ l = some B → l < 4 := fun l B h => (hR.σdom l B h).1
  have hH : ∀ l e x, G.H l e = some x → l < 4 := fun l e x h => (hR.Hdom l e x.1 x.2 h).1
  have hRX := rx_start (n := 11) hR hV
  refine wp_seq ?_
  refine aw_run (N := 11) (D := []) (m := 4) mixd hσ hH (x := x29.fst) (by kernel_rfl) (by kernel_rfl)
    (fun e s' => e = .normal ∧ K3 [.cells [.ptr 3 0], boxP t, zeroO, jobO st ps 0, .cells (ftl 0 0 eB0), .cells [.bool false]] s') ?_ hRX (.refl _ _) ?_
  · simp only [x29, XCode.fst, enum, j00,j01,j02,j03,j04,j05,j06,j07,j08,j09,j0a,j0b,j0c,j0d,j0e,j0f,j0g,j0h,j0i,j0j,j0k,j0l,j0m,j0n,j0o,j0p,j0q,j0r,j0s,j0t,j3k,j3l,j3m,j3n,j3o,j3p,setAll,j3q,j3r,j3s,j3t,j3u,j3v,j3w,j3x,j3y,j3z,j40,j41,j42,j43,j44,j45,j46,j47,j48,j49,j4a,j4b,j4c,j4d,j4e,j4f,j4g,j4h,j4i,j4j,j4k,j4l,j4m,j4n,j4o,j4p,j4q,j4r,j4s,j4t,j4u,j4v,j4w,j4x,j4y,j4z,j50,j51,j52,j53,j54,j55,j56,j57,Bool.not_true,Bool.not_false,Bool.true_and,Bool.and_true,Bool.false_and,Bool.and_false,Bool.true_or,Bool.or_true,Bool.false_or,Bool.or_false,cond_true,cond_false,aAllocN,aIndex,xLoad,xStore,xField,xFA,xIA,xLen,xMM,xAlloc,xIface,xInt,xStr,xIs,xBin,xAgg,xUn,xPick,xExt,knd,fls,ifc,isBoolK,isPtrK,isFuncK,isIfK,j58,j59,Nat.reduceBEq,eq_self,j5a,j5b,j5c,j5d,j5e,j5f,j5g,j5h,j5i,j5j,j5k,j5l,j5m,j5n,j5o,j5p,j5q,j5r,j5s,j5t,j5u,j5v,j5w,j5x,j5y,j5z,j60,j61,j62,j63,j64,j65,j66,j67,j68,j69,j6a,j6b,j6c,j6d,j6e,j6f,j6g,j6h,j6i,j6j,j6k,j6l,j6m,j6n,splice,List.size_toArray,decide_true,decide_false,Nat.reduceLeDiff,List.getD_cons_zero,List.getD_cons_succ,List.drop_succ_cons,List.drop_zero,List.take_succ_cons,List.take_zero,List.take_nil,List.drop_nil,Bool.false_eq_true,List.length_map,List.length_cons,List.length_nil,List.append_nil,List.nil_append,List.cons_append,List.getElem?_cons_succ,List.getElem?_cons_zero,List.length_append,List.set_cons_succ,List.set_cons_zero,List.map_cons,List.map_nil,if_true,if_false,Nat.reduceEqDiff,Nat.reduceAdd,Nat.reduceLT,reduceIte,true_and,and_true,and_self,Nat.zero_add,Nat.add_zero,ge_iff_le,gt_iff_lt,List.filter_cons,List.filter_nil,List.replicate_zero,List.replicate_succ,List.reverse_cons,List.reverse_nil,Option.map_some,Option.map_none, ti4, ti70, ftl, eB0_def]
    exact ⟨rfl, rfl, rfl, rfl⟩
  rintro e s1 ee G1 a1 w1 ⟨rfl, e0, e2, e3, eh⟩ hx hR1 hE1
  cases ee <;> first | exact hx.elim | skip
  replace hR1 := slots3 hR1 e0 e2 e3
  rw [eh] at hR1
  refine wp_seq ?_
  refine aw_run (N := 11) (D := []) (m := 4) mixd hσ hH (x := x29.snd.fst) (by kernel_rfl) (by kernel_rfl)
    (fun e s' => e = .normal ∧ K3 [.cells [.ptr 3 0], boxP t, zeroO, jobO st ps 0, .cells (ftl 0 0 eB0), .cells [.bool false]] s') ?_ hR1 hE1 ?_
  · simp only [x29, XCode.fst, XCode.snd, clo, j00,j01,j02,j03,j04,j05,j06,j07,j08,j09,j0a,j0b,j0c,j0d,j0e,j0f,j0g,j0h,j0i,j0j,j0k,j0l,j0m,j0n,j0o,j0p,j0q,j0r,j0s,j0t,j3k,j3l,j3m,j3n,j3o,j3p,setAll,j3q,j3r,j3s,j3t,j3u,j3v,j3w,j3x,j3y,j3z,j40,j41,j42,j43,j44,j45,j46,j47,j48,j49,j4a,j4b,j4c,j4d,j4e,j4f,j4g,j4h,j4i,j4j,j4k,j4l,j4m,j4n,j4o,j4p,j4q,j4r,j4s,j4t,j4u,j4v,j4w,j4x,j4y,j4z,j50,j51,j52,j53,j54,j55,j56,j57,Bool.not_true,Bool.not_false,Bool.true_and,Bool.and_true,Bool.false_and,Bool.and_false,Bool.true_or,Bool.or_true,Bool.false_or,Bool.or_false,cond_true,cond_false,aAllocN,aIndex,xLoad,xStore,xField,xFA,xIA,xLen,xMM,xAlloc,xIface,xInt,xStr,xIs,xBin,xAgg,xUn,xPick,xExt,knd,fls,ifc,isBoolK,isPtrK,isFuncK,isIfK,j58,j59,Nat.reduceBEq,eq_self,j5a,j5b,j5c,j5d,j5e,j5f,j5g,j5h,j5i,j5j,j5k,j5l,j5m,j5n,j5o,j5p,j5q,j5r,j5s,j5t,j5u,j5v,j5w,j5x,j5y,j5z,j60,j61,j62,j63,j64,j65,j66,j67,j68,j69,j6a,j6b,j6c,j6d,j6e,j6f,j6g,j6h,j6i,j6j,j6k,j6l,j6m,j6n,splice,List.size_toArray,decide_true,decide_false,Nat.reduceLeDiff,List.getD_cons_zero,List.getD_cons_succ,List.drop_succ_cons,List.drop_zero,List.take_succ_cons,List.take_zero,List.take_nil,List.drop_nil,Bool.false_eq_true,List.length_map,List.length_cons,List.length_nil,List.append_nil,List.nil_append,List.cons_append,List.getElem?_cons_succ,List.getElem?_cons_zero,List.length_append,List.set_cons_succ,List.set_cons_zero,List.map_cons,List.map_nil,if_true,if_false,Nat.reduceEqDiff,Nat.reduceAdd,Nat.reduceLT,reduceIte,true_and,and_true,and_self,Nat.zero_add,Nat.add_zero,ge_iff_le,gt_iff_lt,List.filter_cons,List.filter_nil,List.replicate_zero,List.replicate_succ,List.reverse_cons,List.reverse_nil,Option.map_some,Option.map_none, ti1, ti4, ti70]
    exact ⟨rfl, rfl, rfl, rfl⟩
  rintro e s2 ee G2 a2 w2 ⟨rfl, e0, e2, e3, eh⟩ hx hR2 hE2
  cases ee <;> first | exact hx.elim | skip
  replace hR2 := slots3 hR2 e0 e2 e3
  rw [eh] at hR2
  refine wp_seq (wp_region ?_)
  have hcaps : VL G2 w2 [.ptr 5 0, .ptr 4 0] (#[a2.eval (.tmp 3), a2.eval (.tmp 2)] : Array Value).toList := by
    refine ⟨rfl, fun i h1 h2 => ?_⟩
    match i, h1 with
    | 0, _ => exact hR2.rs.ev (.tmp 3)
    | 1, _ => exact hR2.rs.ev (.tmp 2)
  refine wpOps_value (v := .func (.func 53) #[] #[a2.eval (.tmp 3), a2.eval (.tmp 2)]) rfl rfl (by simp [execOp, Instr.makeFunc]) ?_
  refine wpOps_defer (d := ⟨.fn (.func 53) #[a2.eval (.tmp 3), a2.eval (.tmp 2)], #[]⟩) rfl rfl ?_ ?_
  · have hev : (a2.put (some 7) (.func (.func 53) #[] #[a2.eval (.tmp 3), a2.eval (.tmp 2)])).eval (.tmp 7) = .func (.func 53) #[] #[a2.eval (.tmp 3), a2.eval (.tmp 2)] := by
      have := hR2.n
      simp [Act.put, Act.eval, Array.getD_eq_getD_getElem?]
      omega
    show Sem.run _ (execOp (a2.put (some 7) (.func (.func 53) #[] #[a2.eval (.tmp 3), a2.eval (.tmp 2)])).eval _) _ = _
    simp [execOp, resolve, Deferred.ofValue, hev]
  have hR3 : RX 11 [⟨.fn (.func 53) #[a2.eval (.tmp 3), a2.eval (.tmp 2)], #[]⟩] G2 ⟨[(0, clo), (2, .ptr 4 0), (3, .ptr 5 0)], [.cells [.ptr 3 0], boxP t, zeroO, jobO st ps 0, .cells (ftl 0 0 eB0), .cells [.bool false]]⟩
      (({ a2.put (some 7) (.func (.func 53) #[] #[a2.eval (.tmp 3), a2.eval (.tmp 2)]) with defers := [⟨.fn (.func 53) #[a2.eval (.tmp 3), a2.eval (.tmp 2)], #[]⟩] } : Act).put none undef) w2 := by
    have h1 := hR2.go (d := some 7) (p := .bad) (v := .func (.func 53) #[] #[a2.eval (.tmp 3), a2.eval (.tmp 2)]) (hp := [.cells [.ptr 3 0], boxP t, zeroO, jobO st ps 0, .cells (ftl 0 0 eB0), .cells [.bool false]]) rfl (.bad _) hR2.rs.hp (.refl _ _)
    have h2 := slots3 (x := clo) (y := .ptr 4 0) (z := .ptr 5 0) h1 rfl rfl rfl
    exact ⟨⟨h2.rs.tm, h2.rs.hp⟩, h2.n, rfl⟩
  have hdf : (a2.put (some 7) (.func (.func 53) #[] #[a2.eval (.tmp 3), a2.eval (.tmp 2)])).defers = [] := hR2.df
  show Code.wp _ _ _ (({ a2.put (some 7) (.func (.func 53) #[] #[a2.eval (.tmp 3), a2.eval (.tmp 2)]) with defers := ⟨.fn (.func 53) #[a2.eval (.tmp 3), a2.eval (.tmp 2)], #[]⟩ :: (a2.put (some 7) (.func (.func 53) #[] #[a2.eval (.tmp 3), a2.eval (.tmp 2)])).defers } : Act).put none undef) w2
  rw [hdf]
  generalize hcp : (#[a2.eval (.tmp 3), a2.eval (.tmp 2)] : Array Value) = caps at hR3 hcaps ⊢
  generalize hd : (⟨.fn (.func 53) caps, #[]⟩ : Deferred) = d at hR3 ⊢
  generalize hA : (({ a2.put (some 7) (.func (.func 53) #[] caps) with defers := [d] } : Act).put none undef) = a3 at hR3 ⊢
  have hσ6 : ∀ l B, G2.σ l = some B → l < 6 := fun l B h => (hR3.rs.hp.σdom l B h).1
  have hH6 : ∀ l e x, G2.H l e = some x → l < 6 := fun l e x h => (hR3.rs.hp.Hdom l e x.1 x.2 h).1
  refine wp_seq ?_
  cases hrend : rendP st ps t with
  | ok y =>
    obtain ⟨x, s⟩ := y
    obtain ⟨rfl, rfl⟩ := hyes x s hrend
    have h30 := spec30 st hst ps t ht
    rw [hrend] at h30
    refine aw_run (N := 11) (D := [d]) (m := 6) (G0 := G2) (w0 := w2) mixd hσ6 hH6 (x := x29.snd.snd.snd.fst) (by kernel_rfl) (by kernel_rfl)
      (fun e s' => e = .normal ∧ K3 [.cells [.ptr 3 0], boxP t, treeO x, jobO st ps s, .cells (ftl 0 0 eB0), .cells [.bool false]] s') ?_ hR3 (.refl _ _) ?_
    · simp only [x29, XCode.fst, XCode.snd, clo, j00,j01,j02,j03,j04,j05,j06,j07,j08,j09,j0a,j0b,j0c,j0d,j0e,j0f,j0g,j0h,j0i,j0j,j0k,j0l,j0m,j0n,j0o,j0p,j0q,j0r,j0s,j0t,j3k,j3l,j3m,j3n,j3o,j3p,setAll,j3q,j3r,j3s,j3t,j3u,j3v,j3w,j3x,j3y,j3z,j40,j41,j42,j43,j44,j45,j46,j47,j48,j49,j4a,j4b,j4c,j4d,j4e,j4f,j4g,j4h,j4i,j4j,j4k,j4l,j4m,j4n,j4o,j4p,j4q,j4r,j4s,j4t,j4u,j4v,j4w,j4x,j4y,j4z,j50,j51,j52,j53,j54,j55,j56,j57,Bool.not_true,Bool.not_false,Bool.true_and,Bool.and_true,Bool.false_and,Bool.and_false,Bool.true_or,Bool.or_true,Bool.false_or,Bool.or_false,cond_true,cond_false,aAllocN,aIndex,xLoad,xStore,xField,xFA,xIA,xLen,xMM,xAlloc,xIface,xInt,xStr,xIs,xBin,xAgg,xUn,xPick,xExt,knd,fls,ifc,isBoolK,isPtrK,isFuncK,isIfK,j58,j59,Nat.reduceBEq,eq_self,j5a,j5b,j5c,j5d,j5e,j5f,j5g,j5h,j5i,j5j,j5k,j5l,j5m,j5n,j5o,j5p,j5q,j5r,j5s,j5t,j5u,j5v,j5w,j5x,j5y,j5z,j60,j61,j62,j63,j64,j65,j66,j67,j68,j69,j6a,j6b,j6c,j6d,j6e,j6f,j6g,j6h,j6i,j6j,j6k,j6l,j6m,j6n,splice,List.size_toArray,decide_true,decide_false,Nat.reduceLeDiff,List.getD_cons_zero,List.getD_cons_succ,List.drop_succ_cons,List.drop_zero,List.take_succ_cons,List.take_zero,List.take_nil,List.drop_nil,Bool.false_eq_true,List.length_map,List.length_cons,List.length_nil,List.append_nil,List.nil_append,List.cons_append,List.getElem?_cons_succ,List.getElem?_cons_zero,List.length_append,List.set_cons_succ,List.set_cons_zero,List.map_cons,List.map_nil,if_true,if_false,Nat.reduceEqDiff,Nat.reduceAdd,Nat.reduceLT,reduceIte,true_and,and_true,and_self,Nat.zero_add,Nat.add_zero,ge_iff_le,gt_iff_lt,List.filter_cons,List.filter_nil,List.replicate_zero,List.replicate_succ,List.reverse_cons,List.reverse_nil,Option.map_some,Option.map_none]
      refine fun_iret [0, 1, 2, 3] [.cells [.ptr 3 0], boxP t, treeO x, jobO st ps s] isfn30 (r := .tuple []) ?_ (by simp [boxP, zeroO, jobO]) fun _ => ?_
      · simpa [boxP, zeroO, jobO, eB] using h30
      simp only [j00,j01,j02,j03,j04,j05,j06,j07,j08,j09,j0a,j0b,j0c,j0d,j0e,j0f,j0g,j0h,j0i,j0j,j0k,j0l,j0m,j0n,j0o,j0p,j0q,j0r,j0s,j0t,j3k,j3l,j3m,j3n,j3o,j3p,setAll,j3q,j3r,j3s,j3t,j3u,j3v,j3w,j3x,j3y,j3z,j40,j41,j42,j43,j44,j45,j46,j47,j48,j49,j4a,j4b,j4c,j4d,j4e,j4f,j4g,j4h,j4i,j4j,j4k,j4l,j4m,j4n,j4o,j4p,j4q,j4r,j4s,j4t,j4u,j4v,j4w,j4x,j4y,j4z,j50,j51,j52,j53,j54,j55,j56,j57,Bool.not_true,Bool.not_false,Bool.true_and,Bool.and_true,Bool.false_and,Bool.and_false,Bool.true_or,Bool.or_true,Bool.false_or,Bool.or_false,cond_true,cond_false,aAllocN,aIndex,xLoad,xStore,xField,xFA,xIA,xLen,xMM,xAlloc,xIface,xInt,xStr,xIs,xBin,xAgg,xUn,xPick,xExt,knd,fls,ifc,isBoolK,isPtrK,isFuncK,isIfK,j58,j59,Nat.reduceBEq,eq_self,j5a,j5b,j5c,j5d,j5e,j5f,j5g,j5h,j5i,j5j,j5k,j5l,j5m,j5n,j5o,j5p,j5q,j5r,j5s,j5t,j5u,j5v,j5w,j5x,j5y,j5z,j60,j61,j62,j63,j64,j65,j66,j67,j68,j69,j6a,j6b,j6c,j6d,j6e,j6f,j6g,j6h,j6i,j6j,j6k,j6l,j6m,j6n,splice,List.size_toArray,decide_true,decide_false,Nat.reduceLeDiff,List.getD_cons_zero,List.getD_cons_succ,List.drop_succ_cons,List.drop_zero,List.take_succ_cons,List.take_zero,List.take_nil,List.drop_nil,Bool.false_eq_true,List.length_map,List.length_cons,List.length_nil,List.append_nil,List.nil_append,List.cons_append,List.getElem?_cons_succ,List.getElem?_cons_zero,List.length_append,List.set_cons_succ,List.set_cons_zero,List.map_cons,List.map_nil,if_true,if_false,Nat.reduceEqDiff,Nat.reduceAdd,Nat.reduceLT,reduceIte,true_and,and_true,and_self,Nat.zero_add,Nat.add_zero,ge_iff_le,gt_iff_lt,List.filter_cons,List.filter_nil,List.replicate_zero,List.replicate_succ,List.reverse_cons,List.reverse_nil,Option.map_some,Option.map_none, backN, backSet, backNew, AObj.ren, PV.ren, PV.renL, boxP, treeO, jobO, renL_encI, renL_encA, renL_encP, renL_encT, SK.ren]
      exact ⟨rfl, rfl, rfl, rfl⟩
    rintro e s4 ee G4 a4 w4 ⟨rfl, e0, e2, e3, eh⟩ hx hR4 hE4
    cases ee <;> first | exact hx.elim | skip
    replace hR4 := slots3 hR4 e0 e2 e3
    rw [eh] at hR4
    show Code.wp _ _ _ a4 w4
    refine aw_run (N := 11) (D := [d]) (m := 6) (G0 := G2) (w0 := w2) mixd hσ6 hH6 (x := x29.snd.snd.snd.snd) (by kernel_rfl) (by kernel_rfl)
      (fun e s' => e = .ret ∧ K3 [.cells [.ptr 3 0], boxP t, treeO x, jobO st ps s, .cells (ftl 0 0 eB0), .cells [.bool true]] s') ?_ hR4 hE4 ?_
    · simp only [x29, XCode.fst, XCode.snd, ftl, eB0_def, j00,j01,j02,j03,j04,j05,j06,j07,j08,j09,j0a,j0b,j0c,j0d,j0e,j0f,j0g,j0h,j0i,j0j,j0k,j0l,j0m,j0n,j0o,j0p,j0q,j0r,j0s,j0t,j3k,j3l,j3m,j3n,j3o,j3p,setAll,j3q,j3r,j3s,j3t,j3u,j3v,j3w,j3x,j3y,j3z,j40,j41,j42,j43,j44,j45,j46,j47,j48,j49,j4a,j4b,j4c,j4d,j4e,j4f,j4g,j4h,j4i,j4j,j4k,j4l,j4m,j4n,j4o,j4p,j4q,j4r,j4s,j4t,j4u,j4v,j4w,j4x,j4y,j4z,j50,j51,j52,j53,j54,j55,j56,j57,Bool.not_true,Bool.not_false,Bool.true_and,Bool.and_true,Bool.false_and,Bool.and_false,Bool.true_or,Bool.or_true,Bool.false_or,Bool.or_false,cond_true,cond_false,aAllocN,aIndex,xLoad,xStore,xField,xFA,xIA,xLen,xMM,xAlloc,xIface,xInt,xStr,xIs,xBin,xAgg,xUn,xPick,xExt,knd,fls,ifc,isBoolK,isPtrK,isFuncK,isIfK,j58,j59,Nat.reduceBEq,eq_self,j5a,j5b,j5c,j5d,j5e,j5f,j5g,j5h,j5i,j5j,j5k,j5l,j5m,j5n,j5o,j5p,j5q,j5r,j5s,j5t,j5u,j5v,j5w,j5x,j5y,j5z,j60,j61,j62,j63,j64,j65,j66,j67,j68,j69,j6a,j6b,j6c,j6d,j6e,j6f,j6g,j6h,j6i,j6j,j6k,j6l,j6m,j6n,splice,List.size_toArray,decide_true,decide_false,Nat.reduceLeDiff,List.getD_cons_zero,List.getD_cons_succ,List.drop_succ_cons,List.drop_zero,List.take_succ_cons,List.take_zero,List.take_nil,List.drop_nil,Bool.false_eq_true,List.length_map,List.length_cons,List.length_nil,List.append_nil,List.nil_append,List.cons_append,List.getElem?_cons_succ,List.getElem?_cons_zero,List.length_append,List.set_cons_succ,List.set_cons_zero,List.map_cons,List.map_nil,if_true,if_false,Nat.reduceEqDiff,Nat.reduceAdd,Nat.reduceLT,reduceIte,true_and,and_true,and_self,Nat.zero_add,Nat.add_zero,ge_iff_le,gt_iff_lt,List.filter_cons,List.filter_nil,List.replicate_zero,List.replicate_succ,List.reverse_cons,List.reverse_nil,Option.map_some,Option.map_none, ti70, ti4, aBuild, fillP]
      refine ⟨_, rfl, ?_⟩
      simp only [j00,j01,j02,j03,j04,j05,j06,j07,j08,j09,j0a,j0b,j0c,j0d,j0e,j0f,j0g,j0h,j0i,j0j,j0k,j0l,j0m,j0n,j0o,j0p,j0q,j0r,j0s,j0t,j3k,j3l,j3m,j3n,j3o,j3p,setAll,j3q,j3r,j3s,j3t,j3u,j3v,j3w,j3x,j3y,j3z,j40,j41,j42,j43,j44,j45,j46,j47,j48,j49,j4a,j4b,j4c,j4d,j4e,j4f,j4g,j4h,j4i,j4j,j4k,j4l,j4m,j4n,j4o,j4p,j4q,j4r,j4s,j4t,j4u,j4v,j4w,j4x,j4y,j4z,j50,j51,j52,j53,j54,j55,j56,j57,Bool.not_true,Bool.not_false,Bool.true_and,Bool.and_true,Bool.false_and,Bool.and_false,Bool.true_or,Bool.or_true,Bool.false_or,Bool.or_false,cond_true,cond_false,aAllocN,aIndex,xLoad,xStore,xField,xFA,xIA,xLen,xMM,xAlloc,xIface,xInt,xStr,xIs,xBin,xAgg,xUn,xPick,xExt,knd,fls,ifc,isBoolK,isPtrK,isFuncK,isIfK,j58,j59,Nat.reduceBEq,eq_self,j5a,j5b,j5c,j5d,j5e,j5f,j5g,j5h,j5i,j5j,j5k,j5l,j5m,j5n,j5o,j5p,j5q,j5r,j5s,j5t,j5u,j5v,j5w,j5x,j5y,j5z,j60,j61,j62,j63,j64,j65,j66,j67,j68,j69,j6a,j6b,j6c,j6d,j6e,j6f,j6g,j6h,j6i,j6j,j6k,j6l,j6m,j6n,splice,List.size_toArray,decide_true,decide_false,Nat.reduceLeDiff,List.getD_cons_zero,List.getD_cons_succ,List.drop_succ_cons,List.drop_zero,List.take_succ_cons,List.take_zero,List.take_nil,List.drop_nil,Bool.false_eq_true,List.length_map,List.length_cons,List.length_nil,List.append_nil,List.nil_append,List.cons_append,List.getElem?_cons_succ,List.getElem?_cons_zero,List.length_append,List.set_cons_succ,List.set_cons_zero,List.map_cons,List.map_nil,if_true,if_false,Nat.reduceEqDiff,Nat.reduceAdd,Nat.reduceLT,reduceIte,true_and,and_true,and_self,Nat.zero_add,Nat.add_zero,ge_iff_le,gt_iff_lt,List.filter_cons,List.filter_nil,List.replicate_zero,List.replicate_succ,List.reverse_cons,List.reverse_nil,Option.map_some,Option.map_none, ti70, ti4]
      exact ⟨rfl, rfl, rfl, rfl⟩
    rintro e s5 ee G5 a5 w5 ⟨rfl, e0, e2, e3, eh⟩ hx hR5 hE5
    cases ee <;> first | exact hx.elim | skip
    replace hR5 := slots3 hR5 e0 e2 e3
    rw [eh] at hR5
    refine leaves_run hR rfl (d := d) (caps := caps) hd.symm (u := .returning) (by simp) hR5 (hE2.trans hE5) (hcaps.mono hE5.keeps) rfl (by simp [ftl]) (by simp) (L2 := [.cells [.bool true], .cells (ftl 0 0 eB0)]) (L3 := [.cells [.bool true], .cells (ftl 0 0 eB0)]) (by simp) rfl
      (fun G6 hR6 hV6 _ => (d53_ok 0 0 eB0 hR6 hV6).mono fun e u' w' ⟨h1, h2⟩ => ⟨by rw [h1]; rfl, h2⟩) ?_ (fun v w' G' h1 h2 h3 => ⟨G', h1, h2, h3⟩)
    refine kret_at _ [0, 1, 2, 3] false (.refl _ _ _) (p := .tuple [.agg (ftl 0 0 eB0), .bool true]) ?_ ?_ ?_ ?_
    · simp [resV, rvs, rvOf, ti70, ti4, partP, ftl, boxP, treeO, jobO]
    · exact ⟨by simp, by simp [boxP, treeO, jobO], kept4⟩
    · simp [boxP, treeO, jobO]
    · simp
  | error er =>
    obtain ⟨rfl, rfl⟩ := hno er hrend
    have h30 := spec30 st hst ps t ht
    rw [hrend] at h30
    refine aw_run (N := 11) (D := [d]) (m := 6) (G0 := G2) (w0 := w2) mixd hσ6 hH6 (x := x29.snd.snd.snd.fst) (by kernel_rfl) (by kernel_rfl)
      (fun e s' => e = .pan (flt er) ∧ K3 [.dead, .dead, .dead, .dead, .cells (ftl 0 0 eB0), .cells [.bool false]] s') ?_ hR3 (.refl _ _) ?_
    · simp only [x29, XCode.fst, XCode.snd, clo, j00,j01,j02,j03,j04,j05,j06,j07,j08,j09,j0a,j0b,j0c,j0d,j0e,j0f,j0g,j0h,j0i,j0j,j0k,j0l,j0m,j0n,j0o,j0p,j0q,j0r,j0s,j0t,j3k,j3l,j3m,j3n,j3o,j3p,setAll,j3q,j3r,j3s,j3t,j3u,j3v,j3w,j3x,j3y,j3z,j40,j41,j42,j43,j44,j45,j46,j47,j48,j49,j4a,j4b,j4c,j4d,j4e,j4f,j4g,j4h,j4i,j4j,j4k,j4l,j4m,j4n,j4o,j4p,j4q,j4r,j4s,j4t,j4u,j4v,j4w,j4x,j4y,j4z,j50,j51,j52,j53,j54,j55,j56,j57,Bool.not_true,Bool.not_false,Bool.true_and,Bool.and_true,Bool.false_and,Bool.and_false,Bool.true_or,Bool.or_true,Bool.false_or,Bool.or_false,cond_true,cond_false,aAllocN,aIndex,xLoad,xStore,xField,xFA,xIA,xLen,xMM,xAlloc,xIface,xInt,xStr,xIs,xBin,xAgg,xUn,xPick,xExt,knd,fls,ifc,isBoolK,isPtrK,isFuncK,isIfK,j58,j59,Nat.reduceBEq,eq_self,j5a,j5b,j5c,j5d,j5e,j5f,j5g,j5h,j5i,j5j,j5k,j5l,j5m,j5n,j5o,j5p,j5q,j5r,j5s,j5t,j5u,j5v,j5w,j5x,j5y,j5z,j60,j61,j62,j63,j64,j65,j66,j67,j68,j69,j6a,j6b,j6c,j6d,j6e,j6f,j6g,j6h,j6i,j6j,j6k,j6l,j6m,j6n,splice,List.size_toArray,decide_true,decide_false,Nat.reduceLeDiff,List.getD_cons_zero,List.getD_cons_succ,List.drop_succ_cons,List.drop_zero,List.take_succ_cons,List.take_zero,List.take_nil,List.drop_nil,Bool.false_eq_true,List.length_map,List.length_cons,List.length_nil,List.append_nil,List.nil_append,List.cons_append,List.getElem?_cons_succ,List.getElem?_cons_zero,List.length_append,List.set_cons_succ,List.set_cons_zero,List.map_cons,List.map_nil,if_true,if_false,Nat.reduceEqDiff,Nat.reduceAdd,Nat.reduceLT,reduceIte,true_and,and_true,and_self,Nat.zero_add,Nat.add_zero,ge_iff_le,gt_iff_lt,List.filter_cons,List.filter_nil,List.replicate_zero,List.replicate_succ,List.reverse_cons,List.reverse_nil,Option.map_some,Option.map_none]
      refine fun_ipan [0, 1, 2, 3] [.dead, .dead, .dead, .dead] isfn30 (r := flt er) ?_ (by simp [boxP, zeroO, jobO]) ?_
      · simpa [boxP, zeroO, jobO, eB] using h30
      simp only [j00,j01,j02,j03,j04,j05,j06,j07,j08,j09,j0a,j0b,j0c,j0d,j0e,j0f,j0g,j0h,j0i,j0j,j0k,j0l,j0m,j0n,j0o,j0p,j0q,j0r,j0s,j0t,j3k,j3l,j3m,j3n,j3o,j3p,setAll,j3q,j3r,j3s,j3t,j3u,j3v,j3w,j3x,j3y,j3z,j40,j41,j42,j43,j44,j45,j46,j47,j48,j49,j4a,j4b,j4c,j4d,j4e,j4f,j4g,j4h,j4i,j4j,j4k,j4l,j4m,j4n,j4o,j4p,j4q,j4r,j4s,j4t,j4u,j4v,j4w,j4x,j4y,j4z,j50,j51,j52,j53,j54,j55,j56,j57,Bool.not_true,Bool.not_false,Bool.true_and,Bool.and_true,Bool.false_and,Bool.and_false,Bool.true_or,Bool.or_true,Bool.false_or,Bool.or_false,cond_true,cond_false,aAllocN,aIndex,xLoad,xStore,xField,xFA,xIA,xLen,xMM,xAlloc,xIface,xInt,xStr,xIs,xBin,xAgg,xUn,xPick,xExt,knd,fls,ifc,isBoolK,isPtrK,isFuncK,isIfK,j58,j59,Nat.reduceBEq,eq_self,j5a,j5b,j5c,j5d,j5e,j5f,j5g,j5h,j5i,j5j,j5k,j5l,j5m,j5n,j5o,j5p,j5q,j5r,j5s,j5t,j5u,j5v,j5w,j5x,j5y,j5z,j60,j61,j62,j63,j64,j65,j66,j67,j68,j69,j6a,j6b,j6c,j6d,j6e,j6f,j6g,j6h,j6i,j6j,j6k,j6l,j6m,j6n,splice,List.size_toArray,decide_true,decide_false,Nat.reduceLeDiff,List.getD_cons_zero,List.getD_cons_succ,List.drop_succ_cons,List.drop_zero,List.take_succ_cons,List.take_zero,List.take_nil,List.drop_nil,Bool.false_eq_true,List.length_map,List.length_cons,List.length_nil,List.append_nil,List.nil_append,List.cons_append,List.getElem?_cons_succ,List.getElem?_cons_zero,List.length_append,List.set_cons_succ,List.set_cons_zero,List.map_cons,List.map_nil,if_true,if_false,Nat.reduceEqDiff,Nat.reduceAdd,Nat.reduceLT,reduceIte,true_and,and_true,and_self,Nat.zero_add,Nat.add_zero,ge_iff_le,gt_iff_lt,List.filter_cons,List.filter_nil,List.replicate_zero,List.replicate_succ,List.reverse_cons,List.reverse_nil,Option.map_some,Option.map_none, backN, backSet, backNew, AObj.ren, PV.ren, PV.renL, SK.ren, ren_flt]
      exact ⟨rfl, rfl, rfl, rfl⟩
    rintro e s4 ee G4 a4 w4 ⟨rfl, e0, e2, e3, eh⟩ hx hR4 hE4
    cases ee <;> first | exact hx.elim | skip
    obtain ⟨v, rfl, hv⟩ := hx
    replace hR4 := slots3 hR4 e0 e2 e3
    rw [eh] at hR4
    show Leaves _ _ _ _ _ _ _
    refine leaves_run hR rfl (d := d) (caps := caps) hd.symm (u := .panicking [{ v, recovered := false }]) (by simp) hR4 (hE2.trans hE4) (hcaps.mono hE4.keeps) rfl (by simp [ftl]) (by simp) (L2 := [.cells [.bool false], .cells (ftl 0 0 eB0)]) (L3 := [.cells [.bool false], .cells (ftl 6 er.2 er.1)]) (by simp) rfl
      (fun G6 hR6 hV6 hvv => (d53_pan 0 0 eB0 6 er.2 er.1 v (hvv er v hv) hR6 hV6).mono fun e u' w' ⟨h1, h2⟩ => ⟨by rw [h1]; rfl, h2⟩) ?_ (fun v w' G' h1 h2 h3 => ⟨G', h1, h2, h3⟩)
    refine kret_at _ [0, 1, 2, 3] false (.refl _ _ _) (p := .tuple [.agg (ftl 6 er.2 er.1), .bool false]) ?_ ?_ ?_ ?_
    · simp [resV, rvs, rvOf, ti70, ti4, partP, ftl]
    · exact ⟨by simp, by simp, kept4⟩
    · simp
    · simp
end Go.Proofs.YtlfngjemfpjegaaDoor.Px
