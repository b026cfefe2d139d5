/- Runs in pieces, deferred calls and recovery. -/
import Derived.Test.YtlfngjemfpjegaaDoorPxV
import Derived.Recover
namespace Go.Proofs.YtlfngjemfpjegaaDoor.Px
open Go
set_option linter.unusedVariables false
set_option linter.unusedSimpArgs false

def XCode.fst : XCode → XCode
  | .seq x _ => x
  | x => x
def XCode.cutd : XCode → XCode
  | .cut x => x
  | x => x
def XCode.snd : XCode → XCode
  | .seq _ y => y
  | x => x
section
variable {P : Program} {m N : Nat} {D : List Deferred}

theorem aw_piece (hm : P.follows .mixedOrders = true) {G0 : Gh} {w0 : World} (hσ : ∀ l B, G0.σ l = some B → l < m) (hH : ∀ l e x, G0.H l e = some x → l < m)
    {x : XCode} {c : Code} (hs : strip c = some (erase x)) (ho : okd N x = true) {Q : Exit → Act → World → Prop} {next : Act → World → Prop} {s : XS} {G : Gh} {a : Act} {w : World} {K : XS → Prop}
    (h : aw P m N x (fun e s' => e = .normal ∧ K s') s) (hR : RX N D G s a w) (hE : Ev G0 w0 G w)
    (hn : ∀ s' G' a' w', K s' → RX N D G' s' a' w' → Ev G0 w0 G' w' → next a' w') : c.wp P (Exit.then next Q) a w := by
  refine aw_sound hm hσ hH x c hs ho _ _ ?_ s G a w h hR hE
  rintro e s' ee a' w' G' ⟨rfl, hk⟩ hx hR' hE'
  cases ee <;> first | exact hx.elim | exact hn _ _ _ _ hk hR' hE'

theorem aw_run (hm : P.follows .mixedOrders = true) {G0 : Gh} {w0 : World} (hσ : ∀ l B, G0.σ l = some B → l < m) (hH : ∀ l e x, G0.H l e = some x → l < m)
    {x : XCode} {c : Code} (hs : strip c = some (erase x)) (ho : okd N x = true) {Q : Exit → Act → World → Prop} {s : XS} {G : Gh} {a : Act} {w : World} (K : XExit → XS → Prop)
    (h : aw P m N x K s) (hR : RX N D G s a w) (hE : Ev G0 w0 G w)
    (hQ : ∀ e s' ee G' a' w', K e s' → ExRel G' w' e ee → RX N D G' s' a' w' → Ev G0 w0 G' w' → Q ee a' w') : c.wp P Q a w :=
  aw_sound hm hσ hH x c hs ho _ _ (fun e s' ee a' w' G' hk hx hR' hE' => hQ e s' ee G' a' w' hk hx hR' hE') s G a w h hR hE

/-- The results, and what is left. -/
theorem kret_out {G0 G : Gh} {w0 w : World} {L : List AObj} (hR0 : RH G0 L w0) {fn : Func} {ts : List ResultVar} (hr : fn.results = ts.toArray) {s : XS} {a : Act} {out : Out} {L' : List AObj}
    (h : kret P ts L.length N out L' s) (hR : RX N D G s a w) (hE : Ev G0 w0 G w) : ∃ v, (results fn a.tmps).run P w = .ok v w ∧ ∃ G', OutRel G' w out (.returned v) ∧ RH G' L' w ∧ Ev G0 w0 G' w := by
  obtain ⟨s', p, rs, k, hwk, hp, hk, rfl, rfl⟩ := h
  obtain ⟨G', hRX, hE'⟩ := hwk D G a w hR
  have hE := hE' G0 w0 (fun l B h => (hR0.σdom l B h).1) (fun l e x h => (hR0.Hdom l e x.1 x.2 h).1) hE
  obtain ⟨v, hv, hV⟩ := resV_V (P := P) hRX hp hr
  exact ⟨v, hv, G'.sub rs, sub_V hV, hRX.rs.hp.sub hk.1 hk.2.1, hE.sub hk.2.2 (fun l B h => (hR0.σdom l B h).1) (fun l e x h => (hR0.Hdom l e x.1 x.2 h).1)⟩

/-- The start of a run. -/
theorem rx_start {G : Gh} {w : World} {L : List AObj} {args : List PV} {cargs : Array Value} {n : Nat} (hR : RH G L w) (hV : VL G w args cargs.toList) :
    RX n [] G ⟨enum 0 args, L⟩ { tmps := cargs ++ Array.replicate (n - cargs.size) undef, defers := [] } w := by
  refine ⟨⟨fun t => ?_, hR⟩, ?_, rfl⟩
  · simp only [XS.st, look_enum, Nat.zero_le, if_true, Nat.sub_zero]
    by_cases ht : t < args.length
    · have hl := hV.1
      have h2 := hV.2 t ht (by rw [hl]; exact ht)
      rw [List.getD_eq_getElem?_getD, List.getElem?_eq_getElem ht, Option.getD_some]
      have h3 : t < cargs.size := by have := hl; simp at this; omega
      simpa [Array.getD_eq_getD_getElem?, Array.getElem?_append, h3] using h2
    · rw [List.getD_eq_getElem?_getD, List.getElem?_eq_none (by omega), Option.getD_none]
      exact .bad _
  · simp; omega

/-- A deferred call that looks at no panic. -/
theorem ispecD_of_aw (hm : P.follows .mixedOrders = true) {f : FuncId} {fn : Func} {c : Code} {x : XCode} {ts : List ResultVar} {args : List PV} {L L' : List AObj} {v : PV} {u : FrameMode} (hf : P.funcs[f]? = some fn) (hb : fn.body = some c) (hs : strip c = some (erase x))
    (hd : okd fn.ntmps x = true) (hr : fn.results = ts.toArray) (h : aw P L.length fn.ntmps x (fun e s => (e = .ret ∨ e = .normal) ∧ kret P ts L.length fn.ntmps (.ret v) L' s) ⟨enum 0 args, L⟩)
    {G : Gh} {w : World} {cargs : Array Value} (hR : RH G L w) (hV : VL G w args cargs.toList) :
    CallsD P f cargs u w fun e u' w' => u' = u ∧ ∃ r, e = .returned r ∧ ∃ G', RH G' L' w' ∧ Ev G w G' w' := by
  refine callsD_of_wp hf hb (R := fun e w' => ∃ r, e = .returned r ∧ ∃ G', RH G' L' w' ∧ Ev G w G' w') (aw_sound hm (m := L.length) (N := fn.ntmps) (D := []) (G0 := G) (w0 := w) (fun l B h => (hR.σdom l B h).1) (fun l e x h => (hR.Hdom l e x.1 x.2 h).1) x c hs hd _ _ ?_ _ G _ w h (rx_start hR hV) (.refl _ _))
  rintro e s ee a w' G' ⟨he, hk⟩ hx hRX hE
  obtain ⟨r, hres, G'', ho, hR', hE'⟩ := kret_out hR hr hk hRX hE
  rcases he with rfl | rfl <;> cases ee <;> first | exact hx.elim | exact ⟨hRX.df, r, hres, r, rfl, G'', hR', hE'⟩

theorem rx_slots {G : Gh} {s : XS} {a : Act} {w : World} {l' : List (Nat × PV)} (h : RX N D G s a w) (hl : ∀ p ∈ l', look s.l p.1 = p.2) : RX N D G ⟨l', s.hp⟩ a w := by
  refine ⟨⟨fun t => ?_, h.rs.hp⟩, h.n, h.df⟩
  rcases look_mem l' t with e | e
  · simp only [XS.st, e]; exact .bad _
  · have := hl _ e
    simp only at this
    simp only [XS.st]
    rw [← this]
    exact h.rs.tm t
theorem wpOps_value {ops : Array Oper} {Q : Exit → Act → World → Prop} {i : Nat} {rest : List Nat} {o : Oper} {a : Act} {w : World} {v : Value}
    (ho : ops[i]? = some o) (hg : o.guard = none) (hr : (execOp a.eval o).run P w = .ok (.value v) w) (h : wpOps P ops Q rest (a.put o.dst v) w) : wpOps P ops Q (i :: rest) a w := by
  have hw : Region.wanted o (yielded ops a.tmps) = true := by simp [Region.wanted, hg]
  simp only [wpOps, ho, hw, if_true]
  refine .inl ?_
  unfold Oper.wp
  rw [hr]
  exact h
theorem wpOps_defer {ops : Array Oper} {Q : Exit → Act → World → Prop} {i : Nat} {rest : List Nat} {o : Oper} {a : Act} {w : World} {d : Deferred}
    (ho : ops[i]? = some o) (hg : o.guard = none) (hr : (execOp a.eval o).run P w = .ok (.defer d) w) (h : wpOps P ops Q rest ({ a with defers := d :: a.defers }.put o.dst undef) w) : wpOps P ops Q (i :: rest) a w := by
  have hw : Region.wanted o (yielded ops a.tmps) = true := by simp [Region.wanted, hg]
  simp only [wpOps, ho, hw, if_true]
  refine .inl ?_
  unfold Oper.wp
  rw [hr]
  exact h
theorem wpOpsS_recover {ops : Array Oper} {Q : Exit → Act → List Frame → World → Prop} {i : Nat} {rest : List Nat} {o : Oper} {a : Act} {cs cs' : List Frame} {w : World} {v : Value} {ts : Array TypeId}
    (ho : ops[i]? = some o) (hop : o.op = .call { callee := .builtin .recover, args := #[], argTypes := ts }) (hg : o.guard = none) (hrec : recoverD cs = some (v, cs')) (h : wpOpsS P ops Q rest (a.put o.dst v) cs' w) :
    wpOpsS P ops Q (i :: rest) a cs w := by
  have hw : Region.wanted o (yielded ops a.tmps) = true := by simp [Region.wanted, hg]
  have hr : (execOp a.eval o).run P w = .ok .recover w := by
    obtain ⟨d, op, t, p, af, g⟩ := o
    simp only at hop
    subst hop
    simp [execOp, resolve, invoke, builtin]
  simp only [wpOpsS, ho, hw, if_true, hr, hrec]
  exact h
theorem wpOpsS_assign {ops : Array Oper} {Q : Exit → Act → List Frame → World → Prop} {i : Nat} {rest : List Nat} {o : Oper} {a : Act} {cs : List Frame} {w : World} {x : Operand}
    (ho : ops[i]? = some o) (hop : o.op = .assign x) (hg : o.guard = none) (h : wpOpsS P ops Q rest (a.put o.dst (a.eval x)) cs w) :
    wpOpsS P ops Q (i :: rest) a cs w := by
  have hw : Region.wanted o (yielded ops a.tmps) = true := by simp [Region.wanted, hg]
  have hr : (execOp a.eval o).run P w = .ok (.value (a.eval x)) w := by
    obtain ⟨d, op, t, p, af, g⟩ := o
    simp only at hop
    subst hop
    simp [execOp]
  simp only [wpOpsS, ho, hw, if_true, hr]
  exact h

/-- Behind a deferred call that was handed the objects rs: the caller's frame. -/
theorem rx_behind {G G1 : Gh} {w w' : World} {s : XS} {a : Act} {rs : List Nat} {L' : List AObj} (hRX : RX N D G s a w) (hn : rs.Nodup) (hlt : ∀ l ∈ rs, l < s.hp.length ∧ s.hp[l]? ≠ some .dead)
    (hlen : rs.length = L'.length) (hR1 : RH G1 L' w') (hE1 : Ev (G.sub rs) w G1 w') :
    RX N D (G.back G1 s.hp.length rs) ⟨s.l, setAll s.hp (backSet (backN s.hp.length rs) rs L') ++ backNew (backN s.hp.length rs) rs.length L'⟩ a w' ∧ Ev G w (G.back G1 s.hp.length rs) w' := by
  obtain ⟨hR2, hE2⟩ := (show RH G s.hp w from hRX.rs.hp).back hn (fun l hl => (hlt l hl).1) hR1 hE1 (by omega) fun l hl => (hlt l hl).2
  exact ⟨⟨⟨fun t => (hRX.rs.tm t).mono hE2.keeps, hR2⟩, hRX.n, hRX.df⟩, hE2⟩
end
end Go.Proofs.YtlfngjemfpjegaaDoor.Px
