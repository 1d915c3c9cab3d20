/- Pv, part P: from a call's contract to what a row asks. -/
import Derived.Test.YtdmhagjcmlaiiaaDoorPvO
import Derived.ProofKit
set_option linter.unusedVariables false
set_option linter.unusedSimpArgs false
namespace Go.Pv
open Go.ChangeShapes

/-- Nothing here is ours: every block that lies belongs to the outside. -/
def gOut (w : World) : G := ⟨fun _ => 0, fun b => if b < w.heap.size then .out else .free, fun _ => 0, fun _ => 0, 0⟩
theorem settled_out (w : World) : Settled (gOut w) w [] :=
  ⟨rfl, fun i c h => by simp at h, fun b h => by simp [gOut] at h, fun b h => ⟨by simp only [gOut]; rw [if_neg (by omega)], rfl⟩⟩

/-- The world's old part stays as it was. -/
structure Kept (w w' : World) : Prop where
  os : w'.os = w.os
  output : w'.output = w.output
  heap : ∀ b, b < w.heap.size → w'.heap[b]? = w.heap[b]?
theorem Kept.but {w w' : World} (h : Kept w w') (may : MemPlace → Prop) : w.keptBut w' may := by
  refine ⟨h.os, h.output, fun i hi => ?_⟩
  rw [h.heap i hi]
  exact (World.keptBut_refl w may).2.2 i hi
theorem Kept.frozen {w w' : World} (h : Kept w w') {b : Nat} (hb : b < w.heap.size) (off : Nat) : w'.frozen? ⟨b, off, none⟩ = w.frozen? ⟨b, off, none⟩ := by
  simp only [World.frozen?, h.heap b hb]

theorem run_enter {P : Program} {f : FuncId} {func : Func} (hf : P.funcs[f]? = some func) (hb : func.body.isSome = true) (hname : func.name ≠ "runtime.NumGoroutine") (args : Array Value) (w : World) : (callFunc f args).run P w = .ok (.enter f args) w := by
  obtain ⟨c, hc⟩ := Option.isSome_iff_exists.1 hb
  simp [callFunc, hf, hname, hc]
theorem calls_of_go {P : Program} {f : FuncId} {args : Array Value} {w : World} {R : Value → World → Prop} (he : (callFunc f args).run P w = .ok (.enter f args) w) (h : CallGo P f args w R) : Calls P f args w fun e w' => ∃ v, e = .returned v ∧ R v w' := by
  rcases h with ⟨_, h⟩ | ⟨v, w', h, _⟩
  · refine h.mono fun e w' he => ?_
    cases e with
    | returned v => exact ⟨v, rfl, he⟩
    | panicked c => exact he.elim
    | outgrown => exact he.elim
  · rw [he] at h
    cases h

/-- A law's call, from its walk in the pure machine. -/
theorem calls_law {P : Program} {J : Ix} {Γ : Env} {Xt : XRel} (hm : P.follows .mixedOrders = true) (hF : ∀ f fn, Γ.F f = some fn → ∃ func, P.funcs[f]? = some func ∧ okFnAt P func (Γ.sig f) fn = true) (hX : ∀ f as res m, Xt f as res → CallOk P J f as m res m)
    {f : FuncId} {func : Func} (hf : P.funcs[f]? = some func) (hb : func.body.isSome = true) (hname : func.name ≠ "runtime.NumGoroutine") {as : List PV} {x : Value} {m' : Mem} (h : CallT Γ Xt f as [] (.v x) m') (w : World) {vs : List Value}
    (hw : J.N ≤ w.heap.size) (hI : ∃ φ, J.I φ ∧ ∀ b, b < J.N → w.heap[b]? = φ b) (hl : as.length = vs.length) (hr : ∀ (j : Nat) (c : PV) (u : Value), as[j]? = some c → vs[j]? = some u → Rr (gOut w) w c u ∧ OwnP (gOut w) w (.slot j) c u) : Calls P f vs.toArray w fun e w' => e = .returned x ∧ Kept w w' := by
  obtain ⟨n, h⟩ := h
  have hgo := calln_ok hm hF hX n f as [] (.v x) m' h (gOut w) w vs hl hr (settled_out w) ⟨hw, fun b hb => by simp only [gOut]; rw [if_pos (by omega)], hI⟩
  refine (calls_of_go (run_enter hf hb hname _ w) hgo).mono fun e w' ⟨v, he, g', hfwd, hrr, _, _⟩ => ?_
  subst he
  rw [hrr.inv_v]
  refine ⟨rfl, hfwd.os, hfwd.output, fun b hb => (hfwd.out b ?_ hb).1⟩
  simp only [gOut]
  rw [if_pos hb]

/-- Closed values, as a law is given them. -/
theorem plain_args {w : World} {g : G} {as : List PV} {vs : List Value} (h : as = vs.map .v) (j : Nat) (c : PV) (u : Value) (hc : as[j]? = some c) (hu : vs[j]? = some u) : Rr g w c u ∧ OwnP g w (.slot j) c u := by
  subst h
  simp only [List.getElem?_map, Option.map_eq_some_iff] at hc
  obtain ⟨x, hx, rfl⟩ := hc
  rw [hx] at hu
  cases hu
  exact ⟨.v _, ownP_of (by simp) (by simp)⟩

/-- 'post_of_same', asking of what the arguments led to alone that it be frozen no more. -/
theorem post_of_kept {H : Type} {enc : TypeId × Value → H} {P : Program} {f : Func} {s : ChangeSpec} {apart fresh handsOn again : Bool} {W W' : World} {args : Array Value} {v : Value} {ds gs : List (DataW H)} {before pa pv : List MemPlace}
    (hW : DataW.Whole enc P f.params.toList s.vars apart W args.toList ds gs before)
    (hres : ∀ (b : Nat) (sp : Nat → Bool) (hd : Bool), DataW.TrodAll enc P W' b sp hd f.resultTypes.toList (v.resultList f.resultTypes.size) (s.fn H (ds ++ gs)).results [])
    (hargs : ∀ sp : Nat → Bool, (∀ p ∈ before, sp p.block = true) → DataW.TrodAll enc P W' 0 sp true f.params.toList args.toList (s.fn H (ds ++ gs)).args pa)
    (hvars : ∀ sp : Nat → Bool, (∀ p ∈ before, sp p.block = true) → DataW.TrodVars enc P W' sp s.vars (s.fn H (ds ++ gs)).vars pv)
    (hps : before = pa ++ pv) (hk : Kept W W')
    (hok : ∀ (j : Nat) (t : TypeId) (r : Value), f.resultTypes[j]? = some t → (v.resultList f.resultTypes.size)[j]? = some r → Value.okWide P W' .any 0 t r) :
    s.post enc P f apart fresh handsOn again W args v W' := by
  have hlt := fun p (hp : p ∈ before) => hW.lt p hp
  have hold : ∀ p ∈ before, (fun b => decide (b < W.heap.size)) p.block = true := fun p hp => by simpa using hW.lt p hp
  refine ⟨ds, gs, before, [], pa, pv, hW, hres _ _ _, hargs _ hold, hvars _ hold, World.keptBut_mono (fun p hp => ⟨hp, ?_⟩) (hk.but _), fun _ => ?_⟩
  · rw [hps, List.mem_append] at hp
    exact Or.inr hp
  · obtain ⟨_, _, _, _, _, hz, hn⟩ := hW
    refine ⟨hok, _, _, ([] ++ pa) ++ pv, ⟨[] ++ pa, pv, trodAll_append (hargs _ (fun _ _ => rfl)) (hres _ _ _), hvars _ (fun _ _ => rfl), rfl, ?_, ?_⟩, ?_⟩
    · intro b off hp
      have hp' : MemPlace.cell b off ∈ before := by rw [hps]; simpa using hp
      rw [hk.frozen (b := b) (hlt _ hp')]
      exact hz b off hp'
    · intro ha
      have := hn ha
      rw [hps] at this
      simpa using this
    · intro p hp _
      rw [hps]
      simpa using hp
end Go.Pv
