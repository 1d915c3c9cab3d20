/- Pv, part N: functions keep their contracts. -/
import Derived.Test.YtdmhagjcmlaiiaaDoorPvM
set_option linter.unusedVariables false
set_option linter.unusedSimpArgs false
namespace Go.Pv

def okFnAt (P : Program) (func : Func) (sg : Sig) (fn : Fn) : Bool :=
  match func.body with
  | some code => okC P func.ntmps code fn.body && decide (fn.n ≤ func.ntmps) && okRes P func.results.toList fn.res && srcsOk (srcs sg.keep fn.res) && func.name != "runtime.NumGoroutine"
  | none => false

section
variable {P : Program} {J : Ix} {Γ : Env} {CR : CRel}

theorem fn_ok (hm : P.follows .mixedOrders = true) (hC : ∀ f as m r m', CR f as m r m' → CallOk P J f as m r m') {f : FuncId} {func : Func} {sg : Sig} {fn : Fn} (hf : P.funcs[f]? = some func) (hok : okFnAt P func sg fn = true)
    {as : List PV} {m : Mem} {e : Ex} {st' : St} {raw res : PV} (hn : as.length = fn.n) (hE : EvC Γ CR fn.body (St.init as m) e st') (he : e = .nor ∨ e = .ret) (hr : readRes st' fn.res = some raw) (hp : passRes sg.keep raw = some res) :
    CallOk P J f as m res st'.mem := by
  intro g w vs hlen hargs hset hfix
  unfold okFnAt at hok
  split at hok
  · rename_i code hb
    simp only [Bool.and_eq_true, decide_eq_true_eq, bne_iff_ne, ne_eq] at hok
    obtain ⟨⟨⟨⟨hc, hsz⟩, hres⟩, hsrc⟩, hname⟩ := hok
    refine .inl ⟨by simp [callFunc, hf, hname, hb], ?_⟩
    refine calls_of_wp hf hb ?_
    have htm : ∀ (t : Nat) (v : Value), vs[t]? = some v → (vs.toArray ++ Array.replicate (func.ntmps - vs.toArray.size) undef)[t]? = some v := by
      intro t v hv
      have := lt_of_get hv
      rw [Array.getElem?_append_left (by simpa using this)]
      simpa using hv
    have hR : Rel g (St.init as m) { tmps := vs.toArray ++ Array.replicate (func.ntmps - vs.toArray.size) undef, defers := [] } w := by
      refine ⟨fun t p ht => ?_, fun d c h => by simp [St.init] at h, hset.num, hset.objs, fun t d o h => ?_, hset.gw, hset.fr, rfl⟩
      · simp only [St.init] at ht
        have hv : vs[t]? = some (vs[t]'(by rw [← hlen]; exact lt_of_get ht)) := List.getElem?_eq_getElem _
        exact ⟨_, htm t _ hv, .inr (hargs t p _ ht hv)⟩
      · simp only [St.init] at h
        have hv : vs[t]? = some (vs[t]'(by rw [← hlen]; exact lt_of_get h)) := List.getElem?_eq_getElem _
        have := (hargs t _ _ h hv).1
        cases this
    refine (code_sound hm hC hE).1 code hc g _ w _ hR ⟨by simp; omega, hfix⟩ fun g1 a1 w1 hR1 hF1 hN1 => ?_
    obtain ⟨v, hrun, hrr, hown⟩ := results_ok (P := P) hR1 hres hsrc hr hp
    have hfin : a1.defers = [] ∧ ∃ v, (results func a1.tmps).run P w1 = .ok v w1 ∧ (∃ g', Fwd g w g' w1 ∧ Rr g' w1 res v ∧ OwnP g' w1 (.ret 0) res v ∧ Settled g' w1 st'.mem) := by
      refine ⟨hR1.defers, v, hrun, g1.re (moveR (srcs sg.keep fn.res)), hF1.trans (fwd_re fun c => moveR_out c), hrr, hown, hR1.num, fun i c hc' => (hR1.objs i c hc').reSame rfl fun j => ?_, hR1.gw, fun b hb' => ⟨?_, (hR1.fr b hb').2⟩⟩
      · simp [moveR]
      · show moveR _ (g1.cl b) = _
        rw [(hR1.fr b hb').1]
        rfl
    rcases he with rfl | rfl
    · exact hfin
    · exact hfin
  · cases hok

theorem calln_ok (hm : P.follows .mixedOrders = true) {Xt : XRel} (hF : ∀ f fn, Γ.F f = some fn → ∃ func, P.funcs[f]? = some func ∧ okFnAt P func (Γ.sig f) fn = true) (hX : ∀ f as res m, Xt f as res → CallOk P J f as m res m) :
    ∀ n f as m r m', CallN Γ Xt n f as m r m' → CallOk P J f as m r m' := by
  intro n
  induction n with
  | zero =>
    rintro f as m r m' ⟨h, rfl⟩
    exact hX f as r _ h
  | succ n ih =>
    rintro f as m r m' (⟨h, rfl⟩ | ⟨fn, st', e, raw, h1, h2, h3, h4, h5, h6, rfl⟩)
    · exact hX f as r _ h
    · obtain ⟨func, hf, hok⟩ := hF f fn h1
      exact fn_ok hm ih hf hok h2 h3 h4 h5 h6
end
end Go.Pv
