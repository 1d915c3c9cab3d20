/- Pv, part R: the abstract machine run by computing. -/
import Derived.Test.YtdmhagjcmlaiiaaDoorPvO
set_option linter.unusedVariables false
set_option linter.unusedSimpArgs false
namespace Go.Pv
abbrev CallF := FuncId → List PV → Mem → Option (PV × Mem)

def rCall (Γ : Env) (call : CallF) (o : O) (s : S) (pure : Bool) (f : FuncId) (as : List PV) : Option S :=
  if killOk (Γ.sig f).own o.ins o.kill then
    match pass (Γ.sig f).own as with
    | none => none
    | some bs =>
      if pure then (if PV.noPtrL bs then (match call f bs [] with | some (p, _) => if p.noPtr then some ((s.kill o.kill).put o.dst p) else none | none => none) else none)
      else (match call f bs s.m with | some (p, m') => some (((s.kill o.kill).setM m').put o.dst p) | none => none)
  else none
def rA (Γ : Env) (call : CallF) (o : O) (s : S) (l : List PV) : Kind → Option S
  | .pure => match evalP o.act l with
    | some p => some ((s.kill o.kill).put o.dst p)
    | none => none
  | .box d => match evalB o.act l (lk s.b d) with
    | some (p, c) => some (((s.kill o.kill).setB d c).put o.dst p)
    | none => none
  | .mem => match evalM o.act l s.m with
    | some (p, m) => some (((s.kill o.kill).setM m).put o.dst p)
    | none => none
  | .call pure => match target l with
    | some (f, as) => rCall Γ call o s pure f as
    | none => none
def r1 (Γ : Env) (call : CallF) (o : O) (s : S) : Option S :=
  match wantedS s.e o.guard with
  | some true => (match valsS s.e o.ins with
    | some l => rA Γ call o s l o.act.kind
    | none => none)
  | some false => some (s.put o.dst undefP)
  | none => none
def rO (Γ : Env) (call : CallF) : List O → S → Option S
  | [], s => some s
  | o :: l, s => match r1 Γ call o s with
    | some s1 => rO Γ call l s1
    | none => none
def rLoop (f : S → Option (Ex × S)) : Nat → S → Option (Ex × S)
  | 0, _ => none
  | n + 1, s => match f s with
    | some (.nor, s1) => rLoop f n s1
    | r => r
def rC (Γ : Env) (call : CallF) (n : Nat) : C → S → Option (Ex × S)
  | .skip, s => some (.nor, s)
  | .reg _ l, s => match rO Γ call l (s.fresh (newsOf l)) with
    | some s1 => some (.nor, s1)
    | none => none
  | .seq a b, s => match rC Γ call n a s with
    | some (.nor, s1) => rC Γ call n b s1
    | r => r
  | .cond x a b, s => match valS s.e x with
    | some (.v (.bool true)) => rC Γ call n a s
    | some (.v (.bool false)) => rC Γ call n b s
    | _ => none
  | .block id c, s => match rC Γ call n c s with
    | some (e, s1) => some (e.inBlock id, s1)
    | none => none
  | .loop c, s => rLoop (rC Γ call n c) n s
  | .exit id, s => some (.exit id, s)
  | .ret, s => some (.ret, s)
  | .dead, _ => none
def rF (Γ : Env) : Nat → CallF
  | 0 => fun _ _ _ => none
  | n + 1 => fun f as m => match Γ.F f with
    | none => none
    | some fn => if as.length = fn.n then
        (match rC Γ (rF Γ n) n fn.body ⟨argsL 0 as, [], m⟩ with
        | some (.exit _, _) => none
        | some (_, s) => (match readRes s.st fn.res with
          | some raw => (match passRes (Γ.sig f).keep raw with
            | some res => some (res, s.m)
            | none => none)
          | none => none)
        | none => none)
      else none

section
variable {Γ : Env} {CR : CRel} {call : CallF}

theorem rCall_sound (hc : ∀ f as m r m', call f as m = some (r, m') → CR f as m r m') {o : O} {s s1 : S} {pure : Bool} {f : FuncId} {as : List PV} (h : rCall Γ call o s pure f as = some s1) :
    WPass CR o s (· = s1) pure f (killOk (Γ.sig f).own o.ins o.kill) (pass (Γ.sig f).own as) := by
  unfold rCall at h
  split at h
  · rename_i hk
    rw [hk]
    split at h
    · cases h
    · rename_i bs hp
      rw [hp]
      simp only [WPass, WCall]
      split at h
      · rename_i hpure
        rw [if_pos hpure]
        split at h
        · rename_i hn
          split at h
          · rename_i p m' hcall
            split at h
            · rename_i hpn
              cases h
              exact ⟨hn, p, m', hc _ _ _ _ _ hcall, hpn, rfl⟩
            · cases h
          · cases h
        · cases h
      · rename_i hpure
        rw [if_neg hpure]
        split at h
        · rename_i p m' hcall
          cases h
          exact ⟨p, m', hc _ _ _ _ _ hcall, rfl⟩
        · cases h
  · cases h
theorem rA_sound (hc : ∀ f as m r m', call f as m = some (r, m') → CR f as m r m') {o : O} {s s1 : S} {l : List PV} : ∀ {k : Kind}, rA Γ call o s l k = some s1 → WA Γ CR o s (· = s1) l k := by
  intro k h
  cases k with
  | pure =>
    simp only [rA] at h
    simp only [WA]
    split at h
    · rename_i p hp; cases h; simp only [hp, WPp]
    · cases h
  | box d =>
    simp only [rA] at h
    simp only [WA]
    split at h
    · rename_i p c hp; cases h; simp only [hp, WBp]
    · cases h
  | mem =>
    simp only [rA] at h
    simp only [WA]
    split at h
    · rename_i p c hp; cases h; simp only [hp, WMp]
    · cases h
  | call pure =>
    simp only [rA] at h
    simp only [WA]
    split at h
    · rename_i f as ht
      simp only [ht, WT]
      exact rCall_sound hc h
    · cases h
theorem r1_sound (hc : ∀ f as m r m', call f as m = some (r, m') → CR f as m r m') {o : O} {s s1 : S} (h : r1 Γ call o s = some s1) : W1 Γ CR o s (· = s1) := by
  unfold r1 at h
  unfold W1
  split at h
  · rename_i hw
    rw [hw]
    split at h
    · rename_i l hl
      simp only [hl, WG, WV]
      exact rA_sound hc h
    · cases h
  · rename_i hw
    cases h
    rw [hw]
    rfl
  · cases h
theorem rO_sound (hc : ∀ f as m r m', call f as m = some (r, m') → CR f as m r m') : ∀ {l : List O} {s s1 : S}, rO Γ call l s = some s1 → EvO Γ CR l s.st s1.st
  | [], s, s1, h => by cases h; exact .nil
  | o :: l, s, s1, h => by
    simp only [rO] at h
    split at h
    · rename_i s2 h2
      obtain ⟨s3, h3, rfl⟩ := W1_sound (r1_sound hc h2)
      exact .cons h3 (rO_sound hc h)
    · cases h
theorem rLoop_sound {c : C} {f : S → Option (Ex × S)} (hf : ∀ s e s1, f s = some (e, s1) → EvC Γ CR c s.st e s1.st) : ∀ (n : Nat) {s : S} {e : Ex} {s1 : S}, rLoop f n s = some (e, s1) → EvC Γ CR (.loop c) s.st e s1.st
  | 0, s, e, s1, h => by cases h
  | n + 1, s, e, s1, h => by
    simp only [rLoop] at h
    split at h
    · rename_i s2 h2
      exact .loopN (hf _ _ _ h2) (rLoop_sound hf n h)
    · rename_i r hr
      refine .loopX (hf _ _ _ h) ?_
      rintro rfl
      exact hr _ h
theorem rC_sound (hc : ∀ f as m r m', call f as m = some (r, m') → CR f as m r m') {n : Nat} : ∀ {c : C} {s s1 : S} {e : Ex}, rC Γ call n c s = some (e, s1) → EvC Γ CR c s.st e s1.st
  | .skip, s, s1, e, h => by cases h; exact .skip
  | .reg b l, s, s1, e, h => by
    simp only [rC] at h
    split at h
    · rename_i s2 h2
      cases h
      exact fresh_evc (.reg (rO_sound hc h2))
    · cases h
  | .seq a b, s, s1, e, h => by
    simp only [rC] at h
    split at h
    · rename_i s2 h2
      exact .seqN (rC_sound hc h2) (rC_sound hc h)
    · rename_i r hr
      refine .seqX (rC_sound hc h) ?_
      rintro rfl
      exact hr _ h
  | .cond x a b, s, s1, e, h => by
    simp only [rC] at h
    split at h
    · rename_i hx
      rw [← valS_st] at hx
      exact .cond hx (rC_sound hc h)
    · rename_i hx
      rw [← valS_st] at hx
      exact .cond hx (rC_sound hc h)
    · cases h
  | .block id c, s, s1, e, h => by
    simp only [rC] at h
    split at h
    · rename_i e2 s2 h2
      cases h
      exact .block (rC_sound hc h2)
    · cases h
  | .loop c, s, s1, e, h => rLoop_sound (fun s e s1 h => rC_sound hc h) n h
  | .exit id, s, s1, e, h => by cases h; exact .exit
  | .ret, s, s1, e, h => by cases h; exact .ret
  | .dead, s, s1, e, h => by cases h
theorem rF_sound {Xt : XRel} : ∀ (n : Nat) (f : FuncId) (as : List PV) (m : Mem) (r : PV) (m' : Mem), rF Γ n f as m = some (r, m') → CallT Γ Xt f as m r m'
  | 0, _, _, _, _, _, h => by cases h
  | n + 1, f, as, m, r, m', h => by
    simp only [rF] at h
    split at h
    · cases h
    · rename_i fn hF
      split at h
      · rename_i hn
        split at h
        · cases h
        · rename_i e s hne hr
          have hev := rC_sound (CR := CallT Γ Xt) (fun f as m r m' h => rF_sound n f as m r m' h) hr
          split at h
          · rename_i raw hraw
            split at h
            · rename_i res hres
              cases h
              refine callT hF hn ⟨e, s, hev, ?_, rfl, raw, hraw, hres⟩
              cases e with
              | nor => exact .inl rfl
              | ret => exact .inr rfl
              | exit i => exact absurd rfl (hne i)
            · cases h
          · cases h
        · cases h
      · cases h
end
end Go.Pv
