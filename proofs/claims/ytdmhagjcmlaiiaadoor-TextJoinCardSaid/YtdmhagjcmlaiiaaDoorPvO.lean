/- Pv, part O: states as lists, and what a piece of code comes to, told forwards. -/
import Derived.Test.YtdmhagjcmlaiiaaDoorPvN
set_option linter.unusedVariables false
set_option linter.unusedSimpArgs false
namespace Go.Pv

/-! ## Calls of any depth -/
theorem step_mono {Γ : Env} {A B : CRel} (h : ∀ f as m r m', A f as m r m' → B f as m r m') {o : O} {st s1 : St} (hs : Step Γ A o st s1) : Step Γ B o st s1 := by
  cases hs with
  | skip a => exact .skip a
  | pure a b c d => exact .pure a b c d
  | box a b c d => exact .box a b c d
  | mem a b c d => exact .mem a b c d
  | callP a b c d e f g i j => exact .callP a b c d e f g (h _ _ _ _ _ i) j
  | callM a b c d e f g => exact .callM a b c d e f (h _ _ _ _ _ g)
theorem evo_mono {Γ : Env} {A B : CRel} (h : ∀ f as m r m', A f as m r m' → B f as m r m') {l : List O} {st s1 : St} (hs : EvO Γ A l st s1) : EvO Γ B l st s1 := by
  induction hs with
  | nil => exact .nil
  | cons a _ ih => exact .cons (step_mono h a) ih
theorem evc_mono {Γ : Env} {A B : CRel} (h : ∀ f as m r m', A f as m r m' → B f as m r m') {c : C} {st s1 : St} {e : Ex} (hs : EvC Γ A c st e s1) : EvC Γ B c st e s1 := by
  induction hs with
  | skip => exact .skip
  | reg a => exact .reg (evo_mono h a)
  | seqN _ _ i j => exact .seqN i j
  | seqX _ a i => exact .seqX i a
  | cond a _ i => exact .cond a i
  | block _ i => exact .block i
  | loopN _ _ i j => exact .loopN i j
  | loopX _ a i => exact .loopX i a
  | exit => exact .exit
  | ret => exact .ret
  | weak a _ i => exact .weak a i
  | post a _ i => exact .post a i
theorem callN_succ {Γ : Env} {Xt : XRel} : ∀ (n : Nat) (f : FuncId) (as : List PV) (m : Mem) (r : PV) (m' : Mem), CallN Γ Xt n f as m r m' → CallN Γ Xt (n + 1) f as m r m'
  | 0, _, _, _, _, _, h => .inl h
  | n + 1, _, _, _, _, _, h => by
    rcases h with h | ⟨fn, st', e, raw, h1, h2, h3, h4⟩
    · exact .inl h
    · exact .inr ⟨fn, st', e, raw, h1, h2, evc_mono (callN_succ n) h3, h4⟩
theorem callN_le {Γ : Env} {Xt : XRel} {n k : Nat} (h : n ≤ k) : ∀ (f : FuncId) (as : List PV) (m : Mem) (r : PV) (m' : Mem), CallN Γ Xt n f as m r m' → CallN Γ Xt k f as m r m' := by
  induction h with
  | refl => exact fun _ _ _ _ _ h => h
  | step _ ih => exact fun f as m r m' h => callN_succ _ f as m r m' (ih f as m r m' h)
def CallT (Γ : Env) (Xt : XRel) : CRel := fun f as m r m' => ∃ n, CallN Γ Xt n f as m r m'

theorem step_fin {Γ : Env} {Xt : XRel} {o : O} {st s1 : St} (hs : Step Γ (CallT Γ Xt) o st s1) : ∃ n, Step Γ (CallN Γ Xt n) o st s1 := by
  cases hs with
  | skip a => exact ⟨0, .skip a⟩
  | pure a b c d => exact ⟨0, .pure a b c d⟩
  | box a b c d => exact ⟨0, .box a b c d⟩
  | mem a b c d => exact ⟨0, .mem a b c d⟩
  | callP a b c d e f g i j =>
    obtain ⟨n, i⟩ := i
    exact ⟨n, .callP a b c d e f g i j⟩
  | callM a b c d e f g =>
    obtain ⟨n, g⟩ := g
    exact ⟨n, .callM a b c d e f g⟩
theorem evo_fin {Γ : Env} {Xt : XRel} {l : List O} {st s1 : St} (hs : EvO Γ (CallT Γ Xt) l st s1) : ∃ n, EvO Γ (CallN Γ Xt n) l st s1 := by
  induction hs with
  | nil => exact ⟨0, .nil⟩
  | cons a _ ih =>
    obtain ⟨n, a⟩ := step_fin a
    obtain ⟨k, ih⟩ := ih
    exact ⟨max n k, .cons (step_mono (callN_le (Nat.le_max_left n k)) a) (evo_mono (callN_le (Nat.le_max_right n k)) ih)⟩
theorem evc_fin {Γ : Env} {Xt : XRel} {c : C} {st s1 : St} {e : Ex} (hs : EvC Γ (CallT Γ Xt) c st e s1) : ∃ n, EvC Γ (CallN Γ Xt n) c st e s1 := by
  induction hs with
  | skip => exact ⟨0, .skip⟩
  | reg a => obtain ⟨n, a⟩ := evo_fin a; exact ⟨n, .reg a⟩
  | seqN _ _ i j =>
    obtain ⟨n, i⟩ := i
    obtain ⟨k, j⟩ := j
    exact ⟨max n k, .seqN (evc_mono (callN_le (Nat.le_max_left n k)) i) (evc_mono (callN_le (Nat.le_max_right n k)) j)⟩
  | seqX _ a i => obtain ⟨n, i⟩ := i; exact ⟨n, .seqX i a⟩
  | cond a _ i => obtain ⟨n, i⟩ := i; exact ⟨n, .cond a i⟩
  | block _ i => obtain ⟨n, i⟩ := i; exact ⟨n, .block i⟩
  | loopN _ _ i j =>
    obtain ⟨n, i⟩ := i
    obtain ⟨k, j⟩ := j
    exact ⟨max n k, .loopN (evc_mono (callN_le (Nat.le_max_left n k)) i) (evc_mono (callN_le (Nat.le_max_right n k)) j)⟩
  | loopX _ a i => obtain ⟨n, i⟩ := i; exact ⟨n, .loopX i a⟩
  | exit => exact ⟨0, .exit⟩
  | ret => exact ⟨0, .ret⟩
  | weak a _ i => obtain ⟨n, i⟩ := i; exact ⟨n, .weak a i⟩
  | post a _ i => obtain ⟨n, i⟩ := i; exact ⟨n, .post a i⟩

/-! ## States as lists -/
structure S where
  e : List (Nat × PV)
  b : List (Nat × List PV)
  m : Mem
def lk {α : Type} : List (Nat × α) → Nat → Option α
  | [], _ => none
  | (k, x) :: l, t => if k = t then some x else lk l t
def setL {α : Type} : List (Nat × α) → Nat → α → List (Nat × α)
  | [], t, x => [(t, x)]
  | (k, y) :: l, t, x => if k = t then (t, x) :: l else (k, y) :: setL l t x
def delL {α : Type} : List (Nat × α) → Nat → List (Nat × α)
  | [], _ => []
  | (k, y) :: l, t => if k = t then delL l t else (k, y) :: delL l t
def delLs {α : Type} : List (Nat × α) → List Nat → List (Nat × α)
  | l, [] => l
  | l, t :: ts => delLs (delL l t) ts
def S.st (s : S) : St := ⟨lk s.e, lk s.b, s.m⟩
def S.put (s : S) : Option Nat → PV → S
  | none, _ => s
  | some d, p => ⟨setL s.e d p, s.b, s.m⟩
def S.kill (s : S) (K : List Nat) : S := ⟨delLs s.e K, s.b, s.m⟩
def S.setB (s : S) (d : Nat) (c : List PV) : S := ⟨s.e, setL s.b d c, s.m⟩
def S.setM (s : S) (m : Mem) : S := ⟨s.e, s.b, m⟩
/-- A variable laid anew in a round: what stood there before is dropped. -/
def newsOf : List O → List Nat
  | [] => []
  | o :: l => match o.act with
    | .bnew d _ => d :: newsOf l
    | .bbox d => d :: newsOf l
    | _ => newsOf l
def lost (b : List (Nat × List PV)) : List (Nat × PV) → List Nat
  | [] => []
  | (t, p) :: l => match p with
    | .loc d _ => if (lk b d).isNone then t :: lost b l else lost b l
    | _ => lost b l
def S.fresh (s : S) (ds : List Nat) : S := if ds.any (fun d => (lk s.b d).isSome) = true then ⟨delLs s.e (lost (delLs s.b ds) s.e), delLs s.b ds, s.m⟩ else s

theorem lk_set {α : Type} (l : List (Nat × α)) (d : Nat) (x : α) (t : Nat) : lk (setL l d x) t = if t = d then some x else lk l t := by
  induction l with
  | nil => simp [setL, lk, eq_comm]
  | cons p l ih =>
    obtain ⟨k, y⟩ := p
    simp only [setL]
    split
    · rename_i h
      subst h
      simp only [lk]
      rcases Decidable.em (t = k) with h | h
      · subst h; simp
      · rw [if_neg (Ne.symm h), if_neg h, if_neg (Ne.symm h)]
    · rename_i h
      simp only [lk, ih]
      rcases Decidable.em (k = t) with h' | h'
      · subst h'; simp [h]
      · simp [h']
theorem lk_del {α : Type} (l : List (Nat × α)) (d t : Nat) : lk (delL l d) t = if t = d then none else lk l t := by
  induction l with
  | nil => simp [delL, lk]
  | cons p l ih =>
    obtain ⟨k, y⟩ := p
    simp only [delL]
    split
    · rename_i h
      subst h
      rw [ih]
      simp only [lk]
      rcases Decidable.em (t = k) with h | h
      · simp [h]
      · rw [if_neg h, if_neg h, if_neg (Ne.symm h)]
    · rename_i h
      simp only [lk, ih]
      rcases Decidable.em (k = t) with h' | h'
      · subst h'; simp [h]
      · simp [h']
theorem lk_dels {α : Type} : ∀ (K : List Nat) (l : List (Nat × α)) (t : Nat), lk (delLs l K) t = if t ∈ K then none else lk l t
  | [], l, t => by simp [delLs]
  | d :: K, l, t => by
    rw [delLs, lk_dels K, lk_del]
    by_cases h : t ∈ K
    · simp [h]
    · by_cases h' : t = d <;> simp [h, h']
theorem S.put_st (s : S) (d : Option Nat) (p : PV) : (s.put d p).st = s.st.put d p := by
  cases d with
  | none => rfl
  | some d => exact St.ext' (funext fun t => by simp [S.put, S.st, St.put, upd, lk_set]) rfl rfl
theorem S.kill_st (s : S) (K : List Nat) : (s.kill K).st = s.st.kill K := St.ext' (funext fun t => by simp [S.kill, S.st, St.kill, lk_dels]) rfl rfl
theorem S.setB_st (s : S) (d : Nat) (c : List PV) : (s.setB d c).st = s.st.setBox d c := St.ext' rfl (funext fun t => by simp [S.setB, S.st, St.setBox, upd, lk_set]) rfl
theorem S.setM_st (s : S) (m : Mem) : (s.setM m).st = s.st.setMem m := rfl

def valS (e : List (Nat × PV)) : X → Option PV
  | .t n => lk e n
  | .k p => some p
def valsS (e : List (Nat × PV)) : List X → Option (List PV)
  | [] => some []
  | x :: l => match valS e x with
    | some p => (match valsS e l with | some r => some (p :: r) | none => none)
    | none => none
def wantedS (e : List (Nat × PV)) : Option (Nat × Bool) → Option Bool
  | none => some true
  | some (g, b) => match lk e g with
    | some (.v (.bool c)) => some (c == b)
    | some _ => some false
    | none => none
theorem valS_st (s : S) (x : X) : val s.st.env x = valS s.e x := by cases x <;> rfl
theorem valsS_st (s : S) : ∀ l : List X, vals s.st.env l = valsS s.e l
  | [] => rfl
  | x :: l => by
    simp only [vals, valsS, valS_st, valsS_st s l]
    cases valS s.e x <;> simp
    cases valsS s.e l <;> simp
theorem wantedS_st (s : S) (g : Option (Nat × Bool)) : wanted s.st.env g = wantedS s.e g := by
  cases g with
  | none => rfl
  | some p => rfl

abbrev QS := S → Prop
abbrev QE := Ex → S → Prop
section
variable (Γ : Env) (CR : CRel)

/-- A call waits here: to be told what comes out. -/
def WCall (o : O) (s : S) (K : QS) (pure : Bool) (f : FuncId) (bs : List PV) : Prop :=
  if pure then PV.noPtrL bs = true ∧ ∃ p m', CR f bs [] p m' ∧ p.noPtr = true ∧ K ((s.kill o.kill).put o.dst p)
  else ∃ p m', CR f bs s.m p m' ∧ K (((s.kill o.kill).setM m').put o.dst p)
def WPass (o : O) (s : S) (K : QS) (pure : Bool) (f : FuncId) : Bool → Option (List PV) → Prop
  | true, some bs => WCall CR o s K pure f bs
  | true, none => False
  | false, _ => False
def WPp (o : O) (s : S) (K : QS) : Option PV → Prop
  | some p => K ((s.kill o.kill).put o.dst p)
  | none => False
def WBp (o : O) (s : S) (K : QS) (d : Nat) : Option (PV × List PV) → Prop
  | some (p, c) => K (((s.kill o.kill).setB d c).put o.dst p)
  | none => False
def WMp (o : O) (s : S) (K : QS) : Option (PV × Mem) → Prop
  | some (p, m) => K (((s.kill o.kill).setM m).put o.dst p)
  | none => False
def WT (o : O) (s : S) (K : QS) (pure : Bool) : Option (FuncId × List PV) → Prop
  | some (f, as) => WPass CR o s K pure f (killOk (Γ.sig f).own o.ins o.kill) (pass (Γ.sig f).own as)
  | none => False
def WA (o : O) (s : S) (K : QS) (l : List PV) : Kind → Prop
  | .pure => WPp o s K (evalP o.act l)
  | .box d => WBp o s K d (evalB o.act l (lk s.b d))
  | .mem => WMp o s K (evalM o.act l s.m)
  | .call pure => WT Γ CR o s K pure (target l)
def WV (o : O) (s : S) (K : QS) : Option (List PV) → Prop
  | some l => WA Γ CR o s K l o.act.kind
  | none => False
def WG (o : O) (s : S) (K : QS) : Option Bool → Prop
  | some true => WV Γ CR o s K (valsS s.e o.ins)
  | some false => K (s.put o.dst undefP)
  | none => False
def W1 (o : O) (s : S) (K : QS) : Prop := WG Γ CR o s K (wantedS s.e o.guard)
def WO : List O → QS → S → Prop
  | [], K, s => K s
  | o :: l, K, s => W1 Γ CR o s (WO l K)
def WL (c : C) (s : S) (Q : QE) : Prop := ∃ e s1, EvC Γ CR c s.st e s1.st ∧ Q e s1
def thenQ (K : QS) (Q : QE) : QE
  | .nor, s => K s
  | e, s => Q e s
def KBlk (id : Nat) (Q : QE) : QE := fun e s => Q (e.inBlock id) s
def WCd (A B : QS) (s : S) : Option PV → Prop
  | some (.v (.bool true)) => A s
  | some (.v (.bool false)) => B s
  | _ => False
def WF : C → QE → S → Prop
  | .skip, Q, s => Q .nor s
  | .reg _ l, Q, s => WO Γ CR l (Q .nor) (s.fresh (newsOf l))
  | .seq a b, Q, s => WF a (thenQ (WF b Q) Q) s
  | .cond x a b, Q, s => WCd (WF a Q) (WF b Q) s (valS s.e x)
  | .block id c, Q, s => WF c (KBlk id Q) s
  | .loop c, Q, s => WL Γ CR (.loop c) s Q
  | .exit id, Q, s => Q (.exit id) s
  | .ret, Q, s => Q .ret s
  | .dead, _, _ => False
end

section
variable {Γ : Env} {CR : CRel} {e : List (Nat × PV)} {b : List (Nat × List PV)} {m : Mem} {K : QS} {Q : QE}
theorem w_nil {s : S} : WO Γ CR [] K s = K s := of_eq_true (eq_self _)
theorem w_cons {o : O} {l : List O} : WO Γ CR (o :: l) K ⟨e, b, m⟩ = WG Γ CR o ⟨e, b, m⟩ (WO Γ CR l K) (wantedS e o.guard) := of_eq_true (eq_self _)
theorem w_skip : WF Γ CR .skip Q ⟨e, b, m⟩ = Q .nor ⟨e, b, m⟩ := of_eq_true (eq_self _)
theorem w_reg {d : Bool} {l : List O} : WF Γ CR (.reg d l) Q ⟨e, b, m⟩ = WO Γ CR l (Q .nor) (S.fresh ⟨e, b, m⟩ (newsOf l)) := of_eq_true (eq_self _)
theorem w_seq {x y : C} : WF Γ CR (.seq x y) Q ⟨e, b, m⟩ = WF Γ CR x (thenQ (WF Γ CR y Q) Q) ⟨e, b, m⟩ := of_eq_true (eq_self _)
theorem w_cond {x : X} {y z : C} : WF Γ CR (.cond x y z) Q ⟨e, b, m⟩ = WCd (WF Γ CR y Q) (WF Γ CR z Q) ⟨e, b, m⟩ (valS e x) := of_eq_true (eq_self _)
theorem w_block {id : Nat} {c : C} : WF Γ CR (.block id c) Q ⟨e, b, m⟩ = WF Γ CR c (KBlk id Q) ⟨e, b, m⟩ := of_eq_true (eq_self _)
theorem w_loop {c : C} : WF Γ CR (.loop c) Q ⟨e, b, m⟩ = WL Γ CR (.loop c) ⟨e, b, m⟩ Q := of_eq_true (eq_self _)
theorem w_exit {id : Nat} : WF Γ CR (.exit id) Q ⟨e, b, m⟩ = Q (.exit id) ⟨e, b, m⟩ := of_eq_true (eq_self _)
theorem w_ret : WF Γ CR .ret Q ⟨e, b, m⟩ = Q .ret ⟨e, b, m⟩ := of_eq_true (eq_self _)
theorem w_then {s : S} : thenQ K Q .nor s = K s := of_eq_true (eq_self _)
theorem w_thenX {s : S} {i : Nat} : thenQ K Q (.exit i) s = Q (.exit i) s := of_eq_true (eq_self _)
theorem w_thenR {s : S} : thenQ K Q .ret s = Q .ret s := of_eq_true (eq_self _)
theorem w_thenP : thenQ K Q .nor = K := of_eq_true (eq_self _)
theorem w_blk {s : S} {id : Nat} : KBlk id Q .nor s = Q .nor s := of_eq_true (eq_self _)
theorem w_blkP {id : Nat} : KBlk id Q .nor = Q .nor := of_eq_true (eq_self _)
theorem w_blkX {s : S} {id i : Nat} : KBlk id Q (.exit i) s = Q (if i = id then .nor else .exit i) s := of_eq_true (eq_self _)
theorem w_blkR {s : S} {id : Nat} : KBlk id Q .ret s = Q .ret s := of_eq_true (eq_self _)
theorem w_put0 {p : PV} : S.put ⟨e, b, m⟩ none p = ⟨e, b, m⟩ := of_eq_true (eq_self _)
theorem w_put {d : Nat} {p : PV} : S.put ⟨e, b, m⟩ (some d) p = ⟨setL e d p, b, m⟩ := of_eq_true (eq_self _)
theorem w_kill0 : S.kill ⟨e, b, m⟩ [] = ⟨e, b, m⟩ := of_eq_true (eq_self _)
theorem w_kill {t : Nat} {l : List Nat} : S.kill ⟨e, b, m⟩ (t :: l) = S.kill ⟨delL e t, b, m⟩ l := of_eq_true (eq_self _)
theorem w_setB {d : Nat} {c : List PV} : S.setB ⟨e, b, m⟩ d c = ⟨e, setL b d c, m⟩ := of_eq_true (eq_self _)
theorem w_setM {m' : Mem} : S.setM ⟨e, b, m⟩ m' = ⟨e, b, m'⟩ := of_eq_true (eq_self _)
theorem w_fresh0 {s : S} : S.fresh s [] = s := of_eq_true (eq_self _)
theorem g_t {o : O} {s : S} : WG Γ CR o s K (some true) = WV Γ CR o s K (valsS s.e o.ins) := of_eq_true (eq_self _)
theorem g_f {o : O} {s : S} : WG Γ CR o s K (some false) = K (s.put o.dst undefP) := of_eq_true (eq_self _)
theorem v_s {o : O} {s : S} {l : List PV} : WV Γ CR o s K (some l) = WA Γ CR o s K l o.act.kind := of_eq_true (eq_self _)
theorem a_p {o : O} {s : S} {l : List PV} : WA Γ CR o s K l .pure = WPp o s K (evalP o.act l) := of_eq_true (eq_self _)
theorem a_b {o : O} {s : S} {l : List PV} {d : Nat} : WA Γ CR o s K l (.box d) = WBp o s K d (evalB o.act l (lk s.b d)) := of_eq_true (eq_self _)
theorem a_m {o : O} {s : S} {l : List PV} : WA Γ CR o s K l .mem = WMp o s K (evalM o.act l s.m) := of_eq_true (eq_self _)
theorem a_c {o : O} {s : S} {l : List PV} {pr : Bool} : WA Γ CR o s K l (.call pr) = WT Γ CR o s K pr (target l) := of_eq_true (eq_self _)
theorem pp_s {o : O} {s : S} {p : PV} : WPp o s K (some p) = K ((s.kill o.kill).put o.dst p) := of_eq_true (eq_self _)
theorem bp_s {o : O} {s : S} {p : PV} {d : Nat} {c : List PV} : WBp o s K d (some (p, c)) = K (((s.kill o.kill).setB d c).put o.dst p) := of_eq_true (eq_self _)
theorem mp_s {o : O} {s : S} {p : PV} {c : Mem} : WMp o s K (some (p, c)) = K (((s.kill o.kill).setM c).put o.dst p) := of_eq_true (eq_self _)
theorem t_s {o : O} {s : S} {pr : Bool} {f : FuncId} {as : List PV} : WT Γ CR o s K pr (some (f, as)) = WPass CR o s K pr f (killOk (Γ.sig f).own o.ins o.kill) (pass (Γ.sig f).own as) := of_eq_true (eq_self _)
theorem ps_s {o : O} {s : S} {pr : Bool} {f : FuncId} {bs : List PV} : WPass CR o s K pr f true (some bs) = WCall CR o s K pr f bs := of_eq_true (eq_self _)
theorem cd_t {A B : QS} {s : S} : WCd A B s (some (.v (.bool true))) = A s := of_eq_true (eq_self _)
theorem cd_f {A B : QS} {s : S} : WCd A B s (some (.v (.bool false))) = B s := of_eq_true (eq_self _)
/-- A call's answer. -/
theorem wcall {o : O} {s : S} {f : FuncId} {bs : List PV} {p : PV} {m' : Mem} (h : CR f bs [] p m') (hn : PV.noPtrL bs = true) (hp : p.noPtr = true) (hK : K ((s.kill o.kill).put o.dst p)) : WCall CR o s K true f bs := by
  unfold WCall
  rw [if_pos rfl]
  exact ⟨hn, p, m', h, hp, hK⟩
theorem wcallM {o : O} {s : S} {f : FuncId} {bs : List PV} {p : PV} {m' : Mem} (h : CR f bs s.m p m') (hK : K (((s.kill o.kill).setM m').put o.dst p)) : WCall CR o s K false f bs := by
  unfold WCall
  rw [if_neg (by simp)]
  exact ⟨p, m', h, hK⟩
theorem w_fresh1 {d : Nat} {l : List Nat} (h : lk b d = none) : S.fresh ⟨e, b, m⟩ (d :: l) = S.fresh ⟨e, b, m⟩ l := by
  simp only [S.fresh, List.any_cons, h, Option.isSome_none, Bool.false_or]
  split
  · rename_i h1
    have hl : delL b d = b := by
      have : ∀ (l : List (Nat × List PV)), lk l d = none → delL l d = l := by
        intro l
        induction l with
        | nil => intro _; rfl
        | cons p l ih =>
          obtain ⟨k, y⟩ := p
          intro h
          simp only [lk] at h
          split at h
          · cases h
          · rename_i hk
            simp only [delL, if_neg hk, ih h]
      exact this b h
    simp only [delLs, hl]
  · rfl
end

section
variable {Γ : Env} {CR : CRel}
theorem W1_sound {o : O} {s : S} {K : QS} (h : W1 Γ CR o s K) : ∃ s1 : S, Step Γ CR o s.st s1.st ∧ K s1 := by
  unfold W1 at h
  generalize hw : wantedS s.e o.guard = gw at h
  rw [← wantedS_st] at hw
  match gw, h with
  | some false, h => exact ⟨_, by rw [S.put_st]; exact .skip hw, h⟩
  | some true, h =>
    simp only [WG] at h
    generalize hl : valsS s.e o.ins = gl at h
    rw [← valsS_st] at hl
    match gl, h with
    | some l, h =>
      simp only [WV] at h
      generalize hk : o.act.kind = gk at h
      match gk, h with
      | .pure, h =>
        simp only [WA] at h
        generalize hp : evalP o.act l = gp at h
        match gp, h with
        | some p, h => exact ⟨_, by rw [S.put_st, S.kill_st]; exact .pure hw hk hl hp, h⟩
      | .box d, h =>
        simp only [WA] at h
        generalize hp : evalB o.act l (lk s.b d) = gp at h
        match gp, h with
        | some (p, c), h => exact ⟨_, by rw [S.put_st, S.setB_st, S.kill_st]; exact .box hw hk hl hp, h⟩
      | .mem, h =>
        simp only [WA] at h
        generalize hp : evalM o.act l s.m = gp at h
        match gp, h with
        | some (p, c), h => exact ⟨_, by rw [S.put_st, S.setM_st, S.kill_st]; exact .mem hw hk hl hp, h⟩
      | .call pure, h =>
        have hact : o.act = .call pure := by
          cases ha : o.act <;> rw [ha] at hk <;> simp [Act.kind] at hk
          rw [hk]
        simp only [WA] at h
        generalize ht : target l = gt at h
        match gt, h with
        | some (f, as), h =>
          simp only [WT] at h
          generalize hkl : killOk (Γ.sig f).own o.ins o.kill = gk at h
          generalize hp : pass (Γ.sig f).own as = gp at h
          match gk, gp, h with
          | true, some bs, h =>
            simp only [WPass, WCall] at h
            split at h
            · rename_i hpure
              rw [hpure] at hact
              obtain ⟨hn, p, m', hc, hpn, hQ⟩ := h
              exact ⟨_, by rw [S.put_st, S.kill_st]; exact .callP hw hact hl ht hkl hp hn hc hpn, hQ⟩
            · rename_i hpure
              rw [show pure = false by simpa using hpure] at hact
              obtain ⟨p, m', hc, hQ⟩ := h
              exact ⟨_, by rw [S.put_st, S.setM_st, S.kill_st]; exact .callM hw hact hl ht hkl hp hc, hQ⟩
theorem WO_sound : ∀ {l : List O} {s : S} {K : QS}, WO Γ CR l K s → ∃ s1 : S, EvO Γ CR l s.st s1.st ∧ K s1
  | [], s, K, h => ⟨s, .nil, h⟩
  | o :: l, s, K, h => by
    obtain ⟨s1, h1, h2⟩ := W1_sound h
    obtain ⟨s2, h3, h4⟩ := WO_sound h2
    exact ⟨s2, .cons h1 h3, h4⟩
theorem lk_mem {α : Type} : ∀ {l : List (Nat × α)} {t : Nat} {p : α}, lk l t = some p → (t, p) ∈ l
  | [], t, p, h => by simp [lk] at h
  | (k, y) :: l, t, p, h => by
    simp only [lk] at h
    split at h
    · rename_i hk
      cases h
      subst hk
      simp
    · exact List.mem_cons_of_mem _ (lk_mem h)
theorem lost_mem {b : List (Nat × List PV)} : ∀ {e : List (Nat × PV)} {t d o : Nat}, (t, PV.loc d o) ∈ e → lk b d = none → t ∈ lost b e
  | [], t, d, o, h, _ => by simp at h
  | (k, p) :: l, t, d, o, h, hb => by
    rcases List.mem_cons.1 h with h | h
    · cases h
      simp [lost, hb]
    · have := lost_mem h hb
      unfold lost
      split
      · split
        · exact List.mem_cons_of_mem _ this
        · exact this
      · exact this
theorem wkL_refl : ∀ l : List PV, WkL l l
  | [] => .nil
  | _ :: l => .cons (.refl _) (wkL_refl l)
theorem fresh_evc {c : C} {s : S} {ds : List Nat} {e : Ex} {s1 : St} (h : EvC Γ CR c (s.fresh ds).st e s1) : EvC Γ CR c s.st e s1 := by
  unfold S.fresh at h
  split at h
  · refine EvC.weak (s0 := S.st ⟨delLs s.e (lost (delLs s.b ds) s.e), delLs s.b ds, s.m⟩) ⟨fun t p ht => ⟨p, ?_, .one (.refl p)⟩, fun d c0 hc => ⟨c0, ?_, wkL_refl _⟩, ⟨rfl, fun i c0 hc => ⟨c0, hc, wkL_refl _⟩⟩, fun t d o ht => ?_⟩ h
    · simp only [S.st, lk_dels] at ht ⊢
      split at ht
      · cases ht
      · exact ht
    · simp only [S.st, lk_dels] at hc ⊢
      split at hc
      · cases hc
      · exact hc
    · simp only [S.st] at ht ⊢
      rw [lk_dels] at ht
      split at ht
      · cases ht
      · rename_i hn
        cases hb : lk (delLs s.b ds) d with
        | some c0 => exact ⟨c0, rfl⟩
        | none => exact absurd (lost_mem (lk_mem ht) hb) hn
  · exact h
theorem WF_sound : ∀ {c : C} {s : S} {Q : QE}, WF Γ CR c Q s → WL Γ CR c s Q
  | .skip, s, Q, h => ⟨_, _, .skip, h⟩
  | .reg _ l, s, Q, h => by
    obtain ⟨s1, h1, h2⟩ := WO_sound h
    exact ⟨_, _, fresh_evc (.reg h1), h2⟩
  | .seq a b, s, Q, h => by
    obtain ⟨e, s1, h1, h2⟩ := WF_sound (c := a) h
    cases e with
    | nor =>
      obtain ⟨e2, s2, h3, h4⟩ := WF_sound (c := b) h2
      exact ⟨_, _, .seqN h1 h3, h4⟩
    | exit i => exact ⟨_, _, .seqX h1 (by simp), h2⟩
    | ret => exact ⟨_, _, .seqX h1 (by simp), h2⟩
  | .cond x a b, s, Q, h => by
    simp only [WF] at h
    generalize hx : valS s.e x = gx at h
    rw [← valS_st] at hx
    unfold WCd at h
    split at h
    · obtain ⟨e, s1, h1, h2⟩ := WF_sound (c := a) h
      exact ⟨_, _, .cond hx h1, h2⟩
    · obtain ⟨e, s1, h1, h2⟩ := WF_sound (c := b) h
      exact ⟨_, _, .cond hx h1, h2⟩
    · exact h.elim
  | .block id c, s, Q, h => by
    obtain ⟨e, s1, h1, h2⟩ := WF_sound (c := c) h
    exact ⟨_, _, .block h1, h2⟩
  | .loop c, s, Q, h => h
  | .exit id, s, Q, h => ⟨_, _, .exit, h⟩
  | .ret, s, Q, h => ⟨_, _, .ret, h⟩
  | .dead, s, Q, h => h.elim

theorem WL_mono {c : C} {s : S} {Q Q' : Ex → S → Prop} (h : WL Γ CR c s Q) (hq : ∀ e s1, Q e s1 → Q' e s1) : WL Γ CR c s Q' := by
  obtain ⟨e, s1, h1, h2⟩ := h
  exact ⟨e, s1, h1, hq _ _ h2⟩

/-- A smaller state: some slots, some variables, each written anew at most as weak as it was. -/
def wkB : PV → PV → Bool
  | .sl .ro none _, .sl _ _ _ => true
  | _, _ => false
theorem WL_weak {c : C} {s0 s : S} {Q : Ex → S → Prop} (hle : Le s0.st s.st) (h : WL Γ CR c s0 Q) : WL Γ CR c s Q := by
  obtain ⟨e, s1, h1, h2⟩ := h
  exact ⟨e, s1, .weak hle h1, h2⟩
/-- Slots alone are dropped. -/
theorem le_only {e0 e : List (Nat × PV)} {b : List (Nat × List PV)} {m : Mem} (h : ∀ p, p ∈ e0 → lk e p.1 = some p.2) (hl : ∀ t d o, (t, PV.loc d o) ∈ e0 → (lk b d).isSome = true) : Le (S.st ⟨e0, b, m⟩) (S.st ⟨e, b, m⟩) := by
  have hm : ∀ (l : List (Nat × PV)) t p, lk l t = some p → (t, p) ∈ l := by
    intro l t p h
    induction l with
    | nil => simp [lk] at h
    | cons q l ih =>
      obtain ⟨k, y⟩ := q
      simp only [lk] at h
      split at h
      · rename_i hk
        cases h
        subst hk
        simp
      · exact List.mem_cons_of_mem _ (ih h)
  refine ⟨fun t p ht => ⟨p, h _ (hm _ _ _ ht), .one (.refl p)⟩, fun d c hc => ⟨c, hc, wkL_refl c⟩, ⟨rfl, fun i c hc => ⟨c, hc, wkL_refl c⟩⟩, fun t d o ht => Option.isSome_iff_exists.1 (hl t d o (hm _ _ _ ht))⟩

theorem WL_post {c : C} {s : S} {Q Q' : Ex → S → Prop} (h : WL Γ CR c s Q') (hq : ∀ e s2, Q' e s2 → ∃ s1 : S, Le s1.st s2.st ∧ Q e s1) : WL Γ CR c s Q := by
  obtain ⟨e, s2, h1, h2⟩ := h
  obtain ⟨s1, h3, h4⟩ := hq e s2 h2
  exact ⟨e, s1, .post h3 h1, h4⟩
theorem WL_fit {c : C} {s : S} {Q : QE} (h : WL Γ CR c s fun e s2 => ∃ s1 : S, Le s1.st s2.st ∧ Q e s1) : WL Γ CR c s Q := WL_post h fun _ _ h => h
theorem WL_seq {a b : C} {s : S} {Q : Ex → S → Prop} (h : WL Γ CR a s (thenQ (fun s1 => WL Γ CR b s1 Q) Q)) : WL Γ CR (.seq a b) s Q := by
  obtain ⟨e, s1, h1, h2⟩ := h
  cases e with
  | nor =>
    obtain ⟨e2, s2, h3, h4⟩ := h2
    exact ⟨_, _, .seqN h1 h3, h4⟩
  | exit i => exact ⟨_, _, .seqX h1 (by simp), h2⟩
  | ret => exact ⟨_, _, .seqX h1 (by simp), h2⟩
theorem WL_block {id : Nat} {c : C} {s : S} {Q : Ex → S → Prop} (h : WL Γ CR c s fun e s1 => Q (e.inBlock id) s1) : WL Γ CR (.block id c) s Q := by
  obtain ⟨e, s1, h1, h2⟩ := h
  exact ⟨_, _, .block h1, h2⟩
theorem WL_cond {x : X} {a b : C} {s : S} {Q : Ex → S → Prop} {t : Bool} (hx : valS s.e x = some (.v (.bool t))) (h : WL Γ CR (if t then a else b) s Q) : WL Γ CR (.cond x a b) s Q := by
  obtain ⟨e, s1, h1, h2⟩ := h
  exact ⟨_, _, .cond (by rw [valS_st]; exact hx) h1, h2⟩
theorem WL_round {c : C} {s : S} {Q : Ex → S → Prop} (h : WL Γ CR c s (thenQ (fun s1 => WL Γ CR (.loop c) s1 Q) Q)) : WL Γ CR (.loop c) s Q := by
  obtain ⟨e, s1, h1, h2⟩ := h
  cases e with
  | nor =>
    obtain ⟨e2, s2, h3, h4⟩ := h2
    exact ⟨_, _, .loopN h1 h3, h4⟩
  | exit i => exact ⟨_, _, .loopX h1 (by simp), h2⟩
  | ret => exact ⟨_, _, .loopX h1 (by simp), h2⟩

def argsL : Nat → List PV → List (Nat × PV)
  | _, [] => []
  | i, p :: l => (i, p) :: argsL (i + 1) l
theorem lk_args : ∀ (l : List PV) (i t : Nat), i ≤ t → lk (argsL i l) t = l[t - i]?
  | [], i, t, _ => by simp [argsL, lk]
  | p :: l, i, t, h => by
    simp only [argsL, lk]
    split
    · rename_i e; subst e; simp
    · rename_i e
      rw [lk_args l (i + 1) t (by omega), show t - i = t - (i + 1) + 1 by omega]
      simp
/-- What the caller gets. -/
def Done (Γ : Env) (f : FuncId) (fn : Fn) (res : PV) (m' : Mem) (e : Ex) (s : S) : Prop :=
  (e = .nor ∨ e = .ret) ∧ s.m = m' ∧ ∃ raw, readRes s.st fn.res = some raw ∧ passRes (Γ.sig f).keep raw = some res
theorem callB {Xt : XRel} {f : FuncId} {fn : Fn} {bd : C} {as : List PV} {m m' : Mem} {res : PV} (hF : Γ.F f = some fn) (hb : fn.body = bd) (hn : as.length = fn.n)
    (h : WF Γ (CallT Γ Xt) bd (Done Γ f fn res m') ⟨argsL 0 as, [], m⟩) : CallT Γ Xt f as m res m' := by
  subst hb
  obtain ⟨e, s1, h1, h2, rfl, raw, h3, h4⟩ := WF_sound h
  have hst : S.st ⟨argsL 0 as, [], m⟩ = St.init as m := St.ext' (funext fun t => by simp [S.st, St.init, lk_args]) (funext fun t => by simp [S.st, St.init, lk]) rfl
  rw [hst] at h1
  obtain ⟨n, h1⟩ := evc_fin h1
  exact ⟨n + 1, .inr ⟨fn, s1.st, e, raw, hF, hn, h1, h2, h3, h4, rfl⟩⟩
theorem callT {Xt : XRel} {f : FuncId} {fn : Fn} {as : List PV} {m m' : Mem} {res : PV} (hF : Γ.F f = some fn) (hn : as.length = fn.n) (h : WL Γ (CallT Γ Xt) fn.body ⟨argsL 0 as, [], m⟩ (Done Γ f fn res m')) : CallT Γ Xt f as m res m' := by
  obtain ⟨e, s1, h1, h2, rfl, raw, h3, h4⟩ := h
  have hst : S.st ⟨argsL 0 as, [], m⟩ = St.init as m := St.ext' (funext fun t => by simp [S.st, St.init, lk_args]) (funext fun t => by simp [S.st, St.init, lk]) rfl
  rw [hst] at h1
  obtain ⟨n, h1⟩ := evc_fin h1
  exact ⟨n + 1, .inr ⟨fn, s1.st, e, raw, hF, hn, h1, h2, h3, h4, rfl⟩⟩
end
end Go.Pv
