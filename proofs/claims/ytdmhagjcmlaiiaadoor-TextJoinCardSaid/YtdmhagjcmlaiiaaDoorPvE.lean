/- Pv, part E: the pure operations, one by one. -/
import Derived.Test.YtdmhagjcmlaiiaaDoorPvD
set_option linter.unusedVariables false
set_option linter.unusedSimpArgs false
namespace Go.Pv
section
variable {P : Program} {o : Oper} {a : Go.Act} {w : World} {g : G} {st : St} {K : List Nat}

theorem do_mv {x : Operand} (ho : o.op = .move x ∨ o.op = .assign x) {x' : X} {p q : PV} (h : Rx g w x' p (a.eval x)) (he : pMv p = some q) : Does P o a w g st K q := by
  unfold pMv at he
  split at he
  · cases he
  · rename_i hl
    cases he
    exact .same (v := a.eval x) (by rcases ho with ho | ho <;> simp [execOp, ho]) (h.rr (by simpa using hl)).ro fun _ => ro_ownP

theorem do_mvx {x : Operand} (ho : o.op = .move x ∨ o.op = .assign x) {x' : X} {p q : PV} (h : Rx g w x' p (a.eval x)) (hk : ∀ s, x' = .t s → s ∈ K) (he : pMvx p = some q) : Does P o a w g st K q := by
  unfold pMvx at he
  split at he
  · cases he
  · rename_i hl
    have hl' : p.isLoc = false := by simpa using hl
    cases he
    have hr := h.rr hl'
    have hrun : (execOp a.eval o).run P w = .ok (.value (a.eval x)) w := by rcases ho with ho | ho <;> simp [execOp, ho]
    cases x' with
    | k q => exact .same hrun hr fun _ => ownP_of h.2.1 h.2.2.2
    | t s =>
      have hown := h.own hl' (s := s) (by simp)
      cases hd : o.dst with
      | none => exact ⟨_, w, g, hrun, .refl _ _ _, fun d h => by simp [hd] at h, fun d' o' hp => by subst hp; simp [PV.isLoc] at hl'⟩
      | some d =>
        refine ⟨_, w, g.re (moveS s d), hrun, keep_moveS (hk s rfl), fun d' hd' => ?_, fun d' o' hp => by subst hp; simp [PV.isLoc] at hl'⟩
        rw [hd] at hd'
        cases hd'
        exact .inr ⟨hr.re, hown.1.re (by simp [moveS]), fun cs vs h1 h2 j y z hy hz => (hown.2 cs vs h1 h2 j y z hy hz).re (by simp [moveS])⟩

theorem do_pick {c x y : Operand} (ho : o.op = .pick c x y) {c' x' y' : X} {pc px py q : PV} (hc : Rx g w c' pc (a.eval c)) (hx : Rx g w x' px (a.eval x)) (hy : Rx g w y' py (a.eval y)) (he : pPick pc px py = some q) : Does P o a w g st K q := by
  unfold pPick at he
  split at he
  · rename_i b
    have := (hc.rr rfl).inv_v
    cases b with
    | true =>
      simp only [if_true, Option.ite_none_left_eq_some, Option.some.injEq] at he
      obtain ⟨hl, rfl⟩ := he
      exact .same (v := a.eval x) (by simp [execOp, ho, this, asBool]) (hx.rr (by simpa using hl)).ro fun _ => ro_ownP
    | false =>
      simp only [Bool.false_eq_true, if_false, Option.ite_none_left_eq_some, Option.some.injEq] at he
      obtain ⟨hl, rfl⟩ := he
      exact .same (v := a.eval y) (by simp [execOp, ho, this, asBool]) (hy.rr (by simpa using hl)).ro fun _ => ro_ownP
  · cases he

theorem run_fieldPlace {s f : Nat} {fs : Array Field} {fd : Field} {i : TypeInfo} (hs : P.underlying s = some (.struct fs)) (hf : fs[f]? = some fd) (hi : P.info? fd.type = some i) (hz : i.size ≠ 0) (b off : Nat) (w : World) :
    (Instr.fieldAt s (.pointer (some ⟨b, off, none⟩)) f).run P w = .ok (.pointer (some ⟨b, off + fd.offset, none⟩)) w := by
  simp [Instr.fieldAt, Go.underlying, hs, hf, Instr.sureAddr, fieldPlace, Go.sizeOf, typeInfo, hi, hz, add_plain]

theorem do_fa {s f : Nat} {x : Operand} (ho : o.op = .fieldAddr s x f) {fs : Array Field} {fd : Field} {i : TypeInfo} (hs : P.underlying s = some (.struct fs)) (hf : fs[f]? = some fd) (hi : P.info? fd.type = some i) (hz : i.size ≠ 0)
    {x' : X} {p q : PV} (h : Rx g w x' p (a.eval x)) (he : pFa fd.offset p = some q) (hst : ∀ d o', p = .loc d o' → ∃ c, st.box d = some c) : Does P o a w g st K q := by
  unfold pFa at he
  split at he <;> cases he
  · rename_i d off
    have hv := h.loc
    refine ⟨_, w, g, by simp [execOp, ho, hv, run_fieldPlace hs hf hi hz], .refl _ _ _, fun d' _ => .inl ⟨d, off + fd.offset, rfl, rfl⟩, fun d' o' hp => ?_⟩
    cases hp
    exact hst d off rfl
  · rename_i i' off
    obtain ⟨h1, hv⟩ := (h.rr rfl).inv_ptr
    exact .same (by simp [execOp, ho, hv, run_fieldPlace hs hf hi hz]) (.ptr h1) fun _ => ownP_of (by simp) (by simp)
  · rename_i cs off
    obtain ⟨b, o', hv, h1, h2⟩ := (h.rr rfl).inv_el
    exact .same (v := .pointer (some ⟨b, o' + (off + fd.offset), none⟩)) (by simp [execOp, ho, hv, run_fieldPlace hs hf hi hz, Nat.add_assoc]) (.mk_el h1 h2) fun _ => ownP_of (by simp) (by simp)

theorem do_ia {t e el : Nat} {x i : Operand} (ho : o.op = .indexAddr t x i) (hu : P.underlying t = some (.slice el)) (hz : sizeIs P el e = true) {x' i' : X} {px pi q : PV} (hx : Rx g w x' px (a.eval x)) (hi : Rx g w i' pi (a.eval i))
    (he : pIa e px pi = some q) : Does P o a w g st K q := by
  obtain ⟨_, hsz⟩ := sizeIs_spec hz
  unfold pIa at he
  split at he
  · rename_i m nl xs k n
    split at he
    · rename_i h0
      split at he
      · rename_i y hy
        split at he
        · rename_i hc
          cases he
          obtain ⟨A, cap, hv, h1, h2, h3, h4, h5, h6⟩ := (hx.rr rfl).inv_sl
          have hiv := (hi.rr rfl).inv_v
          have hlt := lt_of_get hy
          obtain ⟨b, o', sz, rfl, hat⟩ := h6 (by intro h; subst h; simp at hy)
          have hsz' : sz = e := by rw [← (hat.size _ _ hy).1, hc]
          subst hsz'
          have hrun : (execOp a.eval o).run P w = .ok (.value (.pointer (some ⟨b, o' + n.toNat * sz, none⟩))) w := by
            have hlt' : n < (xs.length : Int) := by omega
            simp [execOp, ho, hv, hiv, Instr.indexAt, asIntOf, Go.underlying, hu, h0, hlt', hsz, add_plain]
          refine .same hrun ?_ fun _ => ownP_of (by simp) (by simp)
          refine .mk_el (off := 0) (b := b) (o := o' + n.toNat * sz) ?_ fun j c hj => hat.cell n.toNat j y c hy hj
          have hm : (n.toNat + 1) * sz ≤ xs.length * sz := Nat.mul_le_mul_right _ hlt
          have := hat.fill
          rw [Nat.add_mul] at hm
          rw [hc]
          omega
        · cases he
      · cases he
    · cases he
  · rename_i id off n k i0
    split at he
    · rename_i h0
      cases he
      obtain ⟨hid, cap, hv⟩ := (hx.rr rfl).inv_os
      have hiv := (hi.rr rfl).inv_v
      have hlt' : i0 < (n : Int) := by omega
      have hrun : (execOp a.eval o).run P w = .ok (.value (.pointer (some ⟨g.mu id, off + i0.toNat * e, none⟩))) w := by
        simp [execOp, ho, hv, hiv, Instr.indexAt, asIntOf, Go.underlying, hu, h0.1, hlt', hsz, add_plain]
      exact .same hrun (.ptr hid) fun _ => ownP_of (by simp) (by simp)
    · cases he
  · cases he

theorem do_ldel {t n : Nat} {agg : Bool} {x : Operand} (ho : o.op = .load t x) (hv : varIs P t n agg = true) {x' : X} {p q : PV} (h : Rx g w x' p (a.eval x)) (he : pLdel n agg p = some q) : Does P o a w g st K q := by
  unfold pLdel at he
  split at he
  · rename_i cs off
    split at he
    · rename_i hle
      obtain ⟨b, o', hx, h1, h2⟩ := (h.rr rfl).inv_el
      have hlen : ((cs.drop off).take n).length = n := by simp; omega
      obtain ⟨us, hl, hlies, hr⟩ := lies_of (w := w) (b := b) (o := o' + off) (R := Rr g w) hlen (fun j c hj => by
        have hj' : j < n := by have := lt_of_get hj; omega
        rw [List.getElem?_take_of_lt hj', List.getElem?_drop] at hj
        have := h2 (off + j) c hj
        rwa [show o' + (off + j) = o' + off + j by omega] at this)
      have hrun := run_loadVar (P := P) hv hl hlies
      obtain ⟨q', hq', rfl⟩ := Option.map_eq_some_iff.1 he
      have hq : Rr g w q' (wholeV agg us) := one_rr (by omega) hq' hr
      exact .same (by simp [execOp, ho, hx, Instr.loadAt, Instr.sureAddr, hrun]) hq.ro fun _ => ro_ownP
    · cases he
  · cases he

theorem do_ix {t : TypeId} {x i : Operand} (ho : o.op = .index t x i) (hu : P.underlying t = some .string) {x' i' : X} {px pi q : PV} (hx : Rx g w x' px (a.eval x)) (hi : Rx g w i' pi (a.eval i)) (he : pIx px pi = some q) : Does P o a w g st K q := by
  unfold pIx at he
  split at he
  · rename_i s k n
    split at he
    · rename_i h
      cases he
      have h1 := (hx.rr rfl).inv_v
      have h2 := (hi.rr rfl).inv_v
      have hs : s[n.toNat]? = some (s[n.toNat]'h.2) := getElem?_pos ..
      exact .val (by simp [execOp, ho, h1, h2, Instr.index, asIntOf, Go.underlying, hu, h.1, hs])
    · cases he
  · cases he

theorem pureOf_run {s : Sem Value} {v : Value} (h : pureOf s = some v) : s.run P w = .ok v w := by
  cases s <;> simp [pureOf] at h
  subst h
  rfl
theorem intV_run {op : BinOp} {t : TypeId} {k k' : IntKind} {a b : Int} {r : Value} (h : intV op k a k' b = some r) : (binOp op t (.int k a) (.int k' b)).run P w = .ok r w := by
  cases op <;> simp only [intV] at h
  case shl => simpa [binOp] using pureOf_run h
  case shr => simpa [binOp] using pureOf_run h
  all_goals
    split at h
    · rename_i hk
      subst hk
      first
        | simpa [binOp] using pureOf_run (P := P) (w := w) h
        | (simp at h; subst h; simp [binOp, Op.intCmp])
    · cases h
theorem binV_run {op : BinOp} {t : TypeId} {x y : Operand} {u v r : Value} (h : binV op u v = some r) : (do eqGuard op t x y u v; binOp op t u v).run P w = .ok r w := by
  unfold binV at h
  split at h
  · have hg : ∀ k a k' b, (eqGuard op t x y (.int k a) (.int k' b)).run P w = .ok () w := fun _ _ _ _ => by cases op <;> simp [eqGuard]
    simp only [Sem.run_bind, hg, Result.andThen_ok, intV_run h]
  · have hg : ∀ a b, (eqGuard op t x y (.string a) (.string b)).run P w = .ok () w := fun _ _ => by cases op <;> simp [eqGuard]
    have hb : ∀ a b, binOp op t (.string a) (.string b) = Op.stringOp op a b := fun _ _ => by cases op <;> rfl
    simp only [Sem.run_bind, hg, Result.andThen_ok, hb, pureOf_run h]
  · cases h

theorem do_bin {op : BinOp} {t t' : TypeId} {x y : Operand} (ho : o.op = .binOp op t x y t') {x' y' : X} {px py q : PV} (hx : Rx g w x' px (a.eval x)) (hy : Rx g w y' py (a.eval y)) (he : pBin op px py = some q) : Does P o a w g st K q := by
  unfold pBin at he
  split at he
  · rename_i u v
    obtain ⟨r, hr, rfl⟩ := Option.map_eq_some_iff.1 he
    have h1 := (hx.rr rfl).inv_v
    have h2 := (hy.rr rfl).inv_v
    have := binV_run (P := P) (w := w) (t := t) (x := x) (y := y) hr
    refine .val ?_
    simp only [execOp, ho, h1, h2, Sem.run_bind] at this ⊢
    simp only [this, Result.andThen_ok, Sem.run_pure]
  · cases he

theorem do_eqb {neg : Bool} {op : BinOp} {t t' : TypeId} {x y : Operand} (ho : o.op = .binOp op t x y t') (hop : op = if neg then .neq else .eql) (hu : P.underlying t = some .bool) {x' y' : X} {px py q : PV} (hx : Rx g w x' px (a.eval x)) (hy : Rx g w y' py (a.eval y))
    (he : pEqb neg px py = some q) : Does P o a w g st K q := by
  unfold pEqb at he
  split at he
  · rename_i b c
    cases he
    have h1 := (hx.rr rfl).inv_v
    have h2 := (hy.rr rfl).inv_v
    refine .val ?_
    cases neg <;> simp at hop <;> subst hop <;> simp [execOp, ho, h1, h2, eqGuard, run_eql_bool, run_neq_bool, hu]
  · cases he

theorem do_isnil {neg : Bool} {op : BinOp} {t t' e : TypeId} {x y : Operand} (ho : o.op = .binOp op t x y t') (hop : op = if neg then .neq else .eql) (hu : P.underlying t = some (.slice e)) {x' y' : X} {px py q : PV} (hx : Rx g w x' px (a.eval x)) (hy : Rx g w y' py (a.eval y))
    (he : pIsnil neg px py = some q) : Does P o a w g st K q := by
  unfold pIsnil at he
  split at he
  · rename_i m nl xs
    obtain ⟨A, cap, hv, h1, h2, h3, h4, h5, h6⟩ := (hx.rr rfl).inv_sl
    obtain ⟨B, cap', hv', k1, k2, k3, k4, k5, k6⟩ := (hy.rr rfl).inv_sl
    have hB : B = none := by have := k2 true rfl; simpa using this
    subst hB
    have hc := k3 rfl
    subst hc
    have hn : ∃ b, A.isNone = b ∧ q = .v (.bool (if neg then !b else b)) := by
      split at he
      · rename_i b
        cases he
        exact ⟨b, h2 b rfl, rfl⟩
      · split at he
        · cases he
        · rename_i hx
          cases he
          refine ⟨false, ?_, by cases neg <;> rfl⟩
          obtain ⟨b, o', sz, rfl, _⟩ := h6 (by simpa using hx)
          rfl
    obtain ⟨b, hb, rfl⟩ := hn
    refine .val ?_
    have hlen : ([] : List PV).length = 0 := rfl
    simp only [hlen] at hv'
    have hg : ∀ op, (eqGuard op t x y (.slice A xs.length cap) (.slice none 0 0)).run P w = .ok () w := fun op => by cases op <;> simp [eqGuard]
    have heq : (Op.equal t (.slice A xs.length cap) (.slice none 0 0)).run P w = .ok A.isNone w := run_equal_slice_nil (P := P) w t e A xs.length cap hu
    have hbin : (do eqGuard op t x y (.slice A xs.length cap) (.slice none 0 0); binOp op t (.slice A xs.length cap) (.slice none 0 0)).run P w = .ok (.bool (if neg then !b else b)) w := by
      subst hb
      cases neg <;> simp at hop <;> subst hop
      · have : binOp .eql t (.slice A xs.length cap) (.slice none 0 0) = (do pure (.bool (← Op.equal t (.slice A xs.length cap) (.slice none 0 0)))) := rfl
        simp only [Sem.run_bind, hg, Result.andThen_ok, this, heq, Sem.run_pure]
        rfl
      · have : binOp .neq t (.slice A xs.length cap) (.slice none 0 0) = (do pure (.bool (!(← Op.equal t (.slice A xs.length cap) (.slice none 0 0))))) := rfl
        simp only [Sem.run_bind, hg, Result.andThen_ok, this, heq, Sem.run_pure]
        rfl
    simp only [execOp, ho, hv, hv', Sem.run_bind] at hbin ⊢
    simp only [hbin, Result.andThen_ok, Sem.run_pure]
  · cases he

theorem do_un {op : UnOp} {t : TypeId} {x : Operand} (ho : o.op = .unOp op t x) {x' : X} {p q : PV} (h : Rx g w x' p (a.eval x)) (he : pUn op p = some q) : Does P o a w g st K q := by
  unfold pUn at he
  split at he
  · rename_i u
    obtain ⟨r, hr, rfl⟩ := Option.map_eq_some_iff.1 he
    have h1 := (h.rr rfl).inv_v
    have h2 : (Op.unary op u).run P w = .ok r w := by
      unfold unV at hr
      split at hr
      · exact pureOf_run hr
      · exact pureOf_run hr
      · cases hr
    exact .val (by simp [execOp, ho, h1, h2])
  · cases he

theorem do_cvi {s d : TypeId} {k : IntKind} {x : Operand} (ho : o.op = .convert s d x) (hs : (P.underlying s).isSome = true) (hd : P.underlying d = some (.int k)) {x' : X} {p q : PV} (h : Rx g w x' p (a.eval x)) (he : pCvi k p = some q) : Does P o a w g st K q := by
  unfold pCvi at he
  split at he
  · rename_i k' n
    cases he
    have h1 := (h.rr rfl).inv_v
    obtain ⟨sd, hsd⟩ := Option.isSome_iff_exists.1 hs
    exact .val (by simp [execOp, ho, h1, convert, Go.underlying, hsd, hd, Conv.intToInt])
  · cases he

theorem do_cvs {s d : TypeId} {x : Operand} (ho : o.op = .convert s d x) (hs : (P.underlying s).isSome = true) (hd : P.underlying d = some .string) {x' : X} {p q : PV} (h : Rx g w x' p (a.eval x)) (he : pCvs p = some q) : Does P o a w g st K q := by
  unfold pCvs at he
  split at he
  · rename_i b
    cases he
    have h1 := (h.rr rfl).inv_v
    obtain ⟨sd, hsd⟩ := Option.isSome_iff_exists.1 hs
    exact .val (by simp [execOp, ho, h1, convert, Go.underlying, hsd, hd])
  · cases he

theorem do_slen {t : TypeId} {x : Operand} (ho : o.op = .call { callee := .builtin .len, args := #[x], argTypes := #[t] }) (hu : P.underlying t = some .string) {x' : X} {p q : PV} (h : Rx g w x' p (a.eval x))
    (he : pSlen p = some q) : Does P o a w g st K q := by
  unfold pSlen at he
  split at he
  · rename_i s
    cases he
    have h1 := (h.rr rfl).inv_v
    exact .val (by simp [execOp, ho, h1, resolve, invoke, builtin, Builtin.len_, Go.underlying, hu, goInt])
  · cases he
theorem do_len {t e : TypeId} {x : Operand} (ho : o.op = .call { callee := .builtin .len, args := #[x], argTypes := #[t] }) (hu : P.underlying t = some (.slice e)) {x' : X} {p q : PV} (h : Rx g w x' p (a.eval x))
    (he : pLen p = some q) : Does P o a w g st K q := by
  unfold pLen at he
  split at he
  · rename_i m nl xs
    cases he
    obtain ⟨A, cap, hv, _⟩ := (h.rr rfl).inv_sl
    exact .val (by simp [execOp, ho, hv, resolve, invoke, builtin, Builtin.len_, Go.underlying, hu, goInt])
  · rename_i id off n
    cases he
    obtain ⟨_, cap, hv⟩ := (h.rr rfl).inv_os
    exact .val (by simp [execOp, ho, hv, resolve, invoke, builtin, Builtin.len_, Go.underlying, hu, goInt])
  · cases he

theorem do_mx {ts : Array TypeId} {x y : Operand} (ho : o.op = .call { callee := .builtin .max, args := #[x, y], argTypes := ts }) {x' y' : X} {px py q : PV} (hx : Rx g w x' px (a.eval x)) (hy : Rx g w y' py (a.eval y)) (he : pMx px py = some q) : Does P o a w g st K q := by
  unfold pMx at he
  split at he
  · cases he
    have h1 := (hx.rr rfl).inv_v
    have h2 := (hy.rr rfl).inv_v
    exact .val (by simp [execOp, ho, h1, h2, resolve, invoke, builtin, Builtin.max_, Builtin.max2])
  · cases he
theorem do_mn {ts : Array TypeId} {x y : Operand} (ho : o.op = .call { callee := .builtin .min, args := #[x, y], argTypes := ts }) {x' y' : X} {px py q : PV} (hx : Rx g w x' px (a.eval x)) (hy : Rx g w y' py (a.eval y)) (he : pMn px py = some q) : Does P o a w g st K q := by
  unfold pMn at he
  split at he
  · cases he
    have h1 := (hx.rr rfl).inv_v
    have h2 := (hy.rr rfl).inv_v
    exact .val (by simp [execOp, ho, h1, h2, resolve, invoke, builtin, Builtin.min_, Builtin.min2])
  · cases he

theorem ro1_tup {p : PV} (h : ∀ l, p ≠ .tup l) : ∀ l, p.ro1 ≠ .tup l := by
  intro l
  cases p with
  | tup l' => exact absurd rfl (h l')
  | sl m nl xs => cases m <;> simp [PV.ro1, PV.roLeaf]
  | _ => simp [PV.ro1, PV.roLeaf]
theorem do_ext {i : Nat} {x : Operand} (ho : o.op = .extract x i) {x' : X} {p q : PV} (h : Rx g w x' p (a.eval x)) (he : pExt i p = some q) : Does P o a w g st K q := by
  unfold pExt at he
  split at he
  · rename_i cs
    obtain ⟨c, hc, he⟩ := Option.bind_eq_some_iff.1 he
    obtain ⟨vs, hv, hl, hr⟩ := (h.rr rfl).inv_tup
    have hlt := lt_of_get hc
    have hu : vs[i]? = some vs[i] := getElem?_pos ..
    split at he
    · cases he
    · rename_i hnt
      cases he
      exact .same (v := vs[i]) (by simp [execOp, ho, hv, Instr.extract, hu]) (hr i _ _ hc hu).ro1 fun _ => ownP_of (fun _ _ _ => ro1_own) (ro1_tup fun l hl => hnt l hl)
  · cases he
theorem do_extx {i : Nat} {x : Operand} (ho : o.op = .extract x i) {x' : X} {p q : PV} (h : Rx g w x' p (a.eval x)) (hk : ∀ s, x' = .t s → s ∈ K) (he : pExtx i p = some q) : Does P o a w g st K q := by
  unfold pExtx at he
  split at he
  · rename_i cs
    obtain ⟨c, hc, he⟩ := Option.bind_eq_some_iff.1 he
    obtain ⟨vs, hv, hl, hr⟩ := (h.rr rfl).inv_tup
    have hlt := lt_of_get hc
    have hu : vs[i]? = some vs[i] := getElem?_pos ..
    split at he
    · cases he
    · rename_i hnt
      cases he
      have hrc := hr i _ _ hc hu
      have hrun : (execOp a.eval o).run P w = .ok (.value vs[i]) w := by simp [execOp, ho, hv, Instr.extract, hu]
      cases x' with
      | k q => exact absurd rfl (h.2.2.2 cs)
      | t s =>
        have hown := (h.own rfl (s := s) (by simp)).2 cs vs.toArray rfl hv i _ _ hc (by rw [List.getElem?_toArray]; exact hu)
        cases hd : o.dst with
        | none => exact ⟨_, w, g, hrun, .refl _ _ _, fun d h => by simp [hd] at h, fun d' o' hp => by subst hp; cases hrc⟩
        | some d =>
          refine ⟨_, w, g.re (moveP s i d), hrun, keep_moveP (hk s rfl), fun d' hd' => ?_, fun d' o' hp => by subst hp; cases hrc⟩
          rw [hd] at hd'
          cases hd'
          exact .inr ⟨hrc.re, hown.re (by simp [moveP]), fun cs' vs' h1 => (hnt cs' h1).elim⟩
  · cases he
theorem do_nchk {x : Operand} (ho : o.op = .nilCheck x) {x' : X} {p q : PV} (h : Rx g w x' p (a.eval x)) (he : pNchk p = some q) (hst : ∀ d o', p = .loc d o' → ∃ c, st.box d = some c) : Does P o a w g st K q := by
  unfold pNchk at he
  split at he <;> cases he
  · rename_i d off
    have hv := h.loc
    exact ⟨_, w, g, by simp [execOp, ho, hv], .refl _ _ _, fun d' _ => .inl ⟨d, off, rfl, rfl⟩, fun d' o' hp => hst d' o' hp⟩
  · rename_i i' off
    have hr := h.rr rfl
    obtain ⟨h1, hv⟩ := hr.inv_ptr
    exact .same (by simp [execOp, ho, hv]) (hv ▸ hr) fun _ => ownP_of (by simp) (by simp)
  · rename_i cs off
    have hr := h.rr rfl
    obtain ⟨b, o', hv, h1, h2⟩ := hr.inv_el
    exact .same (by simp [execOp, ho, hv]) (hv ▸ hr) fun _ => ownP_of (by simp) (by simp)
end
end Go.Pv
