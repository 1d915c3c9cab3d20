/- Pv, part I: operations on variables in memory and on objects are carried out by the model's. -/
import Derived.Test.YtdmhagjcmlaiiaaDoorPvH
set_option linter.unusedVariables false
set_option linter.unusedSimpArgs false
namespace Go.Pv
section
variable {P : Program} {o : Oper} {a : Go.Act} {w w' : World} {g g' : G} {st : St}

def okE (P : Program) (op : Op) (act : Act) (ins : List X) (dst : Option Nat) (kill : List Nat) : Bool :=
  match op, act with
  | .alloc t, .bnew d zero => dst == some d && zeroIs P t zero && ins.isEmpty
  | .box _ x, .bbox d => dst == some d && okXs [x] ins
  | .load t x, .bld _ n agg _ => okXs [x] ins && varIs P t n agg
  | .store t x y, .bst _ n keep => okXs [x, y] ins && sizeIs P t n && (!keep || (match ins with | [_, .t s] => kill.contains s | _ => true))
  | .alloc t, .gnew zero => zeroIs P t zero && ins.isEmpty
  | .box _ x, .gbox => okXs [x] ins
  | .load t x, .gld n agg _ => okXs [x] ins && varIs P t n agg
  | .store t x y, .gst n keep => okXs [x, y] ins && sizeIs P t n && (!keep || (match ins with | [_, .t s] => kill.contains s | _ => true))
  | .convert s d x, .os2b => okXs [x] ins && (P.underlying s).isSome && underIs P d (isSl fun e => underIs P e (isInt .u8) && sizeIs P e 1)
  | .convert s d x, .ob2s => okXs [x] ins && underIs P d isStr && underIs P s (isSl fun e => underIs P e (isInt .u8))
  | _, _ => false

theorem zero_laid {t : TypeId} {zero : List PV} (h : zeroIs P t zero = true) : ∃ z : Value, (∀ w, (zeroValue t).run P w = .ok z w) ∧ z.cells.size = zero.length ∧
    ∀ (g : G) (w : World) (j : Nat) (x : PV) (u : Value), zero[j]? = some x → z.cells[j]? = some u → Rr g w x u ∧ ∀ e nl xs, x ≠ .sl (.sp e) nl xs := by
  obtain ⟨z, h1, h2, h3⟩ := zeroIs_spec h
  exact ⟨z, h1, h2.symm, fun g w j x u hx hu => ⟨(h3 j x u hx hu).1 g w, (h3 j x u hx hu).2.1⟩⟩

theorem Rel.putU (h : Rel g st a w) {dst : Option Nat} (hd : ∀ d, dst = some d → d < a.tmps.size) : Rel g (st.put dst undefP) (a.put dst undef) w := by
  have := h.put (K := []) (dst := dst) (p := undefP) (v := undef) (Keep.refl _ _ _) hd (fun d _ => .inr ⟨.v _, ownP_of (by simp [undefP]) (by simp [undefP])⟩) (by simp [undefP])
  rwa [kill_nil] at this

/-- A store into a variable: at which block, whose. -/
theorem store_any (hR : Rel g st a w) {t n : Nat} {x y : Operand} (ho : o.op = .store t x y) (hsz : sizeIs P t n = true) {k off : Nat} {q : Pos} {cl : Cl} {c c' : List PV} {keep : Bool} {y' : X} {py p : PV} {K : List Nat}
    (hx : a.eval x = .pointer (some ⟨k, off, none⟩)) (hc : CellsAt g w k cl q c) (hcl : (∃ d, cl = .box d) ∨ ∃ i, cl = .obj i) (hq : ∀ s, q ≠ .slot s) (hy : Rx g w y' py (a.eval y)) (hk : keep = true → ∀ s, y' = .t s → s ∈ K) (he : bSt n keep c off py = some (p, c')) :
    p = undefP ∧ ∃ g' w', (execOp a.eval o).run P w = .ok .skip w' ∧ In k g' w w' ∧ CellsAt g' w' k cl q c' ∧ Rel g' (st.kill K) a w ∧ Fwd g w g' w ∧ g'.mu = g.mu ∧ g'.bx = g.bx ∧ c'.length = c.length := by
  obtain ⟨_, hsz'⟩ := sizeIs_spec hsz
  have hkeepR : Rel g (st.kill K) a w := by
    have := hR.put (K := K) (dst := none) (p := undefP) (v := undef) (Keep.refl _ _ _) (by simp) (by simp) (by simp [undefP])
    exact this
  have hgcl : (∃ d, g.cl k = .box d) ∨ ∃ i, g.cl k = .obj i := by
    obtain ⟨vs, ty, _, _, _, h3, _⟩ := hc
    rw [h3]
    exact hcl
  unfold bSt at he
  split at he
  · rename_i hkeep
    split at he
    · rename_i m nl xs
      split at he
      · rename_i hle
        obtain ⟨hle, rfl⟩ := hle
        cases he
        refine ⟨rfl, ?_⟩
        have hr := hy.rr rfl
        obtain ⟨A, cap, hv, _⟩ := hr.inv_sl
        -- the claim goes along, if there is one
        have hgive : ∃ f : Cl → Cl, Rel (g.re f) (st.kill K) a w ∧ (∀ c, f c = .out ↔ c = .out) ∧ (∀ d, f (.box d) = .box d) ∧ (∀ i, f (.obj i) = .obj i) ∧ (∀ j, f (.row q j) = .row q j) ∧ Own1 (g.re f) w q off (.sl m nl xs) (a.eval y) := by
          cases y' with
          | k z =>
            refine ⟨id, ?_, fun _ => .rfl, fun _ => rfl, fun _ => rfl, fun _ => rfl, .of_ne fun e nl' xs' => hy.2.1 e nl' xs'⟩
            exact hkeepR
          | t s =>
            have hown := (hy.own rfl (s := s) (by simp)).1
            refine ⟨moveQ (.slot s) 0 q off, rel_give hR (hk hkeep s rfl) hq, moveQ_out, fun _ => rfl, fun _ => rfl, fun j => ?_, hown.re (by simp [moveQ])⟩
            simp only [moveQ]
            rw [if_neg]
            rintro ⟨h, _⟩
            exact hq s h
        obtain ⟨f, hR', hfo, hfb, hfob, hfq, hown⟩ := hgive
        have hc2 : CellsAt (g.re f) w k cl q c := hc.reSame (by rcases hcl with ⟨d, rfl⟩ | ⟨i, rfl⟩; exact hfb d; exact hfob i) hfq
        have hgcl2 : (∃ d, (g.re f).cl k = .box d) ∨ ∃ i, (g.re f).cl k = .obj i := by
          show (∃ d, f (g.cl k) = .box d) ∨ ∃ i, f (g.cl k) = .obj i
          rcases hgcl with ⟨d, h⟩ | ⟨i, h⟩
          · exact .inl ⟨d, by rw [h]; exact hfb d⟩
          · exact .inr ⟨i, by rw [h]; exact hfob i⟩
        obtain ⟨w', hrun, hin, hcat⟩ := hc2.store (P := P) hgcl2 (off := off) (xs := [.sl m nl xs]) (us := [a.eval y]) rfl (by simpa using hle) (by simp [hv, Value.oneCell'])
          (fun j x u hx hu => by
            cases j with
            | zero => simp at hx hu; subst hx; subst hu; exact ⟨hr.re, hown⟩
            | succ j => simp at hx)
        have hvc : (a.eval y).cells = #[a.eval y] := by rw [hv]; rfl
        have := run_storeVar_of (P := P) (t := t) (n := 1) (k := k) (off := off) (v := a.eval y) (w := w) (w' := w') (hsz' w) (by rw [hvc]; rfl) (by rw [hvc]; exact hrun)
        exact ⟨_, w', by simp only [execOp, ho, hx, Sem.run_bind, this, Result.andThen_ok, Sem.run_pure], hin, hcat, hR', fwd_re hfo, rfl, rfl, by rw [splice_length (by simpa using hle)]⟩
      · cases he
    · cases he
  · rename_i hkeep
    split at he
    · rename_i hle
      obtain ⟨hok, hle⟩ := hle
      cases he
      refine ⟨rfl, ?_⟩
      simp only [PV.cellsOk, Bool.and_eq_true, beq_iff_eq] at hok
      have hnl : py.isLoc = false := by cases py <;> simp_all [PV.isLoc, PV.cells, PV.leaf]
      obtain ⟨l1, l2, l3, l4⟩ := ro_laid (hy.rr hnl) hok.2
      obtain ⟨w', hrun, hin, hcat⟩ := hc.store (P := P) hgcl (off := off) (xs := py.ro.cells) (us := (a.eval y).cells.toList) (by simpa using l1) (by omega) l4 (fun j x u hx hu => ⟨(l3 j x u hx (by simpa using hu)).1, .of_ne (l3 j x u hx (by simpa using hu)).2⟩)
      have := run_storeVar_of (P := P) (t := t) (n := n) (k := k) (off := off) (v := a.eval y) (w := w) (w' := w') (hsz' w) (by omega) hrun
      exact ⟨_, w', by simp only [execOp, ho, hx, Sem.run_bind, this, Result.andThen_ok, Sem.run_pure], hin, hcat, hkeepR, .refl _ _, rfl, rfl, by rw [splice_length (by omega)]⟩
    · cases he

theorem load_any {t n : Nat} {agg : Bool} {x : Operand} (ho : o.op = .load t x) (hv : varIs P t n agg = true) {k off : Nat} {q : Pos} {cl : Cl} {c : List PV} (hx : a.eval x = .pointer (some ⟨k, off, none⟩)) (hc : CellsAt g w k cl q c) (hle : off + n ≤ c.length) {p : PV}
    (he : one agg ((c.drop off).take n) = some p) : ∃ v, (execOp a.eval o).run P w = .ok (.value v) w ∧ Rr g w p v := by
  obtain ⟨us, h1, h2, h3⟩ := hc.load hle
  have hrun := run_loadVar (P := P) hv h1 h2
  exact ⟨wholeV agg us, by simp [execOp, ho, hx, Instr.loadAt, Instr.sureAddr, hrun], one_rr (by simp; omega) he h3⟩
theorem load_take {t n : Nat} {x : Operand} (ho : o.op = .load t x) (hv : varIs P t n false = true) {k off : Nat} {q : Pos} {cl : Cl} {c : List PV} (hx : a.eval x = .pointer (some ⟨k, off, none⟩)) (hc : CellsAt g w k cl q c) {p : PV} (he : c[off]? = some p) :
    ∃ v, (execOp a.eval o).run P w = .ok (.value v) w ∧ Rr g w p v ∧ Own1 g w q off p v := by
  obtain ⟨vs, ty, fz, h1, h2, h3, h4, h5⟩ := hc
  have hlt := lt_of_get he
  have hroom := h2.1
  have hu : vs[off]? = some (vs[off]'(by omega)) := getElem?_pos ..
  obtain ⟨r1, r2⟩ := h5 off p _ he hu
  have hn := (varIs_agg hv w).2 rfl
  subst hn
  have hcell : w.cell? ⟨k, off, none⟩ = some (vs[off]'(by omega)) := by simp [World.cell?, h1, hu]
  have hrun := run_loadVar (P := P) (w := w) hv (b := k) (o := off) (us := [vs[off]'(by omega)]) rfl (fun j u hj => by
    cases j with
    | zero => simp at hj; subst hj; exact hcell
    | succ j => simp at hj)
  exact ⟨_, by simp [execOp, ho, hx, Instr.loadAt, Instr.sureAddr, hrun, wholeV], r1, r2⟩

theorem const_loc {x : Operand} {x' : X} (h : okX x x' = true) {d o' : Nat} (hv : val st.env x' = some (.loc d o')) : ∃ s, x' = .t s ∧ st.env s = some (.loc d o') := by
  cases x' with
  | t s => exact ⟨s, rfl, hv⟩
  | k q =>
    simp [val] at hv
    subst hv
    cases x with
    | const v => have := (okK_spec (show okK v (.loc d o') = true from h)).2.2.1; simp [PV.isLoc] at this
    | tmp t => simp [okX] at h
    | func f => simp [okX] at h
    | global f => simp [okX] at h

theorem box_sound (hR : Rel g st a w) {o' : O} {d : Nat} (hkind : o'.act.kind = .box d) (hok : okE P o.op o'.act o'.ins o'.dst o'.kill = true) (hd : ∀ d, o'.dst = some d → d < a.tmps.size) (hdst : o.dst = o'.dst)
    {l : List PV} (hl : vals st.env o'.ins = some l) {p : PV} {c : List PV} (he : evalB o'.act l (st.box d) = some (p, c)) : Runs P o a w g (((st.kill o'.kill).setBox d c).put o'.dst p) := by
  obtain ⟨dst, kill, act, ins, guard⟩ := o'
  simp only at hkind hok hd hdst hl he ⊢
  subst hdst
  unfold okE at hok
  split at hok <;> simp only [Act.kind, Kind.box.injEq, reduceCtorEq] at hkind
  · -- a new variable
    rename_i t d' zero ho
    subst hkind
    simp only [Bool.and_eq_true, beq_iff_eq, List.isEmpty_iff] at hok
    obtain ⟨⟨hdd, hz⟩, rfl⟩ := hok
    simp [vals] at hl
    subst hl
    unfold evalB at he
    simp only at he
    split at he
    case h_2 => cases he
    rename_i hb
    simp only [Option.some.injEq, Prod.mk.injEq] at he
    obtain ⟨rfl, rfl⟩ := he
    obtain ⟨z, hz1, hz2, hz3⟩ := zero_laid hz
    obtain ⟨g', hrel, hfwd⟩ := rel_new_box hR hb (hd _ hdd) kill (cs := zero) (vs := z.cells) (ty := t) hz2 (hz3 g w)
    rw [hdd]
    refine ⟨_, _, g', .inl ?_, by rw [hdd]; exact hrel, hfwd⟩
    simp [execOp, ho, Instr.alloc, hz1, newVar, newRow]
  · rename_i t x d' ho
    subst hkind
    simp only [Bool.and_eq_true, beq_iff_eq] at hok
    obtain ⟨hdd, hx⟩ := hok
    have hxs := rxL_of hR hx hl
    unfold evalB at he
    simp only at he
    split at he
    · rename_i px hb
      split at he
      · rename_i hleaf
        simp only [Option.some.injEq, Prod.mk.injEq] at he
        obtain ⟨rfl, rfl⟩ := he
        obtain ⟨x', rfl, hx1⟩ := rxL1 rfl hxs
        have hnl : px.isLoc = false := by cases px <;> simp_all [PV.isLoc, PV.cells, PV.leaf]
        obtain ⟨l1, l2, l3, l4⟩ := ro_laid (hx1.rr hnl) hleaf
        obtain ⟨g', hrel, hfwd⟩ := rel_new_box hR hb (hd _ hdd) kill (cs := px.ro.cells) (vs := (a.eval x).cells) (ty := t) l1.symm l3
        rw [hdd]
        refine ⟨_, _, g', .inl ?_, by rw [hdd]; exact hrel, hfwd⟩
        simp [execOp, ho, Instr.box, newVar, newRow]
      · cases he
    · cases he
  · rename_i t x d' n agg tk ho
    subst hkind
    simp only [Bool.and_eq_true] at hok
    have hxs := rxL_of hR hok.1 hl
    unfold evalB at he
    simp only at he
    split at he
    · rename_i d2 off c0 hb
      split at he
      · rename_i hdd
        subst hdd
        obtain ⟨x', rfl, hx1⟩ := rxL1 rfl hxs
        have hv := hx1.loc
        have hcat := hR.boxes _ c0 hb
        unfold bLd at he
        split at he
        · rename_i htk
          subst htk
          split at he
          · cases he
          · rename_i hagg
            have hagg' : agg = false := by simpa using hagg
            subst hagg'
            split at he
            case h_2 => cases he
            rename_i m0 nl0 xs0 hp0
            simp only [Option.some.injEq, Prod.mk.injEq] at he
            obtain ⟨rfl, rfl⟩ := he
            obtain ⟨v, hrun, hr, hown⟩ := load_take (P := P) ho hok.2 hv hcat hp0
            have hlt := lt_of_get hp0
            obtain ⟨g', hrel, hfwd⟩ := rel_take hR (q := .box d2) (.inl ⟨d2, rfl⟩) (j := off) hd kill hr hown (by simp) (st1 := (st.kill kill).setBox d2 (splice c0 off [(PV.sl m0 nl0 xs0).roLeaf])) rfl rfl
              (fun d' c' hc' => by
                simp only [St.setBox, St.kill, upd] at hc'
                split at hc'
                · rename_i e
                  subst e
                  cases hc'
                  refine ⟨c0, hb, .inr ⟨rfl, splice_length (by simp; omega), fun i hi => ?_, fun x' hx' u hu => ?_⟩⟩
                  · rw [splice_get (by simp; omega), if_neg (by simp; omega)]
                  · rw [splice_get (by simp; omega), if_pos (by simp)] at hx'
                    simp at hx'
                    subst hx'
                    exact ⟨(hu _ hp0).roLeaf, fun _ _ _ => roLeaf_own⟩
                · rename_i hne
                  exact ⟨c', hc', .inl ⟨rfl, by simpa using Ne.symm hne⟩⟩)
              (fun i c' hc' => ⟨c', hc', .inl ⟨rfl, by simp⟩⟩)
              (fun d' c' hc' => by
                simp only [St.setBox, St.kill, upd]
                split
                · exact ⟨_, rfl⟩
                · exact ⟨c', hc'⟩)
            exact ⟨v, w, g', .inl hrun, hrel, hfwd⟩
        · split at he
          · rename_i hle
            obtain ⟨p0, hp0, he⟩ := Option.map_eq_some_iff.1 he
            simp only [Prod.mk.injEq] at he
            obtain ⟨rfl, rfl⟩ := he
            obtain ⟨v, hrun, hr⟩ := load_any (P := P) ho hok.2 hv hcat hle hp0
            rw [setBox_same (show (st.kill kill).box d2 = some c0 from hb)]
            exact ⟨v, w, g, .inl hrun, hR.put (Keep.refl _ _ _) hd (fun d _ => .inr ⟨hr.ro, ro_ownP⟩) (fun d' o' hp => absurd hr.ro.notLoc (by rw [hp]; simp [PV.isLoc])), .refl _ _⟩
          · cases he
      · cases he
    · cases he
  · rename_i t x y d' n keep ho
    subst hkind
    simp only [Bool.and_eq_true] at hok
    obtain ⟨⟨h1, h2⟩, h3⟩ := hok
    have hxs := rxL_of hR h1 hl
    unfold evalB at he
    simp only at he
    split at he
    · rename_i d2 off py c0 hb
      split at he
      · rename_i hdd
        subst hdd
        obtain ⟨x', y', rfl, hx1, hy1⟩ := rxL2 rfl hxs
        have hv := hx1.loc
        have hcat := hR.boxes _ c0 hb
        obtain ⟨rfl, g', w', hrun, hin, hcat', hR', hfwd, hmu, hbx, hlen⟩ := store_any (K := kill) hR ho h2 hv hcat (.inl ⟨_, rfl⟩) (by simp) hy1 (fun hk s hs => by subst hs; simpa [hk] using h3) he
        have hrel : Rel g' ((st.kill kill).setBox d2 c) a w' := by
          refine rel_in hR' hin (K := []) (by rw [kill_nil]; rfl) rfl (fun d' c' hc' => ?_) (fun i c' hc' => ?_) (fun d' c' hc' => ?_)
          · simp only [St.setBox, St.kill, upd] at hc'
            split at hc'
            · rename_i e
              subst e
              cases hc'
              rw [hbx]
              exact hcat'
            · rename_i hne
              have hold := hR'.boxes d' c' hc'
              refine hold.in_ hin ?_
              intro hkk
              obtain ⟨_, _, _, _, _, e3, _⟩ := hold
              rw [hbx] at hkk e3
              obtain ⟨_, _, _, _, _, e4, _⟩ := hcat'
              rw [hkk, e4] at e3
              injection e3 with e3
              exact hne e3.symm
          · have hold := hR'.objs i c' hc'
            refine hold.in_ hin ?_
            intro hkk
            obtain ⟨_, _, _, _, _, e3, _⟩ := hold
            rw [hmu] at hkk e3
            obtain ⟨_, _, _, _, _, e4, _⟩ := hcat'
            rw [hkk, e4] at e3
            cases e3
          · simp only [St.setBox, upd]
            split
            · exact ⟨_, rfl⟩
            · exact ⟨c', hc'⟩
        exact ⟨undef, w', g', .inr ⟨hrun, rfl⟩, hrel.putU hd, hfwd.trans hin.fwd⟩
      · cases he
    · cases he
  · cases hok

theorem mem_sound (hR : Rel g st a w) {o' : O} (hkind : o'.act.kind = .mem) (hok : okE P o.op o'.act o'.ins o'.dst o'.kill = true) (hd : ∀ d, o'.dst = some d → d < a.tmps.size) (hdst : o.dst = o'.dst)
    {l : List PV} (hl : vals st.env o'.ins = some l) {p : PV} {m : Mem} (he : evalM o'.act l st.mem = some (p, m)) : Runs P o a w g (((st.kill o'.kill).setMem m).put o'.dst p) := by
  obtain ⟨dst, kill, act, ins, guard⟩ := o'
  simp only at hkind hok hd hdst hl he ⊢
  subst hdst
  unfold okE at hok
  split at hok <;> simp only [Act.kind, reduceCtorEq] at hkind
  · rename_i t zero ho
    simp only [Bool.and_eq_true, List.isEmpty_iff] at hok
    obtain ⟨hz, rfl⟩ := hok
    simp [vals] at hl
    subst hl
    unfold evalM at he
    simp only [Option.some.injEq, Prod.mk.injEq] at he
    obtain ⟨rfl, rfl⟩ := he
    obtain ⟨z, hz1, hz2, hz3⟩ := zero_laid hz
    obtain ⟨g', hrel, hfwd⟩ := rel_new_obj hR hd kill (cs := zero) (vs := z.cells) (ty := t) hz2 (hz3 g w)
    refine ⟨_, _, g', .inl ?_, hrel, hfwd⟩
    simp [execOp, ho, Instr.alloc, hz1, newVar, newRow]
  · rename_i t x ho
    have hxs := rxL_of hR hok hl
    unfold evalM at he
    simp only at he
    split at he
    · rename_i px
      split at he
      · rename_i hleaf
        simp only [Option.some.injEq, Prod.mk.injEq] at he
        obtain ⟨rfl, rfl⟩ := he
        obtain ⟨x', rfl, hx1⟩ := rxL1 rfl hxs
        have hnl : px.isLoc = false := by cases px <;> simp_all [PV.isLoc, PV.cells, PV.leaf]
        obtain ⟨l1, l2, l3, l4⟩ := ro_laid (hx1.rr hnl) hleaf
        obtain ⟨g', hrel, hfwd⟩ := rel_new_obj hR hd kill (cs := px.ro.cells) (vs := (a.eval x).cells) (ty := t) l1.symm l3
        refine ⟨_, _, g', .inl ?_, hrel, hfwd⟩
        simp [execOp, ho, Instr.box, newVar, newRow]
      · cases he
    · cases he
  · rename_i t x n agg tk ho
    simp only [Bool.and_eq_true] at hok
    have hxs := rxL_of hR hok.1 hl
    unfold evalM at he
    simp only at he
    split at he
    · rename_i i off
      obtain ⟨c0, hb, he1⟩ := Option.bind_eq_some_iff.1 he
      clear he
      obtain ⟨⟨p1, c1⟩, he, heq⟩ := Option.map_eq_some_iff.1 he1
      clear he1
      simp only [Prod.mk.injEq] at heq
      obtain ⟨rfl, rfl⟩ := heq
      obtain ⟨x', rfl, hx1⟩ := rxL1 rfl hxs
      obtain ⟨_, hv⟩ := (hx1.rr rfl).inv_ptr
      have hcat := hR.objs _ c0 hb
      unfold bLd at he
      split at he
      · rename_i htk
        subst htk
        split at he
        · cases he
        · rename_i hagg
          have hagg' : agg = false := by simpa using hagg
          subst hagg'
          split at he
          case h_2 => cases he
          rename_i m0 nl0 xs0 hp0
          simp only [Option.some.injEq, Prod.mk.injEq] at he
          obtain ⟨rfl, rfl⟩ := he
          obtain ⟨v, hrun, hr, hown⟩ := load_take (P := P) ho hok.2 hv hcat hp0
          have hlt := lt_of_get hp0
          obtain ⟨g', hrel, hfwd⟩ := rel_take hR (q := .obj i) (.inr ⟨i, rfl⟩) (j := off) hd kill hr hown (by simp) (st1 := (st.kill kill).setMem (st.mem.set i (splice c0 off [(PV.sl m0 nl0 xs0).roLeaf]))) (by simp [St.setMem]) rfl
            (fun d' c' hc' => ⟨c', hc', .inl ⟨rfl, by simp⟩⟩)
            (fun k c' hc' => by
              simp only [St.setMem, List.getElem?_set] at hc'
              split at hc'
              · rename_i e
                subst e
                split at hc'
                · cases hc'
                  refine ⟨c0, hb, .inr ⟨rfl, splice_length (by simp; omega), fun k hk => ?_, fun x' hx' u hu => ?_⟩⟩
                  · rw [splice_get (by simp; omega), if_neg (by simp; omega)]
                  · rw [splice_get (by simp; omega), if_pos (by simp)] at hx'
                    simp at hx'
                    subst hx'
                    exact ⟨(hu _ hp0).roLeaf, fun _ _ _ => roLeaf_own⟩
                · cases hc'
              · rename_i hne
                exact ⟨c', hc', .inl ⟨rfl, by simpa using hne⟩⟩)
            (fun d' c' hc' => ⟨c', hc'⟩)
          exact ⟨v, w, g', .inl hrun, hrel, hfwd⟩
      · split at he
        · rename_i hle
          obtain ⟨p0, hp0, he⟩ := Option.map_eq_some_iff.1 he
          simp only [Prod.mk.injEq] at he
          obtain ⟨rfl, rfl⟩ := he
          obtain ⟨v, hrun, hr⟩ := load_any (P := P) ho hok.2 hv hcat hle hp0
          rw [set_same hb]
          exact ⟨v, w, g, .inl hrun, hR.put (Keep.refl _ _ _) hd (fun d _ => .inr ⟨hr.ro, ro_ownP⟩) (fun d' o' hp => absurd hr.ro.notLoc (by rw [hp]; simp [PV.isLoc])), .refl _ _⟩
        · cases he
    · cases he
  · rename_i t x y n keep ho
    simp only [Bool.and_eq_true] at hok
    obtain ⟨⟨h1, h2⟩, h3⟩ := hok
    have hxs := rxL_of hR h1 hl
    unfold evalM at he
    simp only at he
    split at he
    · rename_i i off py
      obtain ⟨c0, hb, he1⟩ := Option.bind_eq_some_iff.1 he
      clear he
      obtain ⟨⟨p1, c1⟩, he, heq⟩ := Option.map_eq_some_iff.1 he1
      clear he1
      simp only [Prod.mk.injEq] at heq
      obtain ⟨rfl, rfl⟩ := heq
      obtain ⟨x', y', rfl, hx1, hy1⟩ := rxL2 rfl hxs
      obtain ⟨_, hv⟩ := (hx1.rr rfl).inv_ptr
      have hcat := hR.objs _ c0 hb
      obtain ⟨rfl, g', w', hrun, hin, hcat', hR', hfwd, hmu, hbx, hlen⟩ := store_any (K := kill) hR ho h2 hv hcat (.inr ⟨_, rfl⟩) (by simp) hy1 (fun hk s hs => by subst hs; simpa [hk] using h3) he
      have hrel : Rel g' ((st.kill kill).setMem (st.mem.set i c1)) a w' := by
        refine rel_in hR' hin (K := []) (by rw [kill_nil]; rfl) (by simp [St.setMem, St.kill]) (fun d' c' hc' => ?_) (fun k c' hc' => ?_) (fun d' c' hc' => ⟨c', hc'⟩)
        · have hold := hR'.boxes d' c' hc'
          refine hold.in_ hin ?_
          intro hkk
          obtain ⟨_, _, _, _, _, e3, _⟩ := hold
          rw [hbx] at hkk e3
          obtain ⟨_, _, _, _, _, e4, _⟩ := hcat'
          rw [hkk, e4] at e3
          cases e3
        · simp only [St.setMem, List.getElem?_set] at hc'
          split at hc'
          · rename_i e
            subst e
            split at hc'
            · cases hc'
              rw [hmu]
              exact hcat'
            · cases hc'
          · rename_i hne
            have hold := hR'.objs k c' hc'
            refine hold.in_ hin ?_
            intro hkk
            obtain ⟨_, _, _, _, _, e3, _⟩ := hold
            rw [hmu] at hkk e3
            obtain ⟨_, _, _, _, _, e4, _⟩ := hcat'
            rw [hkk, e4] at e3
            injection e3 with e3
            exact hne e3
      exact ⟨undef, w', g', .inr ⟨hrun, rfl⟩, hrel.putU hd, hfwd.trans hin.fwd⟩
    · cases he
  · rename_i s d x ho
    simp only [Bool.and_eq_true] at hok
    have hxs := rxL_of hR hok.1.1 hl
    unfold evalM at he
    simp only at he
    split at he
    · rename_i t
      simp only [Option.some.injEq, Prod.mk.injEq] at he
      obtain ⟨rfl, rfl⟩ := he
      obtain ⟨x', rfl, hx1⟩ := rxL1 rfl hxs
      obtain ⟨e, hu, hz⟩ := isSl_spec hok.2
      simp only [Bool.and_eq_true] at hz
      have h1 := (hx1.rr rfl).inv_v
      obtain ⟨u, hus⟩ := Option.isSome_iff_exists.1 hok.1.2
      have hrun := Lib.run_convert_string_bytes (P := P) w s d e t hus hu (isInt_spec hz.1)
      have hn : NewBlock w (Lib.bytesWorld w e t) (.cells (Lib.bytesCells w e t) e ((Lib.bytesCells w e t).size, (Lib.bytesCells w e t).size + 1)) := by
        refine ⟨?_, rfl, rfl, rfl⟩
        apply Array.ext'
        apply List.ext_getElem?
        intro j
        simp only [Array.getElem?_toList]
        rcases Nat.lt_trichotomy j w.heap.size with hj | hj | hj
        · rw [Lib.bytesWorld_at_old w e t j hj, Array.getElem?_push, if_neg (by omega)]
        · subst hj; rw [Lib.bytesWorld_at_new]; simp
        · rw [Array.getElem?_eq_none (by rw [Lib.bytesWorld_size]; omega), Array.getElem?_eq_none (by simp; omega)]
      have hcells : (Lib.bytesCells w e t).toList = bytesV t ++ List.replicate (grownCap w t.size 0 e - t.size) (.int .u8 0) := by simp [Lib.bytesCells, bytesV]
      have hge := grownCap_ge w t.size 0 e
      have hbl : (bytesV t).length = t.size := by simp [bytesV]
      obtain ⟨g', hrel, hfwd⟩ := rel_new_objG (q := .os st.mem.length 0 t.size) (v := .slice (some ⟨w.heap.size, 0, none⟩) t.size (grownCap w t.size 0 e)) hR hd kill (cs := bytesP t) hn
        ⟨by rw [bytesP_length, ← Array.length_toList, hcells]; simp [hbl], .inr (Nat.le_refl _), fun ⟨d, hd⟩ => by cases hd⟩
        (fun j y u hy hv => by
          have hj : j < t.size := by have := lt_of_get hy; rwa [bytesP_length] at this
          rw [← Array.getElem?_toList, hcells, List.getElem?_append_left (by omega)] at hv
          refine ⟨bytes_rr j y u hy hv, ?_⟩
          rintro e' nl xs rfl
          have := (bytesP_ok t _ (List.mem_of_getElem? hy)).2
          obtain ⟨b, _, hb⟩ := List.mem_map.1 (show PV.sl (.sp e') nl xs ∈ bytesP t from List.mem_of_getElem? hy)
          cases hb)
        (fun g' h1 h2 => by rw [← h1]; exact .os h2) (by simp) (by simp) (by simp)
      refine ⟨_, _, g', .inl ?_, hrel, hfwd⟩
      simp only [execOp, ho, h1, Sem.run_bind, hrun, Result.andThen_ok, Sem.run_pure]
    · cases he
  · rename_i s d x ho
    simp only [Bool.and_eq_true] at hok
    have hxs := rxL_of hR hok.1.1 hl
    unfold evalM at he
    simp only at he
    split at he
    · rename_i i off n
      obtain ⟨c0, hb, he1⟩ := Option.bind_eq_some_iff.1 he
      clear he
      split at he1
      case isFalse => cases he1
      rename_i hle
      obtain ⟨bs, hbs, heq⟩ := Option.map_eq_some_iff.1 he1
      simp only [Prod.mk.injEq] at heq
      obtain ⟨rfl, rfl⟩ := heq
      obtain ⟨x', rfl, hx1⟩ := rxL1 rfl hxs
      obtain ⟨_, cap, hv⟩ := (hx1.rr rfl).inv_os
      have hcat := hR.objs _ c0 hb
      obtain ⟨e, hu, hz⟩ := isSl_spec hok.2
      obtain ⟨ns, hns, rfl⟩ := bytesOf_spec hbs
      obtain ⟨us, l1, l2, l3⟩ := hcat.load hle
      have hlen : ns.length = n := by
        have := congrArg List.length hns
        simp at this
        omega
      have hrun : (convert s d (a.eval x)).run P w = .ok (.string ⟨(ns.map (fun n => UInt8.ofNat n.toNat)).toArray⟩) w := by
        rw [hv, run_convert_bytes_arg w s e hu (isInt_spec hz) (g.mu i) off _ cap ns (by omega) (fun j hj => ?_) d (isStr_spec hok.1.2)]
        · rfl
        · have hj' : j < ns.length := by omega
          have hp : ((c0.drop off).take n)[j]? = some (.v (.int .u8 (ns.getD j 0))) := by rw [hns]; simp [List.getD, hj']
          obtain ⟨u, hu'⟩ : ∃ u, us[j]? = some u := ⟨us[j]'(by omega), List.getElem?_eq_getElem _⟩
          rw [l2 j u hu', (l3 j _ u hp hu').inv_v]
      refine ⟨.string ⟨(ns.map (fun n => UInt8.ofNat n.toNat)).toArray⟩, w, g, .inl (by simp only [execOp, ho, Sem.run_bind, hrun, Result.andThen_ok, Sem.run_pure]), ?_, .refl _ _⟩
      exact hR.put (Keep.refl _ _ _) hd (fun d _ => .inr ⟨.v _, ownP_of (by simp) (by simp)⟩) (by simp)
    · cases he
  · cases hok
end
end Go.Pv
