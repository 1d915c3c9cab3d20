/- Pv, part C: the check that ties an operation of the model to one of the abstract machine; operands; memory read and written cell by cell. -/
import Derived.Test.YtdmhagjcmlaiiaaDoorPvB
set_option linter.unusedVariables false
set_option linter.unusedSimpArgs false
namespace Go.Pv

/-! The check of constants and operands -/
def okK1 : Value → PV → Bool
  | .int k n, .v (.int k' n') => k == k' && n == n'
  | .bool b, .v (.bool b') => b == b'
  | .string s, .v (.string t) => decide (s = t)
  | .slice none 0 0, .sl .full (some true) [] => true
  | .pointer none, .v (.pointer none) => true
  | .nilFunc, .v .nilFunc => true
  | .nilIface, .v .nilIface => true
  | .map none, .v (.map none) => true
  | _, _ => false
def okKL : List Value → List PV → Bool
  | [], [] => true
  | v :: l, p :: r => okK1 v p && okKL l r
  | _, _ => false
def okK : Value → PV → Bool
  | .agg cs, .agg ps => okKL cs.toList ps
  | v, p => okK1 v p
def okX : Operand → X → Bool
  | .tmp t, .t n => t == n
  | .const v, .k p => okK v p
  | .func f, .k (.v (.func (.func g) a b)) => f == g && a.size == 0 && b.size == 0
  | _, _ => false
def okXs : List Operand → List X → Bool
  | [], [] => true
  | o :: l, x :: r => okX o x && okXs l r
  | _, _ => false

def ConstOk (p : PV) (v : Value) : Prop := (∀ g w, Rr g w p v) ∧ (∀ e nl xs, p ≠ .sl (.sp e) nl xs) ∧ p.isLoc = false ∧ (∀ cs, p ≠ .tup cs)
theorem okK1_spec {v : Value} {p : PV} (h : okK1 v p = true) : ConstOk p v := by
  unfold okK1 at h
  split at h
  · simp at h; obtain ⟨rfl, rfl⟩ := h; exact ⟨fun _ _ => .v _, by simp, rfl, by simp⟩
  · simp at h; subst h; exact ⟨fun _ _ => .v _, by simp, rfl, by simp⟩
  · simp at h; subst h; exact ⟨fun _ _ => .v _, by simp, rfl, by simp⟩
  · exact ⟨fun _ _ => .nil (by simp) (by simp) (by simp) (by simp), by simp, rfl, by simp⟩
  · exact ⟨fun _ _ => .v _, by simp, rfl, by simp⟩
  · exact ⟨fun _ _ => .v _, by simp, rfl, by simp⟩
  · exact ⟨fun _ _ => .v _, by simp, rfl, by simp⟩
  · exact ⟨fun _ _ => .v _, by simp, rfl, by simp⟩
  · cases h
theorem okKL_spec : ∀ {l : List Value} {r : List PV}, okKL l r = true → r.length = l.length ∧ ∀ (j : Nat) (c : PV) (u : Value), r[j]? = some c → l[j]? = some u → ConstOk c u
  | [], [], _ => ⟨rfl, fun j c u h => by simp at h⟩
  | v :: l, p :: r, h => by
    simp only [okKL, Bool.and_eq_true] at h
    obtain ⟨h1, h2⟩ := okKL_spec h.2
    refine ⟨by simp [h1], fun j c u hc hu => ?_⟩
    cases j with
    | zero => simp at hc hu; subst hc; subst hu; exact okK1_spec h.1
    | succ j => exact h2 j c u (by simpa using hc) (by simpa using hu)
  | [], _ :: _, h => by simp [okKL] at h
  | _ :: _, [], h => by simp [okKL] at h
theorem okK_spec {v : Value} {p : PV} (h : okK v p = true) : ConstOk p v := by
  unfold okK at h
  split at h
  · rename_i cs ps
    obtain ⟨h1, h2⟩ := okKL_spec h
    exact ⟨fun g w => .agg (vs := cs.toList) h1 fun j c u hc hu => (h2 j c u hc hu).1 g w, by simp, rfl, by simp⟩
  · exact okK1_spec h

/-- What an operand holds. -/
def Rx (g : G) (w : World) : X → PV → Value → Prop
  | .t s, p, v => RSlot g w s p v
  | .k _, p, v => ConstOk p v
theorem Rx.rr {g : G} {w : World} {x : X} {p : PV} {v : Value} (h : Rx g w x p v) (hl : p.isLoc = false) : Rr g w p v := by
  cases x with
  | t s =>
    rcases h with ⟨d, o, rfl, _⟩ | ⟨h, _⟩
    · simp [PV.isLoc] at hl
    · exact h
  | k q => exact h.1 g w
theorem Rx.loc {g : G} {w : World} {x : X} {d o : Nat} {v : Value} (h : Rx g w x (.loc d o) v) : v = .pointer (some ⟨g.bx d, o, none⟩) := by
  cases x with
  | t s =>
    rcases h with ⟨d', o', h1, h2⟩ | ⟨h, _⟩
    · cases h1; exact h2
    · cases h
  | k q => simp [Rx, ConstOk, PV.isLoc] at h
theorem Rx.own {g : G} {w : World} {x : X} {p : PV} {v : Value} (h : Rx g w x p v) (hl : p.isLoc = false) {s : Nat} (hs : ∀ t, x = .t t → t = s) : OwnP g w (.slot s) p v := by
  cases x with
  | t t' =>
    obtain rfl := hs t' rfl
    rcases h with ⟨d, o, rfl, _⟩ | ⟨_, h⟩
    · simp [PV.isLoc] at hl
    · exact h
  | k q => exact ⟨fun e nl xs hc => absurd hc (h.2.1 e nl xs), fun cs vs hc => absurd hc (h.2.2.2 cs)⟩

theorem rx_of {g : G} {st : St} {a : Go.Act} {w : World} (h : Rel g st a w) {o : Operand} {x : X} (hok : okX o x = true) {p : PV} (hv : val st.env x = some p) : Rx g w x p (a.eval o) := by
  unfold okX at hok
  split at hok
  · rename_i t n
    simp at hok
    subst hok
    obtain ⟨v, h1, h2⟩ := h.slots t p hv
    show RSlot g w t p (a.eval (.tmp t))
    have : a.eval (.tmp t) = v := by simp [Act.eval, h1]
    rw [this]
    exact h2
  · simp [val] at hv
    subst hv
    exact okK_spec hok
  · rename_i f g' x y
    simp at hok
    obtain ⟨⟨rfl, h1⟩, h2⟩ := hok
    simp [val] at hv
    subst hv
    have hx : x = #[] := by simpa using h1
    have hy : y = #[] := by simpa using h2
    subst hx; subst hy
    exact ⟨fun _ _ => .v _, by simp, rfl, by simp⟩
  · cases hok

/-- Operands in a row. -/
def RxL (g : G) (w : World) : List X → List PV → List Value → Prop
  | [], [], [] => True
  | x :: xs, p :: ps, v :: vs => Rx g w x p v ∧ RxL g w xs ps vs
  | _, _, _ => False
theorem rxL_of {g : G} {st : St} {a : Go.Act} {w : World} (h : Rel g st a w) : ∀ {os : List Operand} {xs : List X}, okXs os xs = true → ∀ {l : List PV}, vals st.env xs = some l → RxL g w xs l (os.map a.eval)
  | [], [], _, l, hv => by simp [vals] at hv; subst hv; trivial
  | o :: os, x :: xs, hok, l, hv => by
    simp only [okXs, Bool.and_eq_true] at hok
    simp only [vals, Option.bind_eq_some_iff, Option.map_eq_some_iff] at hv
    obtain ⟨p, hp, r, hr, rfl⟩ := hv
    exact ⟨rx_of h hok.1 hp, rxL_of h hok.2 hr⟩
  | [], _ :: _, hok, _, _ => by simp [okXs] at hok
  | _ :: _, [], hok, _, _ => by simp [okXs] at hok

/-! Inversions -/
theorem Rr.inv_v {g : G} {w : World} {x v : Value} (h : Rr g w (.v x) v) : v = x := by cases h; rfl
theorem Rr.inv_agg {g : G} {w : World} {cs : List PV} {v : Value} (h : Rr g w (.agg cs) v) : ∃ vs : List Value, v = .agg vs.toArray ∧ cs.length = vs.length ∧ ∀ (j : Nat) (c : PV) (u : Value), cs[j]? = some c → vs[j]? = some u → Rr g w c u := by
  cases h with | agg h1 h2 => exact ⟨_, rfl, h1, h2⟩
theorem Rr.inv_tup {g : G} {w : World} {cs : List PV} {v : Value} (h : Rr g w (.tup cs) v) : ∃ vs : List Value, v = .tuple vs.toArray ∧ cs.length = vs.length ∧ ∀ (j : Nat) (c : PV) (u : Value), cs[j]? = some c → vs[j]? = some u → Rr g w c u := by
  cases h with | tup h1 h2 => exact ⟨_, rfl, h1, h2⟩
/-- The elements xs lie at b, o. -/
structure At (g : G) (w : World) (xs : List PV) (b o sz : Nat) : Prop where
  fill : o + xs.length * sz ≤ g.fill b
  size : ∀ (i : Nat) (p : PV), xs[i]? = some p → p.cells.length = sz ∧ p.cells.all PV.leaf = true
  cell : ∀ (i j : Nat) (p c : PV), xs[i]? = some p → p.cells[j]? = some c → ∃ u, w.cell? ⟨b, o + i * sz + j, none⟩ = some u ∧ Rr g w c u
theorem Rr.inv_sl {g : G} {w : World} {m : Own} {nl : Option Bool} {xs : List PV} {v : Value} (h : Rr g w (.sl m nl xs) v) :
    ∃ A cap, v = .slice A xs.length cap ∧ xs.length ≤ cap ∧ (∀ b, nl = some b → A.isNone = b) ∧ (A = none → cap = 0) ∧ (m = .full → cap = xs.length) ∧ (∀ ad, A = some ad → ad.spot = none) ∧
      (xs ≠ [] → ∃ b o sz, A = some ⟨b, o, none⟩ ∧ At g w xs b o sz) := by
  cases h with
  | @nil _ _ A cap h1 h2 h3 h4 => exact ⟨A, cap, rfl, by simp, h1, h2, h3, h4, fun h => absurd rfl h⟩
  | @sl _ _ _ b o cap sz u h1 h2 h3 h4 h5 h6 h7 h8 =>
    refine ⟨_, cap, rfl, h3, fun b' hb => ?_, by simp, h4, by rintro ad ⟨⟩; rfl, fun _ => ⟨b, o, sz, rfl, h5, h6, fun i j p c hp hc => ⟨_, h7 i j p c hp hc, h8 i j p c hp hc⟩⟩⟩
    cases b' with
    | true => exact absurd hb h2
    | false => rfl
theorem Rr.mk_sl {g : G} {w : World} {m : Own} {nl : Option Bool} {xs : List PV} {A : Option Addr} {cap : Nat} (h0 : xs.length ≤ cap) (h1 : ∀ b, nl = some b → A.isNone = b) (h2 : A = none → cap = 0) (h3 : m = .full → cap = xs.length)
    (h4 : ∀ ad, A = some ad → ad.spot = none) (h5 : xs ≠ [] → ∃ b o sz, A = some ⟨b, o, none⟩ ∧ At g w xs b o sz) : Rr g w (.sl m nl xs) (.slice A xs.length cap) := by
  by_cases hx : xs = []
  · subst hx; exact .nil h1 h2 (by simpa using h3) h4
  · obtain ⟨b, o, sz, rfl, hat⟩ := h5 hx
    have hu : ∀ i j : Nat, ∃ u, ∀ p c, xs[i]? = some p → p.cells[j]? = some c → w.cell? ⟨b, o + i * sz + j, none⟩ = some u ∧ Rr g w c u := by
      intro i j
      by_cases he : ∃ p c, xs[i]? = some p ∧ p.cells[j]? = some c
      · obtain ⟨p, c, hp, hc⟩ := he
        obtain ⟨u, h⟩ := hat.cell i j p c hp hc
        refine ⟨u, fun p' c' hp' hc' => ?_⟩
        rw [hp] at hp'
        cases hp'
        rw [hc] at hc'
        cases hc'
        exact h
      · exact ⟨default, fun p c hp hc => absurd ⟨p, c, hp, hc⟩ he⟩
    have hu' : ∃ u : Nat → Nat → Value, ∀ i j p c, xs[i]? = some p → p.cells[j]? = some c → w.cell? ⟨b, o + i * sz + j, none⟩ = some (u i j) ∧ Rr g w c (u i j) :=
      ⟨fun i j => Classical.choose (hu i j), fun i j p c hp hc => Classical.choose_spec (hu i j) p c hp hc⟩
    obtain ⟨u, hu⟩ := hu'
    exact .sl (u := u) hx (fun h => by simpa using h1 true h) h0 h3 hat.fill hat.size (fun i j p c hp hc => (hu i j p c hp hc).1) (fun i j p c hp hc => (hu i j p c hp hc).2)
theorem Rr.inv_el {g : G} {w : World} {cs : List PV} {off : Nat} {v : Value} (h : Rr g w (.el cs off) v) : ∃ b o, v = .pointer (some ⟨b, o + off, none⟩) ∧ o + cs.length ≤ g.fill b ∧
    ∀ (j : Nat) (c : PV), cs[j]? = some c → ∃ u, w.cell? ⟨b, o + j, none⟩ = some u ∧ Rr g w c u := by
  cases h with | @el _ _ b o u h1 h2 h3 => exact ⟨b, o, rfl, h1, fun j c hc => ⟨_, h2 j c hc, h3 j c hc⟩⟩
theorem Rr.mk_el {g : G} {w : World} {cs : List PV} {off b o : Nat} (h1 : o + cs.length ≤ g.fill b) (h2 : ∀ (j : Nat) (c : PV), cs[j]? = some c → ∃ u, w.cell? ⟨b, o + j, none⟩ = some u ∧ Rr g w c u) :
    Rr g w (.el cs off) (.pointer (some ⟨b, o + off, none⟩)) := by
  have hu : ∀ j : Nat, ∃ u, ∀ c, cs[j]? = some c → w.cell? ⟨b, o + j, none⟩ = some u ∧ Rr g w c u := by
    intro j
    cases hj : cs[j]? with
    | none => exact ⟨default, fun c hc => by cases hc⟩
    | some c => obtain ⟨u, h⟩ := h2 j c hj; exact ⟨u, fun c' hc' => by cases hc'; exact h⟩
  exact .el (u := fun j => Classical.choose (hu j)) h1 (fun j c hc => (Classical.choose_spec (hu j) c hc).1) (fun j c hc => (Classical.choose_spec (hu j) c hc).2)
theorem Rr.inv_os {g : G} {w : World} {i o n : Nat} {v : Value} (h : Rr g w (.os i o n) v) : i < g.n ∧ ∃ cap, v = .slice (some ⟨g.mu i, o, none⟩) n cap := by
  cases h with | os h => exact ⟨h, _, rfl⟩
theorem Rr.inv_ptr {g : G} {w : World} {i o : Nat} {v : Value} (h : Rr g w (.ptr i o) v) : i < g.n ∧ v = .pointer (some ⟨g.mu i, o, none⟩) := by
  cases h with | ptr h => exact ⟨h, rfl⟩
theorem Rr.inv_clo {g : G} {w : World} {f : FuncId} {a b : List PV} {v : Value} (h : Rr g w (.clo f a b) v) : ∃ vs us : List Value, v = .func (.func f) vs.toArray us.toArray ∧ a.length = vs.length ∧ b.length = us.length ∧
    (∀ (j : Nat) (c : PV) (u : Value), a[j]? = some c → vs[j]? = some u → Rr g w c u) ∧ (∀ (j : Nat) (c : PV) (u : Value), b[j]? = some c → us[j]? = some u → Rr g w c u) := by
  cases h with | clo h1 h2 h3 h4 => exact ⟨_, _, rfl, h1, h2, h3, h4⟩

/-! Weaker readings: the same value -/
theorem Rr.notLoc {g : G} {w : World} {p : PV} {v : Value} (h : Rr g w p v) : p.isLoc = false := by cases h <;> rfl
theorem Rr.weakSl {g : G} {w : World} {m m0 : Own} {nl nl0 : Option Bool} {xs : List PV} {v : Value} (h : Rr g w (.sl m nl xs) v) (hm : m0 = .full → m = .full) (hn : ∀ b, nl0 = some b → nl = some b) : Rr g w (.sl m0 nl0 xs) v := by
  obtain ⟨A, cap, rfl, h0, h1, h2, h3, h4, h5⟩ := h.inv_sl
  exact .mk_sl h0 (fun b hb => h1 b (hn b hb)) h2 (fun hf => h3 (hm hf)) h4 h5
theorem Rr.roLeaf {g : G} {w : World} {p : PV} {v : Value} (h : Rr g w p v) : Rr g w p.roLeaf v := by
  unfold PV.roLeaf
  split
  · exact h.weakSl (by simp) (fun _ h => h)
  · exact h
theorem Rr.mapL {g : G} {w : World} {f : PV → PV} (hf : ∀ p v, Rr g w p v → Rr g w (f p) v) {cs : List PV} {vs : List Value} (h : ∀ (j : Nat) (c : PV) (u : Value), cs[j]? = some c → vs[j]? = some u → Rr g w c u) :
    ∀ (j : Nat) (c : PV) (u : Value), (cs.map f)[j]? = some c → vs[j]? = some u → Rr g w c u := by
  intro j c u hc hu
  simp only [List.getElem?_map, Option.map_eq_some_iff] at hc
  obtain ⟨c', hc', rfl⟩ := hc
  exact hf _ _ (h j c' u hc' hu)
theorem Rr.ro1 {g : G} {w : World} {p : PV} {v : Value} (h : Rr g w p v) : Rr g w p.ro1 v := by
  unfold PV.ro1
  split
  · obtain ⟨vs, rfl, h1, h2⟩ := h.inv_agg
    exact .agg (by simpa using h1) (Rr.mapL (fun _ _ h => h.roLeaf) h2)
  · exact h.roLeaf
theorem Rr.ro {g : G} {w : World} {p : PV} {v : Value} (h : Rr g w p v) : Rr g w p.ro v := by
  unfold PV.ro
  split
  · obtain ⟨vs, rfl, h1, h2⟩ := h.inv_tup
    exact .tup (by simpa using h1) (Rr.mapL (fun _ _ h => h.ro1) h2)
  · exact h.ro1
theorem Rr.normLeaf {g : G} {w : World} {p : PV} {v : Value} (h : Rr g w p v) : Rr g w p.normLeaf v := by
  unfold PV.normLeaf
  split
  · exact h.weakSl (by simp) (by simp)
  · exact h
theorem Rr.norm {g : G} {w : World} {p : PV} {v : Value} (h : Rr g w p v) : Rr g w p.norm v := by
  unfold PV.norm
  split
  · obtain ⟨vs, rfl, h1, h2⟩ := h.inv_agg
    exact .agg (by simpa using h1) (Rr.mapL (fun _ _ h => h.normLeaf) h2)
  · exact h.normLeaf
theorem roLeaf_own {p : PV} {e : Nat} {nl : Option Bool} {xs : List PV} : p.roLeaf ≠ .sl (.sp e) nl xs := by
  cases p with
  | sl m nl' xs' => cases m <;> simp [PV.roLeaf]
  | _ => simp [PV.roLeaf]
theorem ro1_own {p : PV} {e : Nat} {nl : Option Bool} {xs : List PV} : p.ro1 ≠ .sl (.sp e) nl xs := by
  cases p <;> simp only [PV.ro1] <;> first | exact roLeaf_own | simp
theorem normLeaf_own {p : PV} {e : Nat} {nl : Option Bool} {xs : List PV} : p.normLeaf ≠ .sl (.sp e) nl xs := by
  cases p <;> simp [PV.normLeaf]
theorem norm_own {p : PV} {e : Nat} {nl : Option Bool} {xs : List PV} : p.norm ≠ .sl (.sp e) nl xs := by
  cases p <;> simp [PV.norm, PV.normLeaf]
theorem Own1.of_ne {g : G} {w : World} {q : Pos} {j : Nat} {p : PV} {v : Value} (h : ∀ e nl xs, p ≠ .sl (.sp e) nl xs) : Own1 g w q j p v := fun e nl xs hc => absurd hc (h e nl xs)
theorem ro_ownP {g : G} {w : World} {q : Pos} {p : PV} {v : Value} : OwnP g w q p.ro v := by
  refine ⟨.of_ne fun e nl xs => ?_, fun cs vs hc _ j x y hx _ => ?_⟩
  · cases p <;> simp only [PV.ro] <;> first | exact ro1_own | simp
  · cases p with
    | tup ds =>
      simp only [PV.ro, PV.tup.injEq] at hc
      subst hc
      simp only [List.getElem?_map, Option.map_eq_some_iff] at hx
      obtain ⟨c, _, rfl⟩ := hx
      exact .of_ne fun e nl xs => ro1_own
    | agg ds => simp [PV.ro, PV.ro1] at hc
    | sl m nl xs => cases m <;> simp [PV.ro, PV.ro1, PV.roLeaf] at hc
    | _ => simp [PV.ro, PV.ro1, PV.roLeaf] at hc
theorem ownP_of {g : G} {w : World} {q : Pos} {p : PV} {v : Value} (h1 : ∀ e nl xs, p ≠ .sl (.sp e) nl xs) (h2 : ∀ cs, p ≠ .tup cs) : OwnP g w q p v :=
  ⟨.of_ne h1, fun cs _ hc => absurd hc (h2 cs)⟩

/-! Memory, cell by cell -/
section
variable {P : Program}
theorem add_plain (b o n : Nat) : (⟨b, o, none⟩ : Addr).add n = ⟨b, o + n, none⟩ := by unfold Addr.add; split <;> simp_all
/-- Cells us lie at b, o. -/
def Lies (w : World) (b o : Nat) (us : List Value) : Prop := ∀ (j : Nat) (u : Value), us[j]? = some u → w.cell? ⟨b, o + j, none⟩ = some u
theorem run_loadCells_lies {w : World} {b o : Nat} {us : List Value} (h : Lies w b o us) : (loadCells ⟨b, o, none⟩ us.length).run P w = .ok us.toArray w :=
  run_loadCells_list w _ us fun j v hv => by rw [add_plain]; exact h j v hv
theorem lies_of {w : World} {b o n : Nat} {cs : List PV} {R : PV → Value → Prop} (hl : cs.length = n) (h : ∀ (j : Nat) (c : PV), cs[j]? = some c → ∃ u, w.cell? ⟨b, o + j, none⟩ = some u ∧ R c u) :
    ∃ us : List Value, us.length = n ∧ Lies w b o us ∧ ∀ (j : Nat) (c : PV) (u : Value), cs[j]? = some c → us[j]? = some u → R c u := by
  induction cs generalizing n o with
  | nil => exact ⟨[], by simpa using hl, fun j u h => by simp at h, fun j c u h => by simp at h⟩
  | cons c cs ih =>
    obtain ⟨u, hu, hr⟩ := h 0 c rfl
    obtain ⟨us, h1, h2, h3⟩ := ih (o := o + 1) rfl (fun j c' hc => by
      have := h (j + 1) c' (by simpa using hc)
      rwa [show o + (j + 1) = o + 1 + j by omega] at this)
    refine ⟨u :: us, by simpa [h1] using hl, fun j v hv => ?_, fun j c' v hc hv => ?_⟩
    · cases j with
      | zero => simp at hv; subst hv; exact hu
      | succ j => rw [show o + (j + 1) = o + 1 + j by omega]; exact h2 j v (by simpa using hv)
    · cases j with
      | zero => simp at hc hv; subst hc; subst hv; exact hr
      | succ j => exact h3 j c' v (by simpa using hc) (by simpa using hv)
/-- A variable of type t: so many cells, a struct (or an array), or one value. -/
def varIs (P : Program) (t n : Nat) (agg : Bool) : Bool :=
  (match P.info? t with | some i => i.size == n | none => false) &&
  (match P.underlying t with | some (.struct _) | some (.array _ _) => agg | some _ => !agg && n == 1 | none => false)
theorem varIs_size {t n : Nat} {agg : Bool} (h : varIs P t n agg = true) (w : World) : (Go.sizeOf t).run P w = .ok n w := by
  simp only [varIs, Bool.and_eq_true] at h
  obtain ⟨h1, _⟩ := h
  cases hi : P.info? t with
  | none => simp [hi] at h1
  | some i => simp [hi] at h1; subst h1; simp [Go.sizeOf, typeInfo, hi]
theorem varIs_agg {t n : Nat} {agg : Bool} (h : varIs P t n agg = true) (w : World) : (isAgg t).run P w = .ok agg w ∧ (agg = false → n = 1) := by
  simp only [varIs, Bool.and_eq_true] at h
  obtain ⟨_, h2⟩ := h
  split at h2
  · rename_i hu; subst h2; simp [isAgg, Go.underlying, hu]
  · rename_i hu; subst h2; simp [isAgg, Go.underlying, hu]
  · rename_i d hu1 hu2 hu
    simp at h2
    obtain ⟨rfl, rfl⟩ := h2
    refine ⟨?_, fun _ => rfl⟩
    cases d <;> simp_all [isAgg, Go.underlying]
  · cases h2
def wholeV (agg : Bool) (us : List Value) : Value := if agg then .agg us.toArray else us.headD default
theorem run_loadVar {w : World} {t n : Nat} {agg : Bool} (h : varIs P t n agg = true) {b o : Nat} {us : List Value} (hl : us.length = n) (hu : Lies w b o us) : (loadVar t ⟨b, o, none⟩).run P w = .ok (wholeV agg us) w := by
  obtain ⟨h1, h2⟩ := varIs_agg h w
  have h3 := varIs_size h w
  subst hl
  cases agg with
  | true => simp [loadVar, h1, h3, run_loadCells_lies hu, wholeV]
  | false =>
    obtain ⟨u, rfl⟩ : ∃ u, us = [u] := List.length_eq_one_iff.1 (h2 rfl)
    have := hu 0 u rfl
    simp only [Nat.add_zero] at this
    simp [loadVar, h1, wholeV, this]
theorem one_rr {g : G} {w : World} {agg : Bool} {cs : List PV} {us : List Value} {p : PV} (hl : cs.length = us.length) (h : one agg cs = some p) (hr : ∀ (j : Nat) (c : PV) (u : Value), cs[j]? = some c → us[j]? = some u → Rr g w c u) :
    Rr g w p (wholeV agg us) := by
  unfold one at h
  cases agg with
  | true => simp at h; subst h; exact .agg hl hr
  | false =>
    match cs, us, hl with
    | [c], [u], _ => simp at h; subst h; exact hr 0 c u rfl rfl
    | [], _, _ => simp at h
    | _ :: _ :: _, _, _ => simp at h
end
end Go.Pv
