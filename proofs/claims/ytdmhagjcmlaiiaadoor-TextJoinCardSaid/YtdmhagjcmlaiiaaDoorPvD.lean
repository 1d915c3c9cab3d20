/- Pv, part D: each pure operation of the abstract machine is carried out by the model's. -/
import Derived.Test.YtdmhagjcmlaiiaaDoorPvC
import Derived.WalkLawsBesides
set_option linter.unusedVariables false
set_option linter.unusedSimpArgs false
namespace Go.Pv
section
variable {P : Program}

/-- What an operation must do: run to a value in a world that goes on from w. -/
def Does (P : Program) (o : Oper) (a : Go.Act) (w : World) (g : G) (st : St) (K : List Nat) (p : PV) : Prop :=
  ∃ v w' g', (execOp a.eval o).run P w = .ok (.value v) w' ∧ Keep (· ∈ K) g w g' w' ∧ (∀ d, o.dst = some d → RSlot g' w' d p v) ∧ (∀ d' o', p = .loc d' o' → ∃ c, st.box d' = some c)

theorem Does.same {o : Oper} {a : Go.Act} {w : World} {g : G} {st : St} {K : List Nat} {p : PV} {v : Value} (hr : (execOp a.eval o).run P w = .ok (.value v) w) (h : Rr g w p v) (ho : ∀ q, OwnP g w q p v) : Does P o a w g st K p :=
  ⟨v, w, g, hr, .refl _ _ _, fun d _ => .inr ⟨h, ho _⟩, fun d' o' hp => by subst hp; exact absurd h.notLoc (by simp [PV.isLoc])⟩
theorem Does.val {o : Oper} {a : Go.Act} {w : World} {g : G} {st : St} {K : List Nat} {x : Value} (hr : (execOp a.eval o).run P w = .ok (.value x) w) : Does P o a w g st K (.v x) :=
  .same hr (.v x) fun _ => ownP_of (by simp) (by simp)

/-! Claims handed on -/
def G.re (g : G) (f : Cl → Cl) : G := { g with cl := fun b => f (g.cl b) }
theorem keep_re {K : Nat → Prop} {g : G} {w : World} {f : Cl → Cl} (hf : ∀ c, (∀ s j, c = .row (.slot s) j → ¬ K s) → f c = c) (hr : ∀ s j, f (.row (.slot s) j) ≠ .out) : Keep K g w (g.re f) w := by
  have fix : ∀ c, (∀ s j, c ≠ .row (.slot s) j) → f c = c := fun c hc => hf c fun s j h => absurd h (hc s j)
  refine ⟨⟨⟨fun _ => Nat.le_refl _, fun _ _ _ => rfl, Nat.le_refl _, fun _ _ => rfl⟩, rfl, rfl, rfl, Nat.le_refl _, fun b hb _ => ⟨rfl, ?_, rfl⟩, fun b hb => ?_⟩, fun b p j h hp => ⟨?_, rfl, rfl⟩, fun b d h => ⟨?_, rfl, rfl⟩,
    fun b i h => ⟨?_, rfl, rfl⟩, rfl, rfl, rfl, fun h => h, fun h b hb => ⟨?_, (h b hb).2⟩⟩
  · show f (g.cl b) = _; rw [hb]; exact fix _ (by simp)
  · have hb' : f (g.cl b) = .out := hb
    by_cases hs : ∃ s j, g.cl b = .row (.slot s) j
    · obtain ⟨s, j, h⟩ := hs
      rw [h] at hb'
      exact absurd hb' (hr s j)
    · rw [fix _ fun s j h => hs ⟨s, j, h⟩] at hb'
      exact hb'
  · show f (g.cl b) = _
    rw [h]
    exact hf _ fun s j' hh => by cases hh; exact hp s rfl
  · show f (g.cl b) = _; rw [h]; exact fix _ (by simp)
  · show f (g.cl b) = _; rw [h]; exact fix _ (by simp)
  · show f (g.cl b) = _; rw [(h b hb).1]; exact fix _ (by simp)
theorem Rr.re {g : G} {w : World} {f : Cl → Cl} {p : PV} {v : Value} (h : Rr g w p v) : Rr (g.re f) w p v :=
  Rr.mono (g := g) (w := w) (g' := g.re f) (w' := w) ⟨fun _ => Nat.le_refl _, fun _ _ _ => rfl, Nat.le_refl _, fun _ _ => rfl⟩ h
theorem Own1.re {g : G} {w : World} {f : Cl → Cl} {q q' : Pos} {j j' : Nat} (hf : f (.row q j) = .row q' j') {p : PV} {v : Value} (h : Own1 g w q j p v) : Own1 (g.re f) w q' j' p v := by
  intro e nl xs hc
  obtain ⟨A, cap, hu, h | ⟨b, o, vs, ty, hA, hcl, hf', hh, hs⟩⟩ := h e nl xs hc
  · exact ⟨A, cap, hu, .inl h⟩
  · exact ⟨A, cap, hu, .inr ⟨b, o, vs, ty, hA, by show f (g.cl b) = _; rw [hcl]; exact hf, hf', hh, hs⟩⟩
/-- From slot s to slot d, whole. -/
def moveS (s d : Nat) : Cl → Cl
  | .row (.slot t) j => if t = s then .row (.slot d) j else .row (.slot t) j
  | c => c
/-- From part i of slot s to slot d. -/
def moveP (s i d : Nat) : Cl → Cl
  | .row (.slot t) j => if t = s ∧ j = i then .row (.slot d) 0 else .row (.slot t) j
  | c => c
theorem keep_moveS {K : List Nat} {g : G} {w : World} {s d : Nat} (h : s ∈ K) : Keep (· ∈ K) g w (g.re (moveS s d)) w := by
  refine keep_re (fun c hc => ?_) (fun t j => ?_)
  · unfold moveS
    split
    · rename_i t j
      rw [if_neg]
      rintro rfl
      exact hc t j rfl h
    · rfl
  · simp only [moveS]; split <;> simp
theorem keep_moveP {K : List Nat} {g : G} {w : World} {s i d : Nat} (h : s ∈ K) : Keep (· ∈ K) g w (g.re (moveP s i d)) w := by
  refine keep_re (fun c hc => ?_) (fun t j => ?_)
  · unfold moveP
    split
    · rename_i t j
      rw [if_neg]
      rintro ⟨rfl, rfl⟩
      exact hc t j rfl h
    · rfl
  · simp only [moveP]; split <;> simp

/-! A new block -/
def G.new (g : G) (k f : Nat) (c : Cl) : G := { g with fill := fun b => if b = k then f else g.fill b, cl := fun b => if b = k then c else g.cl b }
structure NewBlock (w w' : World) (o : Obj) : Prop where
  heap : w'.heap = w.heap.push o
  os : w'.os = w.os
  tape : w'.tape = w.tape
  output : w'.output = w.output
theorem NewBlock.old {w w' : World} {o : Obj} (h : NewBlock w w' o) {b : Nat} (hb : b < w.heap.size) : w'.heap[b]? = w.heap[b]? := by
  rw [h.heap, Array.getElem?_push, if_neg (by omega)]
theorem NewBlock.at_ {w w' : World} {o : Obj} (h : NewBlock w w' o) : w'.heap[w.heap.size]? = some o := by rw [h.heap]; simp
theorem NewBlock.size {w w' : World} {o : Obj} (h : NewBlock w w' o) : w'.heap.size = w.heap.size + 1 := by rw [h.heap]; simp
theorem cell_of_heap {w w' : World} {b i : Nat} (h : w'.heap[b]? = w.heap[b]?) : w'.cell? ⟨b, i, none⟩ = w.cell? ⟨b, i, none⟩ := by simp only [World.cell?, h]
theorem keep_new {K : Nat → Prop} {g : G} {w w' : World} {vs : Array Value} {ty : TypeId} {fz : Nat × Nat} (hn : NewBlock w w' (.cells vs ty fz)) {f : Nat} {c : Cl} (hf : f ≤ vs.size) (hc : c ≠ .out)
    (hgw : ∀ b, 0 < g.fill b → ∃ vs ty fr, w.heap[b]? = some (.cells vs ty fr) ∧ g.fill b ≤ vs.size) (hfr : ∀ b, w.heap.size ≤ b → g.cl b = .free ∧ g.fill b = 0) : Keep K g w (g.new w.heap.size f c) w' := by
  have hk := hfr w.heap.size (Nat.le_refl _)
  have lt_of : ∀ b, g.cl b ≠ .free → b < w.heap.size := fun b hb => by
    rcases Nat.lt_or_ge b w.heap.size with h | h
    · exact h
    · exact absurd (hfr b h).1 hb
  have same : ∀ b, b < w.heap.size → (g.new w.heap.size f c).cl b = g.cl b ∧ (g.new w.heap.size f c).fill b = g.fill b ∧ w'.heap[b]? = w.heap[b]? := fun b hb =>
    ⟨by simp [G.new, Nat.ne_of_lt hb], by simp [G.new, Nat.ne_of_lt hb], hn.old hb⟩
  refine ⟨⟨⟨fun b => ?_, fun b i hi => ?_, Nat.le_refl _, fun _ _ => rfl⟩, hn.os, hn.tape, hn.output, by rw [hn.size]; omega, fun b hb hl => ?_, fun b hb => ?_⟩, fun b p j h _ => ?_, fun b d h => ?_, fun b i h => ?_, rfl, rfl, rfl, fun _ b hb => ?_, fun _ b hb => ?_⟩
  · by_cases hb : b = w.heap.size
    · subst hb; rw [hk.2]; exact Nat.zero_le _
    · simp [G.new, hb]
  · have hb : b < w.heap.size := by
      rcases Nat.lt_or_ge b w.heap.size with h | h
      · exact h
      · rw [(hfr b h).2] at hi; omega
    exact cell_of_heap (hn.old hb)
  · obtain ⟨h1, h2, h3⟩ := same b hl
    exact ⟨h3, h1.trans hb, h2⟩
  · by_cases he : b = w.heap.size
    · subst he; simp [G.new] at hb; exact absurd hb hc
    · simpa [G.new, he] using hb
  · obtain ⟨h1, h2, h3⟩ := same b (lt_of b (by simp [h]))
    exact ⟨h1.trans h, h2, h3⟩
  · obtain ⟨h1, h2, h3⟩ := same b (lt_of b (by simp [h]))
    exact ⟨h1.trans h, h2, h3⟩
  · obtain ⟨h1, h2, h3⟩ := same b (lt_of b (by simp [h]))
    exact ⟨h1.trans h, h2, h3⟩
  · by_cases he : b = w.heap.size
    · subst he; exact ⟨vs, ty, fz, hn.at_, by simp [G.new]; exact hf⟩
    · simp only [G.new, he, if_false] at hb ⊢
      obtain ⟨vs', ty', fr', h1, h2⟩ := hgw b hb
      have hb' : b < w.heap.size := (Array.getElem?_eq_some_iff.1 h1).1
      exact ⟨vs', ty', fr', (hn.old hb').trans h1, h2⟩
  · rw [hn.size] at hb
    have hne : b ≠ w.heap.size := by omega
    simp only [G.new, hne, if_false]
    exact hfr b (by omega)

/-! The check -/
def underIs (P : Program) (t : TypeId) (f : TypeDesc → Bool) : Bool := match P.underlying t with | some d => f d | none => false
def isStr : TypeDesc → Bool | .string => true | _ => false
def isBool : TypeDesc → Bool | .bool => true | _ => false
def isInt (k : IntKind) : TypeDesc → Bool | .int k' => k == k' | _ => false
def isSl (f : TypeId → Bool) : TypeDesc → Bool | .slice e => f e | _ => false
theorem underIs_spec {t : TypeId} {f : TypeDesc → Bool} (h : underIs P t f = true) : ∃ d, P.underlying t = some d ∧ f d = true := by
  unfold underIs at h
  split at h
  · rename_i d hd; exact ⟨d, hd, h⟩
  · cases h
theorem isStr_spec {t : TypeId} (h : underIs P t isStr = true) : P.underlying t = some .string := by
  obtain ⟨d, h1, h2⟩ := underIs_spec h; cases d <;> simp_all [isStr]
theorem isBool_spec {t : TypeId} (h : underIs P t isBool = true) : P.underlying t = some .bool := by
  obtain ⟨d, h1, h2⟩ := underIs_spec h; cases d <;> simp_all [isBool]
theorem isInt_spec {t : TypeId} {k : IntKind} (h : underIs P t (isInt k) = true) : P.underlying t = some (.int k) := by
  obtain ⟨d, h1, h2⟩ := underIs_spec h; cases d <;> simp_all [isInt]
theorem isSl_spec {t : TypeId} {f : TypeId → Bool} (h : underIs P t (isSl f) = true) : ∃ e, P.underlying t = some (.slice e) ∧ f e = true := by
  obtain ⟨d, h1, h2⟩ := underIs_spec h; cases d <;> simp_all [isSl]
def sizeIs (P : Program) (t n : Nat) : Bool := match P.info? t with | some i => i.size == n | none => false
theorem sizeIs_spec {t n : Nat} (h : sizeIs P t n = true) : (∃ i, P.info? t = some i ∧ i.size = n) ∧ ∀ w, (Go.sizeOf t).run P w = .ok n w := by
  unfold sizeIs at h
  split at h
  · rename_i i hi; simp at h; exact ⟨⟨i, hi, h⟩, fun w => by simp [Go.sizeOf, typeInfo, hi, h]⟩
  · cases h
/-- The element type: so many cells, so many bytes, a zero value of that many cells. -/
def elemIs (P : Program) (t n bytes : Nat) : Bool := match P.info? t with | some i => i.size == n && i.bytes == bytes && (match i.zero with | some z => z.cells.size == n | none => false) | none => false
theorem elemIs_spec {t n bytes : Nat} (h : elemIs P t n bytes = true) : ∃ i z, P.info? t = some i ∧ i.zero = some z ∧ i.size = n ∧ i.bytes = bytes ∧ z.cells.size = n := by
  unfold elemIs at h
  split at h
  · rename_i i hi
    simp at h
    obtain ⟨⟨h1, h2⟩, h3⟩ := h
    cases hz : i.zero with
    | none => simp [hz] at h3
    | some z => exact ⟨i, z, hi, hz, h1, h2, by simpa [hz] using h3⟩
  · cases h
def zeroIs (P : Program) (t : TypeId) (zero : List PV) : Bool := match P.info? t with | some i => (match i.zero with | some z => okKL z.cells.toList zero | none => false) | none => false
theorem zeroIs_spec {t : TypeId} {zero : List PV} (h : zeroIs P t zero = true) : ∃ z : Value, (∀ w, (zeroValue t).run P w = .ok z w) ∧ zero.length = z.cells.size ∧ ∀ (j : Nat) (c : PV) (u : Value), zero[j]? = some c → z.cells[j]? = some u → ConstOk c u := by
  unfold zeroIs at h
  split at h
  · rename_i i hi
    split at h
    · rename_i z hz
      obtain ⟨h1, h2⟩ := okKL_spec h
      exact ⟨z, fun w => by simp [zeroValue, typeInfo, hi, hz], by simpa using h1, fun j c u hc hu => h2 j c u hc (by simpa using hu)⟩
    · cases h
  · cases h
def optTmp : Option Operand → List Operand
  | some x => [x]
  | none => []
def placeFn (P : Program) (t : TypeId) : Option (Nat → Option (Nat × Nat)) :=
  match P.underlying t with
  | some (.array _ e) => (P.info? e).map fun ie i => some (i * ie.size, ie.size)
  | some (.struct fields) => (fields.toList.mapM (fun f => (P.info? f.type).map fun i => (f.offset, i.size))).map fun places i => places.toArray[i]?
  | _ => none
def partsOk : List (Nat × Operand) → List (Nat × Nat) → (Nat → Option (Nat × Nat)) → Bool
  | [], [], _ => true
  | (i, _) :: l, x :: r, f => f i == some x && partsOk l r f
  | _, _, _ => false
def idxs : Nat → List (Nat × Operand) → Bool
  | _, [] => true
  | k, (i, _) :: l => i == k && idxs (k + 1) l

def okA (P : Program) (op : Op) (act : Act) (ins : List X) : Bool :=
  match op, act with
  | .move x, .mv | .assign x, .mv | .move x, .mvx | .assign x, .mvx => okXs [x] ins
  | .pick c x y, .pick => okXs [c, x, y] ins
  | .fieldAddr s x f, .fa off => okXs [x] ins && underIs P s fun | .struct fs => (match fs[f]? with | some fd => fd.offset == off && (match P.info? fd.type with | some i => i.size != 0 | none => false) | none => false) | _ => false
  | .indexAddr t x i, .ia e => okXs [x, i] ins && underIs P t (isSl fun el => sizeIs P el e)
  | .load t x, .ldel n agg => okXs [x] ins && varIs P t n agg
  | .index t x i, .ix => okXs [x, i] ins && underIs P t isStr
  | .binOp op _ x y _, .bin op' => okXs [x, y] ins && op == op'
  | .binOp .eql t x y _, .eqb false | .binOp .neq t x y _, .eqb true => okXs [x, y] ins && underIs P t isBool
  | .binOp .eql t x y _, .isnil false | .binOp .neq t x y _, .isnil true => okXs [x, y] ins && underIs P t (isSl fun _ => true)
  | .unOp op _ x, .un op' => okXs [x] ins && op == op'
  | .convert s d x, .cvi k => okXs [x] ins && (P.underlying s).isSome && underIs P d (isInt k)
  | .convert s d x, .cvs => okXs [x] ins && (P.underlying s).isSome && underIs P d isStr
  | .convert s d x, .s2b => okXs [x] ins && (P.underlying s).isSome && underIs P d (isSl fun e => underIs P e (isInt .u8) && sizeIs P e 1)
  | .convert s d x, .b2s => okXs [x] ins && underIs P d isStr && underIs P s (isSl fun e => underIs P e (isInt .u8))
  | .build t parts, .build zero ps => okXs (parts.toList.map (·.2)) ins && zeroIs P t zero && (match placeFn P t with | some f => partsOk parts.toList ps f | none => false)
  | .buildSlice t len parts, .bsl e => okXs (parts.toList.map (·.2)) ins && len == parts.size && idxs 0 parts.toList && decide (len * e ≤ 16777216) && decide (0 < e) &&
      underIs P t (isSl fun el => match P.info? el with | some i => i.size == e && (match i.zero with | some z => z.cells.size == e | none => false) | none => false)
  | .call { callee := .builtin .len, args, argTypes }, .len => okXs args.toList ins && (match argTypes.toList with | [t] => underIs P t (isSl fun _ => true) | _ => false)
  | .call { callee := .builtin .len, args, argTypes }, .slen => okXs args.toList ins && (match argTypes.toList with | [t] => underIs P t isStr | _ => false)
  | .call { callee := .builtin .max, args, .. }, .mx | .call { callee := .builtin .min, args, .. }, .mn => okXs args.toList ins
  | .call { callee := .builtin .append, args, argTypes }, .app e bytes => okXs args.toList ins && (match argTypes.toList with
      | [t, u] => underIs P t (isSl fun el => elemIs P el e bytes) && (underIs P u isStr || underIs P u (isSl fun _ => true)) | _ => false)
  | .slice t x lo hi mx, .slice e a b c => okXs (x :: optTmp lo ++ optTmp hi ++ optTmp mx) ins && lo.isSome == a && hi.isSome == b && mx.isSome == c && underIs P t (isSl fun el => sizeIs P el e)
  | .slice t x lo hi mx, .sslice a b => okXs (x :: optTmp lo ++ optTmp hi) ins && lo.isSome == a && hi.isSome == b && mx.isNone && underIs P t isStr
  | .makeSlice t l c, .mks e bytes => okXs [l, c] ins && underIs P t (isSl fun el => elemIs P el e bytes)
  | .extract x i, .ext j | .extract x i, .extx j => okXs [x] ins && i == j
  | .nilCheck x, .nchk => okXs [x] ins
  | _, _ => false
/-- Which operand slots give their end away. -/
def okKill (act : Act) (ins : List X) (K : List Nat) : Bool :=
  match act, ins with
  | .mvx, [.t s] | .extx _, [.t s] => K.contains s
  | .app _ _, .t s :: _ => K.contains s
  | _, _ => true
end
end Go.Pv
