/- Pv, part G: append, cuts, make; and all pure operations together. -/
import Derived.Test.YtdmhagjcmlaiiaaDoorPvF
set_option linter.unusedVariables false
set_option linter.unusedSimpArgs false
namespace Go.Pv
section
variable {P : Program} {o : Oper} {a : Go.Act} {w : World} {g : G} {st : St} {K : List Nat}

def notInt (P : Program) (u : TypeId) : Prop := ∃ d, P.underlying u = some d ∧ ∀ k, d ≠ .int k
theorem run_append_room_raw {t u ty el : TypeId} {i : TypeInfo} {e : Nat} (ht : P.underlying t = some (.slice el)) (hu : notInt P u) (hi : P.info? el = some i) (hs : i.size = e) {A : Option Addr} {n cap m : Nat} {v2 : Value} {news : List Value}
    (hlen : (Builtin.lenOf v2).run P w = .ok m w) (hnews : (Builtin.firstCells e m v2).run P w = .ok news.toArray w) (hroom : n + m ≤ cap) :
    (Builtin.append_ #[t, u] ty #[.slice A n cap, v2]).run P w = (match A with
      | none => .ok (.slice none (n + m) cap) w
      | some a => ((storeCells (a.add (n * e)) news).run P w).andThen fun _ w' => .ok (.slice (some a) (n + m) cap) w') := by
  obtain ⟨d, hd, hk⟩ := hu
  subst hs
  have hz : (d matches .int _) = false := by cases d <;> first | rfl | exact absurd rfl (hk _)
  cases A <;> simp [Builtin.append_, run_underlying ht, run_underlying hd, Go.sizeOf, typeInfo, hi, hz, hlen, hroom, hnews]
theorem run_append_grow_raw {t u ty el : TypeId} {i : TypeInfo} {z : Value} {e bytes : Nat} (ht : P.underlying t = some (.slice el)) (hu : notInt P u) (hi : P.info? el = some i) (hz : i.zero = some z) (hs : i.size = e) (hb : i.bytes = bytes) (hb0 : 0 < bytes)
    {A : Option Addr} {n cap m : Nat} {v2 : Value} {olds news : List Value}
    (hlen : ∀ w2, (Builtin.lenOf v2).run P w2 = .ok m w2) (hnews : (Builtin.firstCells e m v2).run P w.drew = .ok news.toArray w.drew) (holds : (Builtin.firstCells e n (.slice A n cap)).run P w.drew = .ok olds.toArray w.drew)
    (hroom : ¬ n + m ≤ cap) (hbytes : (n + m) * bytes ≤ 140737488355328) :
    (Builtin.append_ #[t, u] ty #[.slice A n cap, v2]).run P w = .ok (.slice (some ⟨w.heap.size, 0, none⟩) (n + m) (grownCap w (n + m) cap el))
      (w.drew.alloc (.cells (olds.toArray ++ news.toArray ++ Builtin.zeroCells z.cells (grownCap w (n + m) cap el - (n + m))) el)) := by
  obtain ⟨d, hd, hk⟩ := hu
  subst hs; subst hb
  have hz' : (d matches .int _) = false := by cases d <;> first | rfl | exact absurd rfl (hk _)
  have hfit := growslice_fits (show cap < n + m by omega) hbytes
  have hnm : n + m ≤ 140737488355328 := Nat.le_trans (Nat.le_mul_of_pos_right _ hb0) hbytes
  have h63' : ¬ (9223372036854775807 < ((n : Int) + (m : Int))) := by omega
  have h48' : ¬ (281474976710656 < Builtin.nextslicecap (n + m) cap * i.bytes) := by omega
  have hmatch : ∀ (x y : Sem Bool), (match d with | .int _ => x | _ => y) = y := fun x y => by cases d <;> first | rfl | exact absurd rfl (hk _)
  simp [Builtin.append_, run_underlying ht, run_underlying hd, Go.sizeOf, typeInfo, zeroValue, hi, hz, hlen, hroom, h63', h48', Question.forced, hnews, holds, newRow, grownCap, hz']
  congr 2
  apply Array.ext'
  simp [List.append_assoc]

theorem firstCells_slice {e : Nat} {b off n cap : Nat} {us : List Value} (hl : us.length = n * e) (h : Lies w b off us) : (Builtin.firstCells e n (.slice (some ⟨b, off, none⟩) n cap)).run P w = .ok us.toArray w := by
  simp only [Builtin.firstCells, ← hl]
  exact run_loadCells_lies h
/-- The cells of a slice, in whatever world with the same memory. -/
theorem firstCells_of {m : Own} {nl : Option Bool} {xs : List PV} {v : Value} {e : Nat} (h : Rr g w (.sl m nl xs) v) (he : headIs e xs = true) : ∃ (A : Option Addr) (cap : Nat) (us : List Value), v = .slice A xs.length cap ∧ us.length = xs.length * e ∧
    (∀ w2 : World, w2.heap = w.heap → (Builtin.firstCells e xs.length v).run P w2 = .ok us.toArray w2) ∧ (∀ u ∈ us, u.oneCell' = true) ∧ (∀ (k : Nat) (c : PV) (u : Value), (flat xs)[k]? = some c → us[k]? = some u → Rr g w c u) ∧
    (∀ p ∈ xs, p.cells.length = e ∧ p.cells.all PV.leaf = true) ∧ (xs ≠ [] → ∃ b off, A = some ⟨b, off, none⟩ ∧ At g w xs b off e) := by
  obtain ⟨A, cap, rfl, h1, h2, h3, h4, h5, h6⟩ := h.inv_sl
  by_cases hx : xs = []
  · subst hx
    refine ⟨A, cap, [], rfl, by simp, fun w2 _ => ?_, by simp, fun k c u hc => by simp [flat] at hc, by simp, fun h => absurd rfl h⟩
    cases A with
    | none => rfl
    | some ad => simp [Builtin.firstCells, loadCells, loadCellsFrom]
  · obtain ⟨b, off, sz, rfl, hat⟩ := h6 hx
    have hsz : sz = e := by
      cases xs with
      | nil => exact absurd rfl hx
      | cons p xs =>
        have := (hat.size 0 p rfl).1
        simp [headIs] at he
        omega
    subst hsz
    obtain ⟨us, e1, e2, e3, e4⟩ := hat.row
    refine ⟨_, cap, us, rfl, e1, fun w2 hw => firstCells_slice e1 (e2.of_heap (by rw [hw])), e4, e3, fun p hp => ?_, fun _ => ⟨b, off, rfl, hat⟩⟩
    obtain ⟨i, hi⟩ := mem_get hp
    exact hat.size i p hi
theorem firstCells_str {s : ByteArray} (w2 : World) : (Builtin.firstCells 1 s.size (.string s)).run P w2 = .ok (bytesV s).toArray w2 := by
  simp only [Builtin.firstCells, Sem.run_pure]
  congr 1
  have : s.extract 0 s.size = s := by simp
  rw [this]
  apply Array.ext'
  simp [bytesV]
theorem flat_append (xs ys : List PV) : flat (xs ++ ys) = flat xs ++ flat ys := by simp [flat]
theorem headIs_cases {e : Nat} {xs : List PV} (h : headIs e xs = true) : True := trivial

/-- append: first operand xs, which may grow; the second given by its cells. -/
theorem do_app_gen {t u el : TypeId} {x y : Operand} (hR : Rel g st a w) (ho : o.op = .call { callee := .builtin .append, args := #[x, y], argTypes := #[t, u] }) (ht : P.underlying t = some (.slice el)) (hu : notInt P u)
    {i : TypeInfo} {z : Value} {e bytes : Nat} (hi : P.info? el = some i) (hz : i.zero = some z) (hs : i.size = e) (hb : i.bytes = bytes) (hzc : z.cells.size = e) (hb0 : 0 < bytes) (he0 : 0 < e)
    {x' : X} {m : Own} {nl : Option Bool} {xs ys : List PV} {news : List Value} (hx : Rx g w x' (.sl m nl xs) (a.eval x)) (hk : ∀ s, x' = .t s → s ∈ K) (hm : m = .full ∨ m = .sp e) (hh : headIs e xs = true) (hbd : (xs.length + ys.length) * bytes ≤ 140737488355328)
    (hlen : ∀ w2, (Builtin.lenOf (a.eval y)).run P w2 = .ok ys.length w2) (hnews : ∀ w2 : World, w2.heap = w.heap → (Builtin.firstCells e ys.length (a.eval y)).run P w2 = .ok news.toArray w2) (hnl : news.length = ys.length * e)
    (h1 : ∀ u ∈ news, u.oneCell' = true) (hyr : ∀ (k : Nat) (c : PV) (u : Value), (flat ys)[k]? = some c → news[k]? = some u → Rr g w c u) (hyok : ∀ p ∈ ys, p.cells.length = e ∧ p.cells.all PV.leaf = true) :
    Does P o a w g st K (.sl (.sp e) (if ys.isEmpty then nl else some false) (xs ++ ys)) := by
  have hxr := hx.rr rfl
  obtain ⟨A, cap, olds, hv, e1, e2, e3, e4, e5, e6⟩ := firstCells_of (P := P) hxr hh
  obtain ⟨A', cap', hv', i1, i2, i3, i4, i5, i6⟩ := hxr.inv_sl
  rw [hv] at hv'
  injection hv' with hA hn hc
  subst hA; subst hc
  have hexec : ∀ {r : Value} {w' : World}, (Builtin.append_ #[t, u] o.type #[a.eval x, a.eval y]).run P w = .ok r w' → (execOp a.eval o).run P w = .ok (.value r) w' := by
    intro r w' hr
    simp only [execOp, ho, resolve, invoke, builtin, Sem.run_bind, Sem.run_pure, Result.andThen_ok, List.map_toArray, List.map_cons, List.map_nil, hr]
  have hok : ∀ p ∈ xs ++ ys, p.cells.length = e ∧ p.cells.all PV.leaf = true := fun p hp => by
    rcases List.mem_append.1 hp with h | h
    · exact e5 p h
    · exact hyok p h
  have hsz : ∀ p ∈ xs, p.cells.length = e := fun p hp => (e5 p hp).1
  by_cases hroom : xs.length + ys.length ≤ cap
  · have hraw := run_append_room_raw (P := P) (w := w) (ty := o.type) (A := A) ht hu hi hs (hlen w) (hnews w rfl) hroom
    rw [← hv] at hraw
    by_cases hy : ys = []
    · -- nothing is appended
      subst hy
      have hn0 : news = [] := List.eq_nil_of_length_eq_zero (by simpa using hnl)
      subst hn0
      have hrun : (execOp a.eval o).run P w = .ok (.value (a.eval x)) w := by
        refine hexec ?_
        rw [hraw, hv]
        cases A with
        | none => simp
        | some ad => simp [storeCells]
      have hr : Rr g w (.sl (.sp e) nl (xs ++ [])) (a.eval x) := by rw [List.append_nil]; exact hxr.weakSl (by simp) (fun b h => h)
      show Does P o a w g st K (.sl (.sp e) nl (xs ++ []))
      have hfullcase : cap = xs.length → Does P o a w g st K (.sl (.sp e) nl (xs ++ [])) := fun hc => .same hrun hr fun q => by
        refine ⟨fun e' nl' xs' he' => ?_, fun cs vs h => by simp at h⟩
        simp only [List.append_nil, PV.sl.injEq] at he'
        obtain ⟨_, _, rfl⟩ := he'
        exact ⟨A, cap, hv, .inl hc⟩
      rcases hm with rfl | rfl
      · exact hfullcase (i4 rfl)
      · cases x' with
        | k q => exact absurd rfl (hx.2.1 e nl xs)
        | t s =>
          have hown := (hx.own rfl (s := s) (by simp)).1
          cases hd : o.dst with
          | none => exact ⟨_, w, g, hrun, .refl _ _ _, fun d h => by simp [hd] at h, fun d' o' hp => by simp at hp⟩
          | some d =>
            refine ⟨_, w, g.re (moveS s d), hrun, keep_moveS (hk s rfl), fun d' hd' => ?_, fun d' o' hp => by simp at hp⟩
            rw [hd] at hd'
            cases hd'
            refine .inr ⟨hr.re, ?_, fun cs vs h => by simp at h⟩
            have : Own1 g w (.slot s) 0 (.sl (.sp e) nl (xs ++ [])) (a.eval x) := by
              intro e' nl' xs' he'
              simp only [List.append_nil, PV.sl.injEq] at he'
              obtain ⟨he', _, rfl⟩ := he'
              exact hown e' nl xs (by rw [he'])
            exact this.re (by simp [moveS])
    · -- in place
      rw [show (if ys.isEmpty then nl else some false) = some false by cases ys <;> simp_all]
      have hlt : xs.length < cap := by have : 0 < ys.length := List.length_pos_iff.2 hy; omega
      rcases hm with rfl | rfl
      · have := i4 rfl; omega
      · cases x' with
        | k q => exact absurd rfl (hx.2.1 e nl xs)
        | t s =>
          obtain ⟨A2, cap2, hv2, hc | ⟨b, off, vs, ty, hA2, hcl, hfill, hheap, hbig⟩⟩ := (hx.own rfl (s := s) (by simp)).1 e nl xs rfl
          · rw [hv] at hv2; injection hv2 with _ _ h; omega
          · rw [hv] at hv2
            injection hv2 with h1' h2' h3'
            subst h1'; subst h3'; subst hA2
            have hm' : (xs.length + ys.length) * e ≤ cap * e := Nat.mul_le_mul_right _ hroom
            rw [Nat.add_mul] at hm'
            have hst := run_storeCells_at P b (off + xs.length * e) ty news 0 vs w hheap (by rw [hnl]; omega) h1
            simp only [Nat.add_zero] at hst
            simp only [add_plain, hst, Result.andThen_ok] at hraw
            generalize hcur : (vs.toList.take (off + xs.length * e) ++ news ++ vs.toList.drop (off + xs.length * e + news.length)) = cur at hraw
            have hcur' : cur = splice vs.toList (off + xs.length * e) news := by rw [← hcur]; rfl
            have hle : off + xs.length * e + news.length ≤ vs.toList.length := by rw [hnl]; simp; omega
            have hheap' : (w.setRow b cur.toArray).heap[b]? = some (.cells cur.toArray ty (0, 0)) := setRow_heap w b vs _ ty _ hheap
            have hoth : ∀ k, k ≠ b → (w.setRow b cur.toArray).heap[k]? = w.heap[k]? := fun k hk => setRow_other w b k _ hk
            have hcl2 : ∀ j, (w.setRow b cur.toArray).cell? ⟨b, j, none⟩ = cur[j]? := fun j => by simp [World.cell?, hheap']
            have hcl1 : ∀ j, w.cell? ⟨b, j, none⟩ = vs.toList[j]? := fun j => by simp [World.cell?, hheap]
            have hold : ∀ j, j < off + xs.length * e → (w.setRow b cur.toArray).cell? ⟨b, j, none⟩ = w.cell? ⟨b, j, none⟩ := fun j hj => by
              rw [hcl2, hcl1, hcur', splice_get hle, if_neg (by omega)]
            have hnew : ∀ j u, news[j]? = some u → (w.setRow b cur.toArray).cell? ⟨b, off + xs.length * e + j, none⟩ = some u := fun j u hu => by
              have hj := lt_of_get hu
              rw [hcl2, hcur', splice_get hle, if_pos (by omega), Nat.add_sub_cancel_left, hu]
            let c : Cl := match o.dst with | some d => .row (.slot d) 0 | none => .free
            have hc : c ≠ .out := by simp only [c]; split <;> simp
            let g' : G := { g with fill := fun k => if k = b then off + (xs.length + ys.length) * e else g.fill k, cl := fun k => if k = b then c else g.cl k }
            have hb' : b < w.heap.size := (Array.getElem?_eq_some_iff.1 hheap).1
            have hmono : Mono g w g' (w.setRow b cur.toArray) := by
              refine ⟨fun k => ?_, fun k j hj => ?_, Nat.le_refl _, fun _ _ => rfl⟩
              · by_cases hk : k = b
                · subst hk; simp only [g', if_true, hfill, Nat.add_mul]; omega
                · simp [g', hk]
              · by_cases hk : k = b
                · subst hk; exact hold j (by rw [hfill] at hj; exact hj)
                · exact cell_of_heap (hoth k hk)
            have hkeep : Keep (· ∈ K) g w g' (w.setRow b cur.toArray) := by
              have other : ∀ k, g.cl k ≠ g.cl b → k ≠ b := fun k h hk => h (by rw [hk])
              have fix : ∀ k, k ≠ b → g'.cl k = g.cl k ∧ g'.fill k = g.fill k ∧ (w.setRow b cur.toArray).heap[k]? = w.heap[k]? := fun k hk => ⟨by simp [g', hk], by simp [g', hk], hoth k hk⟩
              refine ⟨⟨hmono, rfl, rfl, rfl, by simp [World.setRow], fun k hk _ => ?_, fun k hk => ?_⟩, fun k p j h hp => ?_, fun k d h => ?_, fun k i h => ?_, rfl, rfl, rfl, fun hgw k hk => ?_, fun hfr k hk => ?_⟩
              · obtain ⟨q1, q2, q3⟩ := fix k (other k (by rw [hk, hcl]; simp))
                exact ⟨q3, q1.trans hk, q2⟩
              · by_cases hkb : k = b
                · subst hkb; simp [g'] at hk; exact absurd hk hc
                · simpa [g', hkb] using hk
              · have hkb : k ≠ b := by
                  rintro rfl
                  rw [hcl] at h
                  cases h
                  exact hp s rfl (hk s rfl)
                obtain ⟨q1, q2, q3⟩ := fix k hkb
                exact ⟨q1.trans h, q2, q3⟩
              · obtain ⟨q1, q2, q3⟩ := fix k (other k (by rw [h, hcl]; simp))
                exact ⟨q1.trans h, q2, q3⟩
              · obtain ⟨q1, q2, q3⟩ := fix k (other k (by rw [h, hcl]; simp))
                exact ⟨q1.trans h, q2, q3⟩
              · by_cases hkb : k = b
                · subst hkb
                  refine ⟨_, ty, _, hheap', ?_⟩
                  have : cur.length = vs.size := by rw [hcur', splice_length hle]; simp
                  simp only [g', if_true, List.size_toArray, this, Nat.add_mul]
                  omega
                · simp only [g', hkb, if_false] at hk ⊢
                  rw [hoth k hkb]
                  exact hgw k hk
              · have hkb : k ≠ b := by have : w.heap.size ≤ k := by simpa [World.setRow] using hk
                                       omega
                simp only [g', hkb, if_false]
                exact hfr k (by simpa [World.setRow] using hk)
            have hat : At g' (w.setRow b cur.toArray) (xs ++ ys) b off e := by
              have hlies : Lies (w.setRow b cur.toArray) b off (olds ++ news) := by
                intro j u hu
                rcases Nat.lt_or_ge j olds.length with hj | hj
                · rw [List.getElem?_append_left hj] at hu
                  have hxne : xs ≠ [] := by
                    intro h0
                    have : olds.length = 0 := by rw [e1, h0]; simp
                    omega
                  obtain ⟨b', off', hA', hat'⟩ := e6 hxne
                  cases hA'
                  rw [hold _ (by omega)]
                  -- the old cells are those that were loaded
                  obtain ⟨us, r1, r2, _, _⟩ := hat'.row
                  have h2' := e2 w rfl
                  rw [hv, firstCells_slice r1 r2] at h2'
                  simp at h2'
                  subst h2'
                  exact r2 j u hu
                · rw [List.getElem?_append_right hj] at hu
                  have := hnew _ u hu
                  rwa [show off + xs.length * e + (j - olds.length) = off + j by omega] at this
              refine at_of_row (by simp [g', List.length_append]) hok hlies (by rw [List.length_append, e1, hnl, List.length_append, Nat.add_mul]) fun k q u hq hu => ?_
              rw [flat_append] at hq
              rcases Nat.lt_or_ge k olds.length with hk' | hk'
              · rw [List.getElem?_append_left (by rw [flat_length hsz]; omega)] at hq
                rw [List.getElem?_append_left hk'] at hu
                exact (e4 k q u hq hu).mono hmono
              · rw [List.getElem?_append_right (by rw [flat_length hsz]; omega), flat_length hsz] at hq
                rw [List.getElem?_append_right hk', e1] at hu
                exact (hyr _ q u hq hu).mono hmono
            have hrr : Rr g' (w.setRow b cur.toArray) (.sl (.sp e) (some false) (xs ++ ys)) (.slice (some ⟨b, off, none⟩) (xs ++ ys).length cap) :=
              .mk_sl (by simpa using hroom) (by rintro b ⟨⟩; rfl) (by simp) (by simp) (by rintro ad ⟨⟩; rfl) fun _ => ⟨b, off, e, rfl, hat⟩
            refine ⟨_, _, g', hexec (hraw.trans (by rw [List.length_append])), hkeep, fun d hd => .inr ⟨hrr, ?_, fun cs vs h => by simp at h⟩, fun d' o' hp => by simp at hp⟩
            intro e' nl' xs' he'
            simp only [PV.sl.injEq, Own.sp.injEq] at he'
            obtain ⟨rfl, _, rfl⟩ := he'
            refine ⟨_, cap, rfl, .inr ⟨b, off, cur.toArray, ty, rfl, by simp [g', c, hd], by simp [g'], hheap', ?_⟩⟩
            have : cur.length = vs.size := by rw [hcur', splice_length hle]; simp
            simpa [this] using hbig
  · -- a new row
    have hyne : ys ≠ [] := by rintro rfl; exact hroom (by simpa using i1)
    rw [show (if ys.isEmpty then nl else some false) = some false by cases ys <;> simp_all]
    have hraw := run_append_grow_raw (P := P) (w := w) (ty := o.type) (A := A) (cap := cap) ht hu hi hz hs hb hb0 hlen (hnews w.drew rfl) (by rw [← hv]; exact e2 w.drew rfl) hroom hbd
    rw [← hv] at hraw
    have hge := grownCap_ge w (xs.length + ys.length) cap el
    refine Does.fresh (v := default) (w' := w.drew.alloc (.cells (olds.toArray ++ news.toArray ++ Builtin.zeroCells z.cells (grownCap w (xs.length + ys.length) cap el - (xs.length + ys.length))) el)) (sz := e) (us := olds ++ news) (xs := xs ++ ys) (cap := grownCap w (xs.length + ys.length) cap el) (rest := (Builtin.zeroCells z.cells (grownCap w (xs.length + ys.length) cap el - (xs.length + ys.length))).toList) hR
      (hexec (hraw.trans (by rw [List.length_append]))) ⟨rfl, rfl, rfl, rfl⟩ (by simp only [Array.toList_append, List.toList_toArray]) (by rw [List.length_append, e1, hnl, List.length_append, Nat.add_mul]) (by rw [List.length_append]; exact hge) (by simp) (by simp) hok ?_ ?_
    · intro k q u hq hu'
      rw [flat_append] at hq
      rcases Nat.lt_or_ge k olds.length with hk' | hk'
      · rw [List.getElem?_append_left (by rw [flat_length hsz]; omega)] at hq
        rw [List.getElem?_append_left hk'] at hu'
        exact e4 k q u hq hu'
      · rw [List.getElem?_append_right (by rw [flat_length hsz]; omega), flat_length hsz] at hq
        rw [List.getElem?_append_right hk', e1] at hu'
        exact hyr _ q u hq hu'
    · intro e' he'
      cases he'
      refine ⟨rfl, rfl, ?_⟩
      simp only [Array.size_append, List.size_toArray, size_zeroCells, hzc, e1, hnl, ← Nat.add_mul]
      exact Nat.mul_le_mul_right _ (by omega)

theorem do_app {t u el : TypeId} {x y : Operand} (hR : Rel g st a w) (ho : o.op = .call { callee := .builtin .append, args := #[x, y], argTypes := #[t, u] }) (ht : P.underlying t = some (.slice el))
    (hu : P.underlying u = some .string ∨ ∃ e, P.underlying u = some (.slice e)) {e bytes : Nat} (hel : elemIs P el e bytes = true) {x' y' : X} {px py q : PV} (hx : Rx g w x' px (a.eval x)) (hy : Rx g w y' py (a.eval y)) (hk : ∀ s, x' = .t s → s ∈ K)
    (he : pApp e bytes px py = some q) : Does P o a w g st K q := by
  obtain ⟨i, z, hi, hz, hs, hb, hzc⟩ := elemIs_spec hel
  have hu' : notInt P u := by
    rcases hu with hu | ⟨e, hu⟩
    · exact ⟨_, hu, by simp⟩
    · exact ⟨_, hu, by simp⟩
  unfold pApp at he
  split at he
  · rename_i m nl xs m2 nl2 ys
    split at he
    · rename_i h
      obtain ⟨h1, h2, h3, h4, h5, h6⟩ := h
      cases he
      obtain ⟨A, cap, us, hv, e1, e2, e3, e4, e5, e6⟩ := firstCells_of (P := P) (hy.rr rfl) h3
      exact do_app_gen hR ho ht hu' hi hz hs hb hzc h5 h6 hx hk h1 h2 h4 (fun w2 => by rw [hv]; rfl) (fun w2 hw => e2 w2 hw) e1 e3 e4 e5
    · cases he
  · rename_i m nl xs s
    split at he
    · rename_i h
      obtain ⟨h1, h2, h3, h4, h5⟩ := h
      cases he
      subst h3
      have hv := (hy.rr rfl).inv_v
      exact do_app_gen hR ho ht hu' hi hz hs hb hzc h5 (by omega) hx hk h1 h2 (by rw [bytesP_length]; exact h4) (fun w2 => by rw [hv, bytesP_length]; rfl) (fun w2 hw => by rw [hv, bytesP_length]; exact firstCells_str w2)
        (by simp [bytesV, bytesP_length]) (fun u hu => by simp only [bytesV, List.mem_map] at hu; obtain ⟨b, _, rfl⟩ := hu; rfl) (by rw [flat_bytes]; exact bytes_rr) (bytesP_ok s)
    · cases he
  · cases he

/-! Cuts -/
/-- Operands that may be missing. -/
def OptV (a : Go.Act) : Option Operand → Option Value := Option.map a.eval
theorem rxL_nil {xs : List X} {l : List PV} (h : RxL g w xs l []) : l = [] := by
  cases xs <;> cases l <;> simp [RxL] at h ⊢
theorem rxL_cons {xs : List X} {l : List PV} {v : Value} {vs : List Value} (h : RxL g w xs l (v :: vs)) : ∃ x xs' p l', xs = x :: xs' ∧ l = p :: l' ∧ Rx g w x p v ∧ RxL g w xs' l' vs := by
  cases xs with
  | nil => cases l <;> simp [RxL] at h
  | cons x xs => cases l with
    | nil => simp [RxL] at h
    | cons p l => exact ⟨x, xs, p, l, rfl, rfl, h.1, h.2⟩
theorem rx_int {x : X} {k : IntKind} {n : Int} {v : Value} (h : Rx g w x (.v (.int k n)) v) : v = .int k n := (h.rr rfl).inv_v

theorem run_slices {t e : TypeId} {i : TypeInfo} {sz : Nat} (ht : P.underlying t = some (.slice e)) (hi : P.info? e = some i) (hs : i.size = sz) {A : Option Addr} {n cap : Nat} (hcap : n ≤ cap) {lo hi' mx : Option Operand} {ins : List X} {l : List PV}
    {hl hh hm : Bool} (h1 : lo.isSome = hl) (h2 : hi'.isSome = hh) (h3 : mx.isSome = hm) (hx : RxL g w ins l ((optTmp lo ++ optTmp hi' ++ optTmp mx).map a.eval)) {r : Nat × Nat × Option Nat} (hb : bounds n hl hh hm l = some r) :
    (Instr.sliceAt t (.slice A n cap) (lo.map a.eval) (hi'.map a.eval) (mx.map a.eval)).run P w = .ok (sliced A r.1 r.2.1 (r.2.2.getD cap) sz) w ∧ r.1 ≤ r.2.1 ∧ r.2.1 ≤ n ∧ (∀ c, r.2.2 = some c → r.2.1 ≤ c ∧ c ≤ n) := by
  have hel : P.elem t = e := by simp [Program.elem, ht]
  have ht' : P.underlying t = some (.slice (P.elem t)) := by rw [hel]; exact ht
  have hsz : (Go.sizeOf (P.elem t)).run P w = .ok sz w := by rw [hel]; simp [Go.sizeOf, typeInfo, hi, hs]
  rw [run_sliceAt_slice (P := P) w t _ _ _ _ ht']
  unfold bounds at hb
  cases lo <;> cases hi' <;> cases mx <;> simp at h1 h2 h3 <;> subst h1 <;> subst h2 <;> subst h3 <;> simp only [optTmp, List.nil_append, List.append_nil, List.cons_append, List.map_cons, List.map_nil] at hx hb ⊢
  · have := rxL_nil hx
    subst this
    cases hb
    simp [run_slice_all (P := P) w t A n cap ht', hsz, Result.andThen]
  · cases hb
  · obtain ⟨x, xs, p, l', rfl, rfl, hp, hr⟩ := rxL_cons hx
    have := rxL_nil hr
    subst this
    split at hb
    · rename_i k b heq
      cases heq
      split at hb
      · rename_i hc
        cases hb
        have hv := rx_int hp
        simp only [Option.map_some, Option.map_none, hv]
        rw [run_slice_h (P := P) w t A n cap ht' _ _ hc.1 (by omega)]
        simp [hsz, Result.andThen]; omega
      · cases hb
    · cases hb
  · obtain ⟨x, xs, p, l', rfl, rfl, hp, hr⟩ := rxL_cons hx
    obtain ⟨x2, xs2, p2, l2, rfl, rfl, hp2, hr2⟩ := rxL_cons hr
    have := rxL_nil hr2
    subst this
    split at hb
    · rename_i k b k2 c heq
      cases heq
      split at hb
      · rename_i hc
        cases hb
        have hv := rx_int hp
        have hv2 := rx_int hp2
        simp only [Option.map_some, Option.map_none, hv, hv2]
        rw [run_slice_hm (P := P) w t A n cap ht' _ _ _ _ hc.1 hc.2.1 (by omega)]
        simp [hsz, Result.andThen]; omega
      · cases hb
    · cases hb
  · obtain ⟨x, xs, p, l', rfl, rfl, hp, hr⟩ := rxL_cons hx
    have := rxL_nil hr
    subst this
    split at hb
    · rename_i k b heq
      cases heq
      split at hb
      · rename_i hc
        cases hb
        have hv := rx_int hp
        simp only [Option.map_some, Option.map_none, hv]
        rw [run_slice_l (P := P) w t A n cap ht' _ _ hc.1 (by omega)]
        simp [hsz, Result.andThen]; omega
      · cases hb
    · cases hb
  · cases hb
  · obtain ⟨x, xs, p, l', rfl, rfl, hp, hr⟩ := rxL_cons hx
    obtain ⟨x2, xs2, p2, l2, rfl, rfl, hp2, hr2⟩ := rxL_cons hr
    have := rxL_nil hr2
    subst this
    split at hb
    · rename_i k b k2 c heq
      cases heq
      split at hb
      · rename_i hc
        cases hb
        have hv := rx_int hp
        have hv2 := rx_int hp2
        simp only [Option.map_some, Option.map_none, hv, hv2]
        rw [run_slice_lh (P := P) w t A n cap ht' _ _ _ _ hc.1 hc.2.1 (by omega)]
        simp [hsz, Result.andThen]; omega
      · cases hb
    · cases hb
  · obtain ⟨x, xs, p, l', rfl, rfl, hp, hr⟩ := rxL_cons hx
    obtain ⟨x2, xs2, p2, l2, rfl, rfl, hp2, hr2⟩ := rxL_cons hr
    obtain ⟨x3, xs3, p3, l3, rfl, rfl, hp3, hr3⟩ := rxL_cons hr2
    have := rxL_nil hr3
    subst this
    split at hb
    · rename_i k b k2 c k3 d heq
      cases heq
      split at hb
      · rename_i hc
        cases hb
        have hv := rx_int hp
        have hv2 := rx_int hp2
        have hv3 := rx_int hp3
        simp only [Option.map_some, Option.map_none, hv, hv2, hv3]
        rw [run_slice_lhm (P := P) w t A n cap ht' _ _ _ _ _ _ hc.1 hc.2.1 hc.2.2.1 (by omega)]
        simp [hsz, Result.andThen]; omega
      · cases hb
    · cases hb

theorem do_slice {t e : TypeId} {x : Operand} {lo hi' mx : Option Operand} (ho : o.op = .slice t x lo hi' mx) {i : TypeInfo} (ht : P.underlying t = some (.slice e)) (hi : P.info? e = some i) {x' : X} {ins : List X} {p q : PV} {l : List PV}
    {es : Nat} (hes : i.size = es) {hl hh hm : Bool} (h1 : lo.isSome = hl) (h2 : hi'.isSome = hh) (h3 : mx.isSome = hm) (hxr : Rx g w x' p (a.eval x)) (hx : RxL g w ins l ((optTmp lo ++ optTmp hi' ++ optTmp mx).map a.eval)) (he : pSlice es hl hh hm p l = some q) : Does P o a w g st K q := by
  unfold pSlice at he
  split at he
  · rename_i m nl xs
    split at he
    case isFalse => cases he
    rename_i hhead
    obtain ⟨r, hb, rfl⟩ := Option.map_eq_some_iff.1 he
    obtain ⟨lo', hi2, mx'⟩ := r
    obtain ⟨A, cap, hv, i1, i2, i3, i4, i5, i6⟩ := (hxr.rr rfl).inv_sl
    obtain ⟨hrun, b1, b2, b3⟩ := run_slices (P := P) (a := a) ht hi rfl (A := A) i1 h1 h2 h3 hx hb
    simp only at b1 b2 b3
    have hxl : ((xs.take hi2).drop lo').length = hi2 - lo' := by simp; omega
    refine .same (v := sliced A lo' hi2 (mx'.getD cap) i.size) (by simp only [execOp, ho, Sem.run_bind, hv, hrun, Result.andThen_ok, Sem.run_pure]) ?_ fun _ => ownP_of (fun e' nl' xs' h => ?_) (by simp)
    · unfold sliced
      rw [← hxl]
      refine .mk_sl ?_ (fun b hb => ?_) (fun hA => ?_) (fun hf => ?_) (fun ad hA => ?_) (fun hne => ?_)
      · rw [hxl]
        cases mx' with
        | none => simp; omega
        | some c => have := b3 c rfl; simp; omega
      · have := i2 b hb
        split
        · exact this
        · cases A <;> simpa using this
      · have : A = none := by
          split at hA
          · exact hA
          · cases A <;> simp at hA ⊢
        have hc := i3 this
        cases mx' with
        | none => simp [hc]
        | some c => have := b3 c rfl; simp; omega
      · rw [hxl]
        split at hf
        · rename_i hcond
          rcases hcond with rfl | ⟨rfl, rfl, rfl⟩
          · simp
          · have := i4 rfl; simp; omega
        · cases hf
      · split at hA
        · exact i5 ad hA
        · cases A with
          | none => simp at hA
          | some ad' =>
            simp at hA
            subst hA
            have := i5 ad' rfl
            unfold Addr.add
            split
            · exact this
            · rfl
      · have hlt : lo' < hi2 := by
          rcases Nat.lt_or_ge lo' hi2 with h | h
          · exact h
          · exact absurd (List.eq_nil_of_length_eq_zero (by rw [hxl]; omega)) hne
        obtain ⟨b, off, sz, rfl, hat⟩ := i6 (by rintro rfl; simp at b2; omega)
        have hsz : sz = i.size := by
          cases xs with
          | nil => simp at b2; omega
          | cons y ys =>
            have := (hat.size 0 y rfl).1
            simp [headIs] at hhead
            omega
        subst hsz
        have hnc : mx'.getD cap ≠ lo' := by
          cases mx' with
          | none => simp; omega
          | some c => have := b3 c rfl; simp; omega
        rw [if_neg hnc]
        refine ⟨b, off + lo' * i.size, i.size, by simp [add_plain], ⟨?_, fun k p hp => ?_, fun k j p c hp hc => ?_⟩⟩
        · rw [hxl]
          have := hat.fill
          have h2 : hi2 * i.size ≤ xs.length * i.size := Nat.mul_le_mul_right _ b2
          have h3 : lo' * i.size + (hi2 - lo') * i.size = hi2 * i.size := by rw [← Nat.add_mul]; congr 1; omega
          omega
        · rw [List.getElem?_drop] at hp
          have hk := lt_of_get hp
          simp at hk
          rw [List.getElem?_take_of_lt (by omega)] at hp
          exact hat.size _ p hp
        · rw [List.getElem?_drop] at hp
          have hk := lt_of_get hp
          simp at hk
          rw [List.getElem?_take_of_lt (by omega)] at hp
          have := hat.cell _ j p c hp hc
          rwa [show off + (lo' + k) * i.size + j = off + lo' * i.size + k * i.size + j by rw [Nat.add_mul]; omega] at this
    · simp only [PV.sl.injEq] at h
      have := h.1
      split at this <;> cases this
  · cases he

theorem do_sslice {t : TypeId} {x : Operand} {lo hi' : Option Operand} (ho : o.op = .slice t x lo hi' none) (ht : P.underlying t = some .string) {x' : X} {ins : List X} {p q : PV} {l : List PV}
    {hl hh : Bool} (h1 : lo.isSome = hl) (h2 : hi'.isSome = hh) (hxr : Rx g w x' p (a.eval x)) (hx : RxL g w ins l ((optTmp lo ++ optTmp hi').map a.eval)) (he : pSslice hl hh p l = some q) : Does P o a w g st K q := by
  unfold pSslice at he
  split at he
  · rename_i s
    obtain ⟨r, hb, rfl⟩ := Option.map_eq_some_iff.1 he
    have hv := (hxr.rr rfl).inv_v
    have key : (Instr.sliceAt t (.string s) (lo.map a.eval) (hi'.map a.eval) none).run P w = .ok (.string (s.extract r.1 r.2.1)) w := by
      rw [run_sliceAt_string (P := P) w t _ _ _ _ ht]
      unfold bounds at hb
      cases lo <;> cases hi' <;> simp at h1 h2 <;> subst h1 <;> subst h2 <;> simp only [optTmp, List.nil_append, List.append_nil, List.cons_append, List.map_cons, List.map_nil] at hx hb ⊢
      · have := rxL_nil hx
        subst this
        cases hb
        exact Go.run_slice_string_all (P := P) w t s ht
      · obtain ⟨x, xs, p, l', rfl, rfl, hp, hr⟩ := rxL_cons hx
        have := rxL_nil hr
        subst this
        split at hb
        · rename_i k b heq
          cases heq
          split at hb
          · rename_i hc
            cases hb
            simp only [Option.map_some, Option.map_none, rx_int hp]
            exact run_slice_string_h (P := P) w t s ht _ _ hc.1 hc.2
          · cases hb
        · cases hb
      · obtain ⟨x, xs, p, l', rfl, rfl, hp, hr⟩ := rxL_cons hx
        have := rxL_nil hr
        subst this
        split at hb
        · rename_i k b heq
          cases heq
          split at hb
          · rename_i hc
            cases hb
            simp only [Option.map_some, Option.map_none, rx_int hp]
            exact run_slice_string_l (P := P) w t s ht _ _ hc.1 hc.2
          · cases hb
        · cases hb
      · obtain ⟨x, xs, p, l', rfl, rfl, hp, hr⟩ := rxL_cons hx
        obtain ⟨x2, xs2, p2, l2, rfl, rfl, hp2, hr2⟩ := rxL_cons hr
        have := rxL_nil hr2
        subst this
        split at hb
        · rename_i k b k2 c heq
          cases heq
          split at hb
          · rename_i hc
            cases hb
            simp only [Option.map_some, Option.map_none, rx_int hp, rx_int hp2]
            exact run_slice_string (P := P) w t s _ _ _ _ ht hc.1 hc.2.1 hc.2.2
          · cases hb
        · cases hb
    exact .val (by simp only [execOp, ho, Sem.run_bind, hv, Option.map_none, key, Result.andThen_ok, Sem.run_pure])
  · cases he

theorem do_mks {t el : TypeId} {l c : Operand} (hR : Rel g st a w) (ho : o.op = .makeSlice t l c) (ht : P.underlying t = some (.slice el)) {e bytes : Nat} (hel : elemIs P el e bytes = true)
    {x' y' : X} {px py q : PV} (hx : Rx g w x' px (a.eval l)) (hy : Rx g w y' py (a.eval c)) (he : pMks e bytes px py = some q) : Does P o a w g st K q := by
  obtain ⟨i, z, hi, hzz, hs, hb, hzc⟩ := elemIs_spec hel
  unfold pMks at he
  split at he
  · rename_i n k
    split at he
    · rename_i h
      obtain ⟨rfl, h1, h2, h3, h4⟩ := h
      cases he
      have hv1 := rx_int hx
      have hv2 := rx_int hy
      obtain ⟨k, rfl⟩ := Int.eq_ofNat_of_zero_le h1
      have hkb : k * bytes ≤ 140737488355328 := by
        have : ((k * bytes : Nat) : Int) ≤ 140737488355328 := by rw [Int.natCast_mul]; exact h2
        omega
      have hk : k ≤ 140737488355328 := Nat.le_trans (Nat.le_mul_of_pos_right _ h4) hkb
      have hbk : ((i.bytes : Int) * (k : Int)) ≤ 281474976710656 := by
        rw [hb, Int.mul_comm]
        have : ((k : Int) * (bytes : Int)) ≤ 140737488355328 := h2
        omega
      have hrun := run_make (P := P) w t el i z ht hi hzz .i64 .i64 0 (k : Int) (by omega) (by omega) hbk (by omega)
      simp only [Int.toNat_natCast, Int.toNat_zero] at hrun
      refine Does.fresh (v := default) (w' := w.alloc (.cells (madeCells z.cells (k * i.size)) el)) (sz := e) (us := []) (xs := []) (cap := k) (rest := (madeCells z.cells (k * i.size)).toList) hR ?_ ⟨rfl, rfl, rfl, rfl⟩ rfl (by simp) (by simp) (by simp) (by simp) (by simp)
        (fun k c u hc => by simp [flat] at hc) (fun e' he' => ?_)
      · simp only [execOp, ho, hv1, hv2, Sem.run_bind, hrun, Result.andThen_ok, Sem.run_pure, List.length_nil]
      · cases he'
        exact ⟨rfl, rfl, by rw [size_madeCells, hs]; omega⟩
    · cases he
  · cases he

/-! All of them -/
theorem okXs1 {x : Operand} {ins : List X} (h : okXs [x] ins = true) : ∃ x', ins = [x'] ∧ okX x x' = true := by
  cases ins with
  | nil => simp [okXs] at h
  | cons x' r => cases r with
    | nil => simp [okXs] at h; exact ⟨x', rfl, h⟩
    | cons _ _ => simp [okXs] at h
theorem e1_spec {f : PV → Option PV} {l : List PV} {q : PV} (h : e1 f l = some q) : ∃ x, l = [x] ∧ f x = some q := by
  unfold e1 at h; split at h
  · exact ⟨_, rfl, h⟩
  · cases h
theorem e2_spec {f : PV → PV → Option PV} {l : List PV} {q : PV} (h : e2 f l = some q) : ∃ x y, l = [x, y] ∧ f x y = some q := by
  unfold e2 at h; split at h
  · exact ⟨_, _, rfl, h⟩
  · cases h
theorem e3_spec {f : PV → PV → PV → Option PV} {l : List PV} {q : PV} (h : e3 f l = some q) : ∃ x y z, l = [x, y, z] ∧ f x y z = some q := by
  unfold e3 at h; split at h
  · exact ⟨_, _, _, rfl, h⟩
  · cases h
theorem eT_spec {f : PV → List PV → Option PV} {l : List PV} {q : PV} (h : eT f l = some q) : ∃ x r, l = x :: r ∧ f x r = some q := by
  unfold eT at h; split at h
  · exact ⟨_, _, rfl, h⟩
  · cases h
theorem rxL1 {xs : List X} {p : PV} {vs : List Value} {v : Value} (hv : vs = [v]) (h : RxL g w xs [p] vs) : ∃ x, xs = [x] ∧ Rx g w x p v := by
  subst hv
  obtain ⟨x, xs', p', l', rfl, h1, h2, h3⟩ := rxL_cons h
  cases h1
  cases xs' <;> simp [RxL] at h3
  exact ⟨x, rfl, h2⟩
theorem rxL2 {xs : List X} {p q : PV} {vs : List Value} {u v : Value} (hv : vs = [u, v]) (h : RxL g w xs [p, q] vs) : ∃ x y, xs = [x, y] ∧ Rx g w x p u ∧ Rx g w y q v := by
  subst hv
  obtain ⟨x, xs', p', l', rfl, h1, h2, h3⟩ := rxL_cons h
  cases h1
  obtain ⟨y, rfl, h4⟩ := rxL1 rfl h3
  exact ⟨x, y, rfl, h2, h4⟩
theorem rxL3 {xs : List X} {p q r : PV} {vs : List Value} {u v z : Value} (hv : vs = [u, v, z]) (h : RxL g w xs [p, q, r] vs) : ∃ x y t, xs = [x, y, t] ∧ Rx g w x p u ∧ Rx g w y q v ∧ Rx g w t r z := by
  subst hv
  obtain ⟨x, xs', p', l', rfl, h1, h2, h3⟩ := rxL_cons h
  cases h1
  obtain ⟨y, t, rfl, h4, h5⟩ := rxL2 rfl h3
  exact ⟨x, y, t, rfl, h2, h4, h5⟩
theorem vals_loc {env : Nat → Option PV} {ins : List X} {l : List PV} (h : vals env ins = some l) {k : Nat} {d o' : Nat} (hk : l[k]? = some (.loc d o')) : (∃ t, env t = some (.loc d o')) ∨ ∃ c, c ∈ ins ∧ c = .k (.loc d o') := by
  induction ins generalizing l k with
  | nil => simp [vals] at h; subst h; simp at hk
  | cons x ins ih =>
    simp only [vals, Option.bind_eq_some_iff, Option.map_eq_some_iff] at h
    obtain ⟨p, hp, r, hr, rfl⟩ := h
    cases k with
    | zero =>
      simp at hk
      subst hk
      cases x with
      | t n => exact .inl ⟨n, hp⟩
      | k q => simp [val] at hp; subst hp; exact .inr ⟨_, by simp, rfl⟩
    | succ k =>
      rcases ih hr (by simpa using hk) with h | ⟨c, h1, h2⟩
      · exact .inl h
      · exact .inr ⟨c, by simp [h1], h2⟩

theorem arr1 {α β : Type} {f : α → β} {c : PV} {xs : Array α} (h : [c].length = (xs.toList.map f).length) : ∃ x, xs = #[x] := by
  have : xs.toList.length = 1 := by simpa using h.symm
  obtain ⟨x, hx⟩ := List.length_eq_one_iff.1 this
  exact ⟨x, by rw [← Array.toArray_toList (xs := xs), hx]⟩
theorem arr2 {α β : Type} {f : α → β} {c d : PV} {xs : Array α} (h : [c, d].length = (xs.toList.map f).length) : ∃ x y, xs = #[x, y] := by
  have : xs.toList.length = 2 := by simpa using h.symm
  match hl : xs.toList, this with
  | [x, y], _ => exact ⟨x, y, by rw [← Array.toArray_toList (xs := xs), hl]⟩
theorem pure_sound {ty : TypeId} (hR : Rel g st a w) {o' : O} (hok : okA P o.op o'.act o'.ins = true) (hkl : okKill o'.act o'.ins o'.kill = true) {l : List PV} {q : PV} (hl : vals st.env o'.ins = some l) (he : evalP o'.act l = some q) : Does P o a w g st o'.kill q := by
  obtain ⟨dst', kill, act, ins, guard⟩ := o'
  simp only at hok hkl hl he ⊢
  have hstl : ∀ {x : X} {d o' : Nat}, ins = [x] → l = [PV.loc d o'] → (∀ p, x = .k p → p.isLoc = false) → ∃ c, st.box d = some c := by
    intro x d o' h1 h2 h3
    subst h1; subst h2
    simp only [vals, Option.bind_eq_some_iff, Option.map_eq_some_iff] at hl
    obtain ⟨p, hp, r, hr, he⟩ := hl
    cases hr
    cases he
    cases x with
    | t n => exact hR.wf n d o' hp
    | k p => simp [val] at hp; subst hp; have := h3 _ rfl; simp [PV.isLoc] at this
  have hkl1 : ∀ {x : X}, ins = [x] → (act = .mvx ∨ ∃ i, act = .extx i) → ∀ s, x = .t s → s ∈ kill := by
    intro x h1 h2 s hs
    subst h1; subst hs
    rcases h2 with rfl | ⟨i, rfl⟩ <;> simpa [okKill] using hkl
  have hlocK : ∀ {x : X} {y : Operand}, okX y x = true → ∀ p, x = .k p → p.isLoc = false := by
    rintro x y h p rfl
    cases y with
    | const v => exact (okK_spec (by simpa [okX] using h)).2.2.1
    | func f =>
      unfold okX at h
      split at h <;> simp_all [PV.isLoc]
    | tmp t => simp [okX] at h
    | global g => simp [okX] at h
  unfold okA at hok
  split at hok
  · rename_i x ho
    have hx := rxL_of hR hok hl
    obtain ⟨p, rfl, he⟩ := e1_spec he
    obtain ⟨x', rfl, hx1⟩ := rxL1 rfl hx
    exact do_mv (.inl ho) hx1 he
  · rename_i x ho
    have hx := rxL_of hR hok hl
    obtain ⟨p, rfl, he⟩ := e1_spec he
    obtain ⟨x', rfl, hx1⟩ := rxL1 rfl hx
    exact do_mv (.inr ho) hx1 he
  · rename_i x ho
    have hx := rxL_of hR hok hl
    obtain ⟨p, rfl, he⟩ := e1_spec he
    obtain ⟨x', rfl, hx1⟩ := rxL1 rfl hx
    exact do_mvx (.inl ho) hx1 (hkl1 rfl (.inl rfl)) he
  · rename_i x ho
    have hx := rxL_of hR hok hl
    obtain ⟨p, rfl, he⟩ := e1_spec he
    obtain ⟨x', rfl, hx1⟩ := rxL1 rfl hx
    exact do_mvx (.inr ho) hx1 (hkl1 rfl (.inl rfl)) he
  · rename_i c x y ho
    have hx := rxL_of hR hok hl
    obtain ⟨pc, px, py, rfl, he⟩ := e3_spec he
    obtain ⟨x1, x2, x3, rfl, h1, h2, h3⟩ := rxL3 rfl hx
    exact do_pick ho h1 h2 h3 he
  · rename_i s x f off ho
    simp only [Bool.and_eq_true] at hok
    have hx := rxL_of hR hok.1 hl
    obtain ⟨p, rfl, he⟩ := e1_spec he
    obtain ⟨x', rfl, hx1⟩ := rxL1 rfl hx
    obtain ⟨d, hd, hf⟩ := underIs_spec hok.2
    split at hf
    · rename_i fs
      split at hf
      · rename_i fd hfd
        simp only [Bool.and_eq_true, beq_iff_eq] at hf
        obtain ⟨rfl, hz⟩ := hf
        split at hz
        · rename_i i hi
          have hxs := hok.1
          simp only [okXs, Bool.and_true] at hxs
          exact do_fa ho hd hfd hi (by simpa using hz) hx1 he (fun d o' hp => hstl rfl (by rw [hp]) (hlocK hxs))
        · cases hz
      · cases hf
    · cases hf
  · rename_i t x i e ho
    simp only [Bool.and_eq_true] at hok
    have hx := rxL_of hR hok.1 hl
    obtain ⟨p, p2, rfl, he⟩ := e2_spec he
    obtain ⟨x1, x2, rfl, h1, h2⟩ := rxL2 rfl hx
    obtain ⟨el, hu, hz⟩ := isSl_spec hok.2
    exact do_ia ho hu hz h1 h2 he
  · rename_i t x n agg ho
    simp only [Bool.and_eq_true] at hok
    have hx := rxL_of hR hok.1 hl
    obtain ⟨p, rfl, he⟩ := e1_spec he
    obtain ⟨x', rfl, hx1⟩ := rxL1 rfl hx
    exact do_ldel ho hok.2 hx1 he
  · rename_i t x i ho
    simp only [Bool.and_eq_true] at hok
    have hx := rxL_of hR hok.1 hl
    obtain ⟨p, p2, rfl, he⟩ := e2_spec he
    obtain ⟨x1, x2, rfl, h1, h2⟩ := rxL2 rfl hx
    exact do_ix ho (isStr_spec hok.2) h1 h2 he
  · rename_i op t x y t2 op' ho
    simp only [Bool.and_eq_true, beq_iff_eq] at hok
    have hx := rxL_of hR hok.1 hl
    obtain ⟨p, p2, rfl, he⟩ := e2_spec he
    obtain ⟨x1, x2, rfl, h1, h2⟩ := rxL2 rfl hx
    obtain rfl := hok.2
    exact do_bin ho h1 h2 he
  · rename_i t x y t2 ho
    simp only [Bool.and_eq_true] at hok
    have hx := rxL_of hR hok.1 hl
    obtain ⟨p, p2, rfl, he⟩ := e2_spec he
    obtain ⟨x1, x2, rfl, h1, h2⟩ := rxL2 rfl hx
    exact do_eqb ho rfl (isBool_spec hok.2) h1 h2 he
  · rename_i t x y t2 ho
    simp only [Bool.and_eq_true] at hok
    have hx := rxL_of hR hok.1 hl
    obtain ⟨p, p2, rfl, he⟩ := e2_spec he
    obtain ⟨x1, x2, rfl, h1, h2⟩ := rxL2 rfl hx
    exact do_eqb ho rfl (isBool_spec hok.2) h1 h2 he
  · rename_i t x y t2 ho
    simp only [Bool.and_eq_true] at hok
    have hx := rxL_of hR hok.1 hl
    obtain ⟨p, p2, rfl, he⟩ := e2_spec he
    obtain ⟨x1, x2, rfl, h1, h2⟩ := rxL2 rfl hx
    obtain ⟨e, hu, _⟩ := isSl_spec hok.2
    exact do_isnil ho rfl hu h1 h2 he
  · rename_i t x y t2 ho
    simp only [Bool.and_eq_true] at hok
    have hx := rxL_of hR hok.1 hl
    obtain ⟨p, p2, rfl, he⟩ := e2_spec he
    obtain ⟨x1, x2, rfl, h1, h2⟩ := rxL2 rfl hx
    obtain ⟨e, hu, _⟩ := isSl_spec hok.2
    exact do_isnil ho rfl hu h1 h2 he
  · rename_i op t x op' ho
    simp only [Bool.and_eq_true, beq_iff_eq] at hok
    have hx := rxL_of hR hok.1 hl
    obtain ⟨p, rfl, he⟩ := e1_spec he
    obtain ⟨x', rfl, hx1⟩ := rxL1 rfl hx
    obtain rfl := hok.2
    exact do_un ho hx1 he
  · rename_i s d x k ho
    simp only [Bool.and_eq_true] at hok
    have hx := rxL_of hR hok.1.1 hl
    obtain ⟨p, rfl, he⟩ := e1_spec he
    obtain ⟨x', rfl, hx1⟩ := rxL1 rfl hx
    exact do_cvi ho hok.1.2 (isInt_spec hok.2) hx1 he
  · rename_i s d x ho
    simp only [Bool.and_eq_true] at hok
    have hx := rxL_of hR hok.1.1 hl
    obtain ⟨p, rfl, he⟩ := e1_spec he
    obtain ⟨x', rfl, hx1⟩ := rxL1 rfl hx
    exact do_cvs ho hok.1.2 (isStr_spec hok.2) hx1 he
  · rename_i s d x ho
    simp only [Bool.and_eq_true] at hok
    have hx := rxL_of hR hok.1.1 hl
    obtain ⟨p, rfl, he⟩ := e1_spec he
    obtain ⟨x', rfl, hx1⟩ := rxL1 rfl hx
    obtain ⟨e, hu, hz⟩ := isSl_spec hok.2
    simp only [Bool.and_eq_true] at hz
    exact do_s2b hR ho hok.1.2 hu (isInt_spec hz.1) hx1 he
  · rename_i s d x ho
    simp only [Bool.and_eq_true] at hok
    have hx := rxL_of hR hok.1.1 hl
    obtain ⟨p, rfl, he⟩ := e1_spec he
    obtain ⟨x', rfl, hx1⟩ := rxL1 rfl hx
    obtain ⟨e, hu, hz⟩ := isSl_spec hok.2
    exact do_b2s ho hu (isInt_spec hz) (isStr_spec hok.1.2) hx1 he
  · rename_i t parts zero ps ho
    simp only [Bool.and_eq_true] at hok
    have hx := rxL_of hR hok.1.1 hl
    have h3 := hok.2
    split at h3
    · rename_i f hf
      exact do_build ho hok.1.2 hf h3 hx he
    · cases h3
  · rename_i t len parts e ho
    simp only [Bool.and_eq_true, decide_eq_true_eq, beq_iff_eq] at hok
    obtain ⟨⟨⟨⟨⟨h1, h2⟩, h3⟩, h4⟩, h5⟩, h6⟩ := hok
    have hx := rxL_of hR h1 hl
    obtain ⟨el, hu, hz⟩ := isSl_spec h6
    split at hz
    · rename_i i hi
      simp only [Bool.and_eq_true, beq_iff_eq] at hz
      obtain ⟨hz1, hz2⟩ := hz
      split at hz2
      · rename_i z hz3
        exact do_bsl hR ho h2 h3 h4 h5 hu hi hz1 hz3 (by simpa using hz2) hx he
      · cases hz2
    · cases hz
  · rename_i args argTypes ho
    simp only [Bool.and_eq_true] at hok
    have hx := rxL_of hR hok.1 hl
    obtain ⟨p, rfl, he⟩ := e1_spec he
    obtain ⟨x, hargs⟩ := arr1 (rxL_get hx).1
    subst hargs
    obtain ⟨x', rfl, hx1⟩ := rxL1 rfl hx
    have h2 := hok.2
    split at h2
    · rename_i t ht
      have : argTypes = #[t] := by rw [← Array.toArray_toList (xs := argTypes), ht]
      subst this
      obtain ⟨e, hu, _⟩ := isSl_spec h2
      exact do_len ho hu hx1 he
    · cases h2
  · rename_i args argTypes ho
    simp only [Bool.and_eq_true] at hok
    have hx := rxL_of hR hok.1 hl
    obtain ⟨p, rfl, he⟩ := e1_spec he
    obtain ⟨x, hargs⟩ := arr1 (rxL_get hx).1
    subst hargs
    obtain ⟨x', rfl, hx1⟩ := rxL1 rfl hx
    have h2 := hok.2
    split at h2
    · rename_i t ht
      have : argTypes = #[t] := by rw [← Array.toArray_toList (xs := argTypes), ht]
      subst this
      exact do_slen ho (isStr_spec h2) hx1 he
    · cases h2
  · rename_i args argTypes ho
    have hx := rxL_of hR hok hl
    obtain ⟨p, p2, rfl, he⟩ := e2_spec he
    obtain ⟨x, y, hargs⟩ := arr2 (rxL_get hx).1
    subst hargs
    obtain ⟨x1, x2, rfl, h1, h2⟩ := rxL2 rfl hx
    exact do_mx ho h1 h2 he
  · rename_i args argTypes ho
    have hx := rxL_of hR hok hl
    obtain ⟨p, p2, rfl, he⟩ := e2_spec he
    obtain ⟨x, y, hargs⟩ := arr2 (rxL_get hx).1
    subst hargs
    obtain ⟨x1, x2, rfl, h1, h2⟩ := rxL2 rfl hx
    exact do_mn ho h1 h2 he
  · rename_i args argTypes e bytes ho
    simp only [Bool.and_eq_true] at hok
    have hx := rxL_of hR hok.1 hl
    obtain ⟨p, p2, rfl, he⟩ := e2_spec he
    obtain ⟨x, y, hargs⟩ := arr2 (rxL_get hx).1
    subst hargs
    obtain ⟨x1, x2, rfl, h1, h2⟩ := rxL2 rfl hx
    have h3 := hok.2
    split at h3
    · rename_i t u ht
      have : argTypes = #[t, u] := by rw [← Array.toArray_toList (xs := argTypes), ht]
      subst this
      simp only [Bool.and_eq_true, Bool.or_eq_true] at h3
      obtain ⟨el, hu, hz⟩ := isSl_spec h3.1
      have hu2 : P.underlying u = some .string ∨ ∃ e, P.underlying u = some (.slice e) := by
        rcases h3.2 with h | h
        · exact .inl (isStr_spec h)
        · obtain ⟨e, h, _⟩ := isSl_spec h; exact .inr ⟨e, h⟩
      exact do_app hR ho hu hu2 hz h1 h2 (fun s hs => by subst hs; simpa [okKill] using hkl) he
    · cases h3
  · rename_i t x lo hi mx e b1 b2 b3 ho
    simp only [Bool.and_eq_true, beq_iff_eq] at hok
    obtain ⟨⟨⟨⟨h1, h2⟩, h3⟩, h4⟩, h5⟩ := hok
    have hx := rxL_of hR h1 hl
    obtain ⟨p, r, rfl, he⟩ := eT_spec he
    obtain ⟨x', xs', p', l', rfl, heq, hp, hr⟩ := rxL_cons hx
    cases heq
    obtain ⟨el, hu, hz⟩ := isSl_spec h5
    obtain ⟨⟨i, hi', hsz⟩, _⟩ := sizeIs_spec hz
    exact do_slice ho hu hi' hsz h2 h3 h4 hp hr he
  · rename_i t x lo hi mx b1 b2 ho
    simp only [Bool.and_eq_true, beq_iff_eq, Option.isNone_iff_eq_none] at hok
    obtain ⟨⟨⟨⟨h1, h2⟩, h3⟩, rfl⟩, h5⟩ := hok
    have hx := rxL_of hR h1 hl
    obtain ⟨p, r, rfl, he⟩ := eT_spec he
    obtain ⟨x', xs', p', l', rfl, heq, hp, hr⟩ := rxL_cons hx
    cases heq
    exact do_sslice ho (isStr_spec h5) h2 h3 hp hr he
  · rename_i t x y e bytes ho
    simp only [Bool.and_eq_true] at hok
    have hx := rxL_of hR hok.1 hl
    obtain ⟨p, p2, rfl, he⟩ := e2_spec he
    obtain ⟨x1, x2, rfl, h1, h2⟩ := rxL2 rfl hx
    obtain ⟨el, hu, hz⟩ := isSl_spec hok.2
    exact do_mks hR ho hu hz h1 h2 he
  · rename_i x i j ho
    simp only [Bool.and_eq_true, beq_iff_eq] at hok
    have hx := rxL_of hR hok.1 hl
    obtain ⟨p, rfl, he⟩ := e1_spec he
    obtain ⟨x', rfl, hx1⟩ := rxL1 rfl hx
    obtain rfl := hok.2
    exact do_ext ho hx1 he
  · rename_i x i j ho
    simp only [Bool.and_eq_true, beq_iff_eq] at hok
    have hx := rxL_of hR hok.1 hl
    obtain ⟨p, rfl, he⟩ := e1_spec he
    obtain ⟨x', rfl, hx1⟩ := rxL1 rfl hx
    obtain rfl := hok.2
    exact do_extx ho hx1 (hkl1 rfl (.inr ⟨_, rfl⟩)) he
  · rename_i x ho
    have hx := rxL_of hR hok hl
    obtain ⟨p, rfl, he⟩ := e1_spec he
    obtain ⟨x', rfl, hx1⟩ := rxL1 rfl hx
    have hxs := hok
    simp only [okXs, Bool.and_true] at hxs
    exact do_nchk ho hx1 he (fun d o' hp => hstl rfl (by rw [hp]) (hlocK hxs))
  · cases hok
end
end Go.Pv
