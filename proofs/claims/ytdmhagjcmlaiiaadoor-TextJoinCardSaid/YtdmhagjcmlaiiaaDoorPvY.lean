/- Pv, part Y: contracts of the library's functions, as the machine takes them. -/
import Derived.Test.YtdmhagjcmlaiiaaDoorPvP
set_option linter.unusedVariables false
set_option linter.unusedSimpArgs false
namespace Go.Pv
open Go.RowKit
theorem flat_v : ∀ us : List Value, flat (us.map .v) = us.map .v
  | [] => rfl
  | a :: l => by
    have := flat_v l
    simp only [flat] at this ⊢
    simp only [List.map_cons, List.flatMap_cons, this, cells_v, List.singleton_append]
section
variable {P : Program} {g : G} {w w' : World} {m : Mem}

theorem go_of_calls {f : FuncId} {args : Array Value} {R : Value → World → Prop} (he : (callFunc f args).run P w = .ok (.enter f args) w) (h : Calls P f args w fun e w' => ∃ v, e = .returned v ∧ R v w') : CallGo P f args w R :=
  .inl ⟨he, h.mono fun e w' ⟨v, hv, hr⟩ => by subst hv; exact hr⟩

/-- New blocks alone: all that was there is as it was. -/
theorem fwd_below (hs : Settled g w m) (hb : Below w.heap.size w w') : Fwd g w g w' ∧ Settled g w' m := by
  have lt_of : ∀ b, 0 < g.fill b → b < w.heap.size := fun b h => by
    obtain ⟨vs, ty, fr, h1, _⟩ := hs.gw b h
    exact (Array.getElem?_eq_some_iff.1 h1).1
  have hm : Mono g w g w' := ⟨fun _ => Nat.le_refl _, fun b i hi => by
    have := hb.block b (lt_of b (by omega))
    simp only [World.cell?, this], Nat.le_refl _, fun _ _ => rfl⟩
  have own : ∀ {q : Pos} {j : Nat} {x : PV} {u : Value}, Own1 g w q j x u → Own1 g w' q j x u := by
    intro q j x u h e nl xs hx
    obtain ⟨A, cap, hu, h | ⟨b, o, vs, ty, hA, hcl, hf, hh, hsz⟩⟩ := h e nl xs hx
    · exact ⟨A, cap, hu, .inl h⟩
    · exact ⟨A, cap, hu, .inr ⟨b, o, vs, ty, hA, hcl, hf, (hb.block b (Array.getElem?_eq_some_iff.1 hh).1).trans hh, hsz⟩⟩
  refine ⟨⟨hm, hb.os, hb.tape, hb.output, hb.size, fun b hc hl => ⟨hb.block b hl, hc, rfl⟩, fun b h => h⟩, hs.num, fun i c hc => ?_, fun b h => ?_, fun b h => hs.fr b (Nat.le_trans hb.size h)⟩
  · obtain ⟨vs, ty, fz, h1, h2, h3, h4, h5⟩ := hs.objs i c hc
    exact ⟨vs, ty, fz, (hb.block _ (Array.getElem?_eq_some_iff.1 h1).1).trans h1, h2, h3, h4, fun j x u hx hu => ⟨(h5 j x u hx hu).1.mono hm, own (h5 j x u hx hu).2⟩⟩
  · obtain ⟨vs, ty, fr, h1, h2⟩ := hs.gw b h
    exact ⟨vs, ty, fr, (hb.block b (lt_of b h)).trans h1, h2⟩

/-- A result that is a new row of plain values. -/
theorem fwd_row (hs : Settled g w m) {us : List Value} {ty : TypeId} (h1 : ∀ u ∈ us, u.oneCell' = true) (hne : us ≠ []) :
    ∃ g', Fwd g w g' (w.alloc (.cells us.toArray ty)) ∧ Rr g' (w.alloc (.cells us.toArray ty)) (.sl .ro (some false) (us.map .v)) (.slice (some ⟨w.heap.size, 0, none⟩) us.length us.length) ∧
      OwnP g' (w.alloc (.cells us.toArray ty)) (.ret 0) (.sl .ro (some false) (us.map .v)) (.slice (some ⟨w.heap.size, 0, none⟩) us.length us.length) ∧ Settled g' (w.alloc (.cells us.toArray ty)) m := by
  have hn : NewBlock w (w.alloc (.cells us.toArray ty)) (.cells us.toArray ty (0, 0)) := ⟨rfl, rfl, rfl, rfl⟩
  have hk := keep_new (K := fun _ => False) hn (f := us.length) (c := .free) (by simp) (by simp) hs.gw hs.fr
  have hlies := lies_new hn (us := us) (rest := []) (by simp)
  have hflat := flat_v us
  have hok : ∀ p ∈ us.map PV.v, p.cells.length = 1 ∧ p.cells.all PV.leaf = true := by
    intro p hp
    obtain ⟨u, hu, rfl⟩ := List.mem_map.1 hp
    exact ⟨rfl, by simp [PV.cells, PV.leaf, h1 u hu]⟩
  have hat : At (g.new w.heap.size us.length .free) (w.alloc (.cells us.toArray ty)) (us.map .v) w.heap.size 0 1 := at_of_row (by simp [G.new]) hok hlies (by simp) fun k c u hc hu => by
    rw [hflat] at hc
    simp only [List.getElem?_map, Option.map_eq_some_iff] at hc
    obtain ⟨x, hx, rfl⟩ := hc
    rw [hx] at hu
    cases hu
    exact .v _
  have hl : (us.map PV.v).length = us.length := List.length_map _
  refine ⟨g.new w.heap.size us.length .free, hk.toFwd, ?_, ownP_of (by simp) (by simp), hs.num, fun i c hc => (hs.objs i c hc).keep hk (by simp) (.inr ⟨i, rfl⟩), hk.gw hs.gw, hk.fr hs.fr⟩
  have := Rr.mk_sl (g := g.new w.heap.size us.length .free) (w := w.alloc (.cells us.toArray ty)) (m := .ro) (nl := some false) (xs := us.map PV.v) (A := some ⟨w.heap.size, 0, none⟩) (cap := us.length) (by rw [hl]; exact Nat.le_refl _) (by simp) (by simp) (by simp) (by simp) fun _ => ⟨_, _, 1, rfl, hat⟩
  rwa [hl] at this
end
end Go.Pv
