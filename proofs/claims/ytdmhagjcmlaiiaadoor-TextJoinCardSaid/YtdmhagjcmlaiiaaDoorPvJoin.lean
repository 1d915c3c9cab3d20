/- For every two strings the law TextJoin returns true, and the strings read as before; the listed variables of the library hold what the program's text lays. -/
import Derived.Test.YtdmhagjcmlaiiaaDoorRows
import Derived.Test.YtdmhagjcmlaiiaaDoorPvVX
import Derived.LaidMore
import Derived.OpenShut
import Derived.Stop.Joined
set_option linter.unusedVariables false
set_option linter.unusedSimpArgs false
namespace Go.Proofs.YtdmhagjcmlaiiaaDoor
open Go.ChangeShapes Go.WideShapes Go.ChangeAt Go.RowKit Go.Pv

theorem Tryd.own : ownKnob Tryd.prog.godebug = none := by kernel_rfl
theorem Tryd.mixed : Tryd.prog.follows .mixedOrders = true := by kernel_rfl
/-- The plain wrap for a row that lists variables, the world's shape kept. -/
theorem rih_shaped {H : Type} {enc : TypeId × Value → H} {a : Assume} {C : Checked} {os : Os} {f : FuncId} {fn : Func} {s : ChangeSpec} {conds : List PathCond} {apart fresh handsOn again : Bool} {X : World → Array Value → Prop}
    (own : ownKnob C.prog.godebug = none) (started : os.Started) (noInit : C.prog.inits.idxOf? f = none) (hfn : C.prog.funcs[f]? = some fn)
    (witness : ∃ (w : World) (tape : Tape) (i : Input), w.os = os ∧ (w.forCall tape i).Shaped C.prog ∧ i.vars = [] ∧ Input.okWide C.prog (w.forCall tape i) .any w.heap.size f i ∧
      ((s.pre enc C.prog fn conds apart (w.forCall tape i).memory i.args ∧ X (w.forCall tape i).memory i.args) ∧ sizedMet enc C.prog fn (OpenSpec.ofChange s) apart (w.forCall tape i).memory i.args) ∧ a.holds C.prog (lone (Frame.enter C.prog f i.args .normal) [] (w.forCall tape i)))
    (contract : ∀ (W : World) (base : Nat) (args : Array Value) (ds gs : List (DataW H)) (before : List MemPlace),
      (∀ (j : Nat) t v, fn.params[j]? = some t → args[j]? = some v → Value.okWide C.prog W .any base t v) →
      DataW.Whole enc C.prog fn.params.toList s.vars apart W args.toList ds gs before → W.ShapedOpen C.prog →
      Calls C.prog f args W fun e W' => ∃ v, e = .returned v ∧ s.post enc C.prog fn apart fresh handsOn again W args v W') :
    ReturnsInHanded a C os f .any (fun w args => (s.pre enc C.prog fn conds apart w args ∧ X w args) ∧ sizedMet enc C.prog fn (OpenSpec.ofChange s) apart w args) (s.post enc C.prog fn apart fresh handsOn again) := by
  refine returnsInHanded_of_calls own started noInit witness ?_
  intro w tape i _ hsh _ hok hpre _
  obtain ⟨_, _, _, fn', hfn', _, _, _, _, hval⟩ := hok
  obtain rfl : fn' = fn := Option.some.inj (hfn'.symm.trans hfn)
  obtain ⟨⟨⟨ds, gs, before, hw, _⟩, _⟩, _⟩ := hpre
  refine (contract (w.forCall tape i) w.heap.size i.args ds gs before hval (DataW.Whole.of_heap (w' := w.forCall tape i) (by rfl) hw) hsh).mono fun e W' ⟨v, he, hp⟩ => ?_
  subst he
  exact ChangeSpec.post_blind hp

theorem join_calls (a b : ByteArray) (w : World) (hsh : w.ShapedOpen Tryd.prog) : Calls Tryd.prog 3 #[.string a, .string b] w fun e w' => e = .returned (.bool true) ∧ Kept w w' := by
  obtain ⟨n, hn⟩ := Tryd.laysM146.s1_3 w hsh
  have hn0 : w.cell? ⟨0, 0, none⟩ = some (.int .i64 n) := hn
  have hblk : ∃ (c : Array Value) (ty : TypeId) (fr : Nat × Nat), w.heap[0]? = some (.cells c ty fr) ∧ c[0]? = some (.int .i64 n) := by
    simp only [World.cell?] at hn0
    split at hn0
    · rename_i h; exact ⟨_, _, _, h, by simpa using hn0⟩
    · cases hn0
  obtain ⟨c, ty, fr, h1, h2⟩ := hblk
  exact calls_law (J := Go.Pv.Try.J) (Γ := Go.Pv.Try.Γ) (Xt := Go.Pv.Try.Xd) Tryd.mixed Go.Pv.Try.okF Go.Pv.Try.xd_ok (f := 3) Tryd.func3 (by kernel_rfl) (by decide +kernel) (Go.Pv.Try.TextJoin_all a b) w
    (Array.getElem?_eq_some_iff.1 h1).1 ⟨fun b => w.heap[b]?, ⟨c, ty, fr, n, h1, h2⟩, fun _ _ => rfl⟩ (vs := [.string a, .string b]) rfl (plain_args rfl)

/-- A start: what the door lays, and unicode/utf8's table. -/
noncomputable def start (os : Os) : World := (World.doorLaid Tryd.prog 4000 os).setRow 2 ((Pinned.utf8FirstZ.map fun n : Nat => Value.int .u8 (n : Int)).toArray)
theorem door_met (os : Os) (args : Array Value) : laidMetH Tryd.prog Rows.textJoinRow.laid ((start os).forCall (fun _ _ => 0) ⟨#[], args, []⟩).memory :=
  laidMetH_of_parts3 (fuel := 8) (laidMet_of_run' 8 (by kernel_rfl) (by kernel_rfl)) (by kernel_rfl) (by kernel_rfl)
set_option maxRecDepth 100000 in
theorem join_lifted (os : Os) (started : os.Started) (H : Type) (enc : TypeId × Value → H) :
    ReturnsInHanded {} Tryd.checked os 3 .any (fun w args => (Rows.textJoinSpec.pre enc Tryd.prog Tryd.f3 [] false w args ∧ laidMetH Tryd.prog Rows.textJoinRow.laid w) ∧ sizedMet enc Tryd.prog Tryd.f3 (OpenSpec.ofChange Rows.textJoinSpec) false w args)
      (Rows.textJoinSpec.post enc Tryd.prog Tryd.f3 false true false false) := by
  refine rih_shaped (C := Tryd.checked) (X := fun w _ => laidMetH Tryd.prog Rows.textJoinRow.laid w) Tryd.own started (by kernel_rfl) Tryd.func3
    (ChangeSpec.witness_shaped (enc := enc) (C := Tryd.checked) (os := os) (X := fun w _ => laidMetH Tryd.prog Rows.textJoinRow.laid w) false (start os) #[.string ⟨#[]⟩, .string ⟨#[]⟩] 8 rfl (World.shaped_of_RefB (by kernel_rfl) (by kernel_rfl)) (by kernel_rfl) (by kernel_rfl) (by kernel_rfl) (door_met os _)) ?_
  intro W base args ds gs before hval0 hW hsh
  have hval : ∀ (j : Nat) t v, Tryd.f3.params[j]? = some t → args[j]? = some v → Value.okWide Tryd.prog W .any base t v := hval0
  have hW' := hW
  obtain ⟨p, q, hA0, hV, rfl, hfz, hnd⟩ := hW
  have hA : DataW.TrodAll enc Tryd.prog W 0 (fun _ => true) true Tryd.f3.params.toList args.toList ds p := hA0
  rw [Tryd.params3] at hA hval
  obtain ⟨v0, v1, d0, d1, p0, p1, rfl, rfl, rfl, h0, h1⟩ := trodAll_two hA
  obtain ⟨rfl, rfl⟩ := trodVars_none hV
  obtain ⟨a, rfl, rfl, rfl, wa⟩ := Go.ChangeMaps.open_string Tryd.underlying9 (hval 0 _ v0 rfl rfl) h0
  obtain ⟨b, rfl, rfl, rfl, wb⟩ := Go.ChangeMaps.open_string Tryd.underlying9 (hval 1 _ v1 rfl rfl) h1
  clear hA0 hval0
  simp only [List.append_nil] at hW'
  refine (join_calls a b W hsh).mono fun e W' ⟨he, hk⟩ => ?_
  subst he
  exact ⟨_, rfl, post_of_kept (pa := []) (pv := []) hW' (fun _ _ _ => trodAll_mk1 (shut_bool Tryd.underlying4 true)) (fun sp _ => trodAll_mk2 (Go.ChangeMaps.shut_string Tryd.underlying9 wa) (Go.ChangeMaps.shut_string Tryd.underlying9 wb)) (fun _ _ => rfl) rfl
    hk (ok_one (by kernel_rfl) rfl (okWide_bool_mk Tryd.underlying4 true))⟩

theorem TextJoin_holds : Rows.TextJoinSaid :=
  OpenClaim.holds_of_wide 3 Tryd.f3 rfl rfl rfl rfl rfl rfl rfl ⟨rfl, rfl, rfl, rfl, rfl⟩ rfl rfl rfl rfl rfl (by kernel_rfl) Tryd.func3 (by kernel_rfl)
    (of_decide_eq_true (by kernel_rfl)) (by unfold Func.isWrapper; rw [if_neg (by decide +kernel)]; exact ⟨rfl, rfl⟩)
    (fun os started H enc _ => join_lifted os started H enc)
end Go.Proofs.YtdmhagjcmlaiiaaDoor
