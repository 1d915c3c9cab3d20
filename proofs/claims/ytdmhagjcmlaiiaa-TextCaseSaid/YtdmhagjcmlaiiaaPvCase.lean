/- For every string the law TextCase returns true, and the string reads as before; no condition. -/
import Derived.Test.YtdmhagjcmlaiiaaRows
import Derived.Test.YtdmhagjcmlaiiaaPvP
import Derived.Test.YtdmhagjcmlaiiaaPvS19
set_option linter.unusedVariables false
set_option linter.unusedSimpArgs false
namespace Go.Proofs.Ytdmhagjcmlaiiaa
open Go.ChangeShapes Go.WideShapes Go.ChangeAt Go.RowKit Go.Pv

theorem Try.own : ownKnob Try.prog.godebug = none := by kernel_rfl
theorem Try.mixed : Try.prog.follows .mixedOrders = true := by kernel_rfl
theorem case_calls (a : ByteArray) (w : World) : Calls Try.prog 4 #[.string a] w fun e w' => e = .returned (.bool true) ∧ Kept w w' :=
  calls_law (Γ := Go.Pv.Try.Γ) (Xt := fun _ _ _ => False) Try.mixed Go.Pv.Try.okF (fun _ _ _ _ h => h.elim) (f := 4) Try.func4 (by kernel_rfl) (by decide +kernel) (Go.Pv.Try.TextCase_spec a) w (vs := [.string a]) rfl (plain_args rfl)

set_option maxRecDepth 100000 in
theorem case_lifted (os : Os) (started : os.Started) (H : Type) (enc : TypeId × Value → H) :
    ReturnsInHanded {} Try.checked os 4 .any (Rows.textCaseSpec.pre6 enc Try.prog Try.f4 Rows.textCaseRow.domain false) (Rows.textCaseSpec.post enc Try.prog Try.f4 false true false false) := by
  refine returnsInHanded_of_change (C := Try.checked) Try.own started (by kernel_rfl) Try.func4
    (ChangeSpec.witness6 (enc := enc) (C := Try.checked) false ⟨#[], #[.string ⟨#[]⟩], []⟩ 8 (by kernel_rfl) (by kernel_rfl) (by kernel_rfl) (by kernel_rfl)) ?_
  intro W base args ds gs before hval0 hW hcnd _
  have hval : ∀ (j : Nat) t v, Try.f4.params[j]? = some t → args[j]? = some v → Value.okWide Try.prog W .any base t v := hval0
  have hW' := hW
  obtain ⟨p, q, hA0, hV, rfl, hfz, hnd⟩ := hW
  have hA : DataW.TrodAll enc Try.prog W 0 (fun _ => true) true Try.f4.params.toList args.toList ds p := hA0
  rw [Try.params4] at hA hval
  obtain ⟨v0, d0, rfl, rfl, h0⟩ := trodAll_one hA
  obtain ⟨rfl, rfl⟩ := trodVars_none hV
  obtain ⟨a, rfl, rfl, rfl, wa⟩ := Go.ChangeMaps.open_string Try.underlying9 (hval 0 _ v0 rfl rfl) h0
  clear hA0 hval0
  simp only [List.append_nil] at hW'
  refine (case_calls a W).mono fun e W' ⟨he, hk⟩ => ?_
  subst he
  exact ⟨_, rfl, post_of_kept (pa := []) (pv := []) hW' (fun _ _ _ => trodAll_mk1 (shut_bool Try.underlying4 true)) (fun sp _ => trodAll_mk1 (Go.ChangeMaps.shut_string Try.underlying9 wa)) (fun _ _ => rfl) rfl
    hk (ok_one (by kernel_rfl) rfl (okWide_bool_mk Try.underlying4 true))⟩

theorem TextCase_holds : Rows.TextCaseSaid :=
  OpenClaim.holds_of_wide 4 Try.f4 rfl rfl rfl rfl rfl rfl rfl ⟨rfl, rfl, rfl, rfl, rfl⟩ rfl rfl rfl rfl rfl (by kernel_rfl) Try.func4 (by kernel_rfl)
    (of_decide_eq_true (by kernel_rfl)) (by unfold Func.isWrapper; rw [if_neg (by decide +kernel)]; exact ⟨rfl, rfl⟩)
    (fun os started H enc _ => case_lifted os started H enc)
end Go.Proofs.Ytdmhagjcmlaiiaa
