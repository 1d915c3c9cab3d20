/- Pv: each function of the seat is what its Pv program says. -/
import Derived.Test.YtdmhagjcmlaiiaaDoorPvFns
import Derived.Test.YtdmhagjcmlaiiaaDoorProg
import Derived.KernelRfl
namespace Go.Pv.Try
def F : FuncId → Option Fn
  | 3 => some fn3
  | 4 => some fn4
  | 5 => some fn5
  | 6 => some fn6
  | 7 => some fn7
  | 8 => some fn8
  | 9 => some fn9
  | 10 => some fn10
  | 11 => some fn11
  | 12 => some fn12
  | 13 => some fn13
  | 14 => some fn14
  | 15 => some fn15
  | 16 => some fn16
  | 17 => some fn17
  | 18 => some fn18
  | 19 => some fn19
  | 20 => some fn20
  | 21 => some fn21
  | 22 => some fn22
  | 23 => some fn23
  | 24 => some fn24
  | 25 => some fn25
  | 26 => some fn26
  | 27 => some fn27
  | 28 => some fn28
  | 30 => some fn30
  | 31 => some fn31
  | 32 => some fn32
  | 33 => some fn33
  | 34 => some fn34
  | 35 => some fn35
  | 36 => some fn36
  | 37 => some fn37
  | 38 => some fn38
  | 39 => some fn39
  | 40 => some fn40
  | 41 => some fn41
  | 43 => some fn43
  | 44 => some fn44
  | 48 => some fn48
  | 49 => some fn49
  | 50 => some fn50
  | 51 => some fn51
  | 52 => some fn52
  | 53 => some fn53
  | 54 => some fn54
  | 57 => some fn57
  | 60 => some fn60
  | 61 => some fn61
  | 62 => some fn62
  | 63 => some fn63
  | 64 => some fn64
  | 65 => some fn65
  | _ => none
def Γ : Env := ⟨F, fun _ => ⟨none, []⟩⟩
theorem ok3 : okFnAt Go.Proofs.Tryd.prog Go.Proofs.Tryd.f3 ⟨none, []⟩ fn3 = true := by kernel_rfl
theorem ok4 : okFnAt Go.Proofs.Tryd.prog Go.Proofs.Tryd.f4 ⟨none, []⟩ fn4 = true := by kernel_rfl
theorem ok5 : okFnAt Go.Proofs.Tryd.prog Go.Proofs.Tryd.f5 ⟨none, []⟩ fn5 = true := by kernel_rfl
theorem ok6 : okFnAt Go.Proofs.Tryd.prog Go.Proofs.Tryd.f6 ⟨none, []⟩ fn6 = true := by kernel_rfl
theorem ok7 : okFnAt Go.Proofs.Tryd.prog Go.Proofs.Tryd.f7 ⟨none, []⟩ fn7 = true := by kernel_rfl
theorem ok8 : okFnAt Go.Proofs.Tryd.prog Go.Proofs.Tryd.f8 ⟨none, []⟩ fn8 = true := by kernel_rfl
theorem ok9 : okFnAt Go.Proofs.Tryd.prog Go.Proofs.Tryd.f9 ⟨none, []⟩ fn9 = true := by kernel_rfl
theorem ok10 : okFnAt Go.Proofs.Tryd.prog Go.Proofs.Tryd.f10 ⟨none, []⟩ fn10 = true := by kernel_rfl
theorem ok11 : okFnAt Go.Proofs.Tryd.prog Go.Proofs.Tryd.f11 ⟨none, []⟩ fn11 = true := by kernel_rfl
theorem ok12 : okFnAt Go.Proofs.Tryd.prog Go.Proofs.Tryd.f12 ⟨none, []⟩ fn12 = true := by kernel_rfl
theorem ok13 : okFnAt Go.Proofs.Tryd.prog Go.Proofs.Tryd.f13 ⟨none, []⟩ fn13 = true := by kernel_rfl
theorem ok14 : okFnAt Go.Proofs.Tryd.prog Go.Proofs.Tryd.f14 ⟨none, []⟩ fn14 = true := by kernel_rfl
theorem ok15 : okFnAt Go.Proofs.Tryd.prog Go.Proofs.Tryd.f15 ⟨none, []⟩ fn15 = true := by kernel_rfl
theorem ok16 : okFnAt Go.Proofs.Tryd.prog Go.Proofs.Tryd.f16 ⟨none, []⟩ fn16 = true := by kernel_rfl
theorem ok17 : okFnAt Go.Proofs.Tryd.prog Go.Proofs.Tryd.f17 ⟨none, []⟩ fn17 = true := by kernel_rfl
theorem ok18 : okFnAt Go.Proofs.Tryd.prog Go.Proofs.Tryd.f18 ⟨none, []⟩ fn18 = true := by kernel_rfl
theorem ok19 : okFnAt Go.Proofs.Tryd.prog Go.Proofs.Tryd.f19 ⟨none, []⟩ fn19 = true := by kernel_rfl
theorem ok20 : okFnAt Go.Proofs.Tryd.prog Go.Proofs.Tryd.f20 ⟨none, []⟩ fn20 = true := by kernel_rfl
theorem ok21 : okFnAt Go.Proofs.Tryd.prog Go.Proofs.Tryd.f21 ⟨none, []⟩ fn21 = true := by kernel_rfl
theorem ok22 : okFnAt Go.Proofs.Tryd.prog Go.Proofs.Tryd.f22 ⟨none, []⟩ fn22 = true := by kernel_rfl
theorem ok23 : okFnAt Go.Proofs.Tryd.prog Go.Proofs.Tryd.f23 ⟨none, []⟩ fn23 = true := by kernel_rfl
theorem ok24 : okFnAt Go.Proofs.Tryd.prog Go.Proofs.Tryd.f24 ⟨none, []⟩ fn24 = true := by kernel_rfl
theorem ok25 : okFnAt Go.Proofs.Tryd.prog Go.Proofs.Tryd.f25 ⟨none, []⟩ fn25 = true := by kernel_rfl
theorem ok26 : okFnAt Go.Proofs.Tryd.prog Go.Proofs.Tryd.f26 ⟨none, []⟩ fn26 = true := by kernel_rfl
theorem ok27 : okFnAt Go.Proofs.Tryd.prog Go.Proofs.Tryd.f27 ⟨none, []⟩ fn27 = true := by kernel_rfl
theorem ok28 : okFnAt Go.Proofs.Tryd.prog Go.Proofs.Tryd.f28 ⟨none, []⟩ fn28 = true := by kernel_rfl
theorem ok30 : okFnAt Go.Proofs.Tryd.prog Go.Proofs.Tryd.f30 ⟨none, []⟩ fn30 = true := by kernel_rfl
theorem ok31 : okFnAt Go.Proofs.Tryd.prog Go.Proofs.Tryd.f31 ⟨none, []⟩ fn31 = true := by kernel_rfl
theorem ok32 : okFnAt Go.Proofs.Tryd.prog Go.Proofs.Tryd.f32 ⟨none, []⟩ fn32 = true := by kernel_rfl
theorem ok33 : okFnAt Go.Proofs.Tryd.prog Go.Proofs.Tryd.f33 ⟨none, []⟩ fn33 = true := by kernel_rfl
theorem ok34 : okFnAt Go.Proofs.Tryd.prog Go.Proofs.Tryd.f34 ⟨none, []⟩ fn34 = true := by kernel_rfl
theorem ok35 : okFnAt Go.Proofs.Tryd.prog Go.Proofs.Tryd.f35 ⟨none, []⟩ fn35 = true := by kernel_rfl
theorem ok36 : okFnAt Go.Proofs.Tryd.prog Go.Proofs.Tryd.f36 ⟨none, []⟩ fn36 = true := by kernel_rfl
theorem ok37 : okFnAt Go.Proofs.Tryd.prog Go.Proofs.Tryd.f37 ⟨none, []⟩ fn37 = true := by kernel_rfl
theorem ok38 : okFnAt Go.Proofs.Tryd.prog Go.Proofs.Tryd.f38 ⟨none, []⟩ fn38 = true := by kernel_rfl
theorem ok39 : okFnAt Go.Proofs.Tryd.prog Go.Proofs.Tryd.f39 ⟨none, []⟩ fn39 = true := by kernel_rfl
theorem ok40 : okFnAt Go.Proofs.Tryd.prog Go.Proofs.Tryd.f40 ⟨none, []⟩ fn40 = true := by kernel_rfl
theorem ok41 : okFnAt Go.Proofs.Tryd.prog Go.Proofs.Tryd.f41 ⟨none, []⟩ fn41 = true := by kernel_rfl
theorem ok43 : okFnAt Go.Proofs.Tryd.prog Go.Proofs.Tryd.f43 ⟨none, []⟩ fn43 = true := by kernel_rfl
theorem ok44 : okFnAt Go.Proofs.Tryd.prog Go.Proofs.Tryd.f44 ⟨none, []⟩ fn44 = true := by kernel_rfl
theorem ok48 : okFnAt Go.Proofs.Tryd.prog Go.Proofs.Tryd.f48 ⟨none, []⟩ fn48 = true := by kernel_rfl
theorem ok49 : okFnAt Go.Proofs.Tryd.prog Go.Proofs.Tryd.f49 ⟨none, []⟩ fn49 = true := by kernel_rfl
theorem ok50 : okFnAt Go.Proofs.Tryd.prog Go.Proofs.Tryd.f50 ⟨none, []⟩ fn50 = true := by kernel_rfl
theorem ok51 : okFnAt Go.Proofs.Tryd.prog Go.Proofs.Tryd.f51 ⟨none, []⟩ fn51 = true := by kernel_rfl
theorem ok52 : okFnAt Go.Proofs.Tryd.prog Go.Proofs.Tryd.f52 ⟨none, []⟩ fn52 = true := by kernel_rfl
theorem ok53 : okFnAt Go.Proofs.Tryd.prog Go.Proofs.Tryd.f53 ⟨none, []⟩ fn53 = true := by kernel_rfl
theorem ok54 : okFnAt Go.Proofs.Tryd.prog Go.Proofs.Tryd.f54 ⟨none, []⟩ fn54 = true := by kernel_rfl
theorem ok57 : okFnAt Go.Proofs.Tryd.prog Go.Proofs.Tryd.f57 ⟨none, []⟩ fn57 = true := by kernel_rfl
theorem ok60 : okFnAt Go.Proofs.Tryd.prog Go.Proofs.Tryd.f60 ⟨none, []⟩ fn60 = true := by kernel_rfl
theorem ok61 : okFnAt Go.Proofs.Tryd.prog Go.Proofs.Tryd.f61 ⟨none, []⟩ fn61 = true := by kernel_rfl
theorem ok62 : okFnAt Go.Proofs.Tryd.prog Go.Proofs.Tryd.f62 ⟨none, []⟩ fn62 = true := by kernel_rfl
theorem ok63 : okFnAt Go.Proofs.Tryd.prog Go.Proofs.Tryd.f63 ⟨none, []⟩ fn63 = true := by kernel_rfl
theorem ok64 : okFnAt Go.Proofs.Tryd.prog Go.Proofs.Tryd.f64 ⟨none, []⟩ fn64 = true := by kernel_rfl
theorem ok65 : okFnAt Go.Proofs.Tryd.prog Go.Proofs.Tryd.f65 ⟨none, []⟩ fn65 = true := by kernel_rfl
theorem at3 : Go.Proofs.Tryd.prog.funcs[(3 : Nat)]? = some Go.Proofs.Tryd.f3 := by kernel_rfl
theorem at4 : Go.Proofs.Tryd.prog.funcs[(4 : Nat)]? = some Go.Proofs.Tryd.f4 := by kernel_rfl
theorem at5 : Go.Proofs.Tryd.prog.funcs[(5 : Nat)]? = some Go.Proofs.Tryd.f5 := by kernel_rfl
theorem at6 : Go.Proofs.Tryd.prog.funcs[(6 : Nat)]? = some Go.Proofs.Tryd.f6 := by kernel_rfl
theorem at7 : Go.Proofs.Tryd.prog.funcs[(7 : Nat)]? = some Go.Proofs.Tryd.f7 := by kernel_rfl
theorem at8 : Go.Proofs.Tryd.prog.funcs[(8 : Nat)]? = some Go.Proofs.Tryd.f8 := by kernel_rfl
theorem at9 : Go.Proofs.Tryd.prog.funcs[(9 : Nat)]? = some Go.Proofs.Tryd.f9 := by kernel_rfl
theorem at10 : Go.Proofs.Tryd.prog.funcs[(10 : Nat)]? = some Go.Proofs.Tryd.f10 := by kernel_rfl
theorem at11 : Go.Proofs.Tryd.prog.funcs[(11 : Nat)]? = some Go.Proofs.Tryd.f11 := by kernel_rfl
theorem at12 : Go.Proofs.Tryd.prog.funcs[(12 : Nat)]? = some Go.Proofs.Tryd.f12 := by kernel_rfl
theorem at13 : Go.Proofs.Tryd.prog.funcs[(13 : Nat)]? = some Go.Proofs.Tryd.f13 := by kernel_rfl
theorem at14 : Go.Proofs.Tryd.prog.funcs[(14 : Nat)]? = some Go.Proofs.Tryd.f14 := by kernel_rfl
theorem at15 : Go.Proofs.Tryd.prog.funcs[(15 : Nat)]? = some Go.Proofs.Tryd.f15 := by kernel_rfl
theorem at16 : Go.Proofs.Tryd.prog.funcs[(16 : Nat)]? = some Go.Proofs.Tryd.f16 := by kernel_rfl
theorem at17 : Go.Proofs.Tryd.prog.funcs[(17 : Nat)]? = some Go.Proofs.Tryd.f17 := by kernel_rfl
theorem at18 : Go.Proofs.Tryd.prog.funcs[(18 : Nat)]? = some Go.Proofs.Tryd.f18 := by kernel_rfl
theorem at19 : Go.Proofs.Tryd.prog.funcs[(19 : Nat)]? = some Go.Proofs.Tryd.f19 := by kernel_rfl
theorem at20 : Go.Proofs.Tryd.prog.funcs[(20 : Nat)]? = some Go.Proofs.Tryd.f20 := by kernel_rfl
theorem at21 : Go.Proofs.Tryd.prog.funcs[(21 : Nat)]? = some Go.Proofs.Tryd.f21 := by kernel_rfl
theorem at22 : Go.Proofs.Tryd.prog.funcs[(22 : Nat)]? = some Go.Proofs.Tryd.f22 := by kernel_rfl
theorem at23 : Go.Proofs.Tryd.prog.funcs[(23 : Nat)]? = some Go.Proofs.Tryd.f23 := by kernel_rfl
theorem at24 : Go.Proofs.Tryd.prog.funcs[(24 : Nat)]? = some Go.Proofs.Tryd.f24 := by kernel_rfl
theorem at25 : Go.Proofs.Tryd.prog.funcs[(25 : Nat)]? = some Go.Proofs.Tryd.f25 := by kernel_rfl
theorem at26 : Go.Proofs.Tryd.prog.funcs[(26 : Nat)]? = some Go.Proofs.Tryd.f26 := by kernel_rfl
theorem at27 : Go.Proofs.Tryd.prog.funcs[(27 : Nat)]? = some Go.Proofs.Tryd.f27 := by kernel_rfl
theorem at28 : Go.Proofs.Tryd.prog.funcs[(28 : Nat)]? = some Go.Proofs.Tryd.f28 := by kernel_rfl
theorem at30 : Go.Proofs.Tryd.prog.funcs[(30 : Nat)]? = some Go.Proofs.Tryd.f30 := by kernel_rfl
theorem at31 : Go.Proofs.Tryd.prog.funcs[(31 : Nat)]? = some Go.Proofs.Tryd.f31 := by kernel_rfl
theorem at32 : Go.Proofs.Tryd.prog.funcs[(32 : Nat)]? = some Go.Proofs.Tryd.f32 := by kernel_rfl
theorem at33 : Go.Proofs.Tryd.prog.funcs[(33 : Nat)]? = some Go.Proofs.Tryd.f33 := by kernel_rfl
theorem at34 : Go.Proofs.Tryd.prog.funcs[(34 : Nat)]? = some Go.Proofs.Tryd.f34 := by kernel_rfl
theorem at35 : Go.Proofs.Tryd.prog.funcs[(35 : Nat)]? = some Go.Proofs.Tryd.f35 := by kernel_rfl
theorem at36 : Go.Proofs.Tryd.prog.funcs[(36 : Nat)]? = some Go.Proofs.Tryd.f36 := by kernel_rfl
theorem at37 : Go.Proofs.Tryd.prog.funcs[(37 : Nat)]? = some Go.Proofs.Tryd.f37 := by kernel_rfl
theorem at38 : Go.Proofs.Tryd.prog.funcs[(38 : Nat)]? = some Go.Proofs.Tryd.f38 := by kernel_rfl
theorem at39 : Go.Proofs.Tryd.prog.funcs[(39 : Nat)]? = some Go.Proofs.Tryd.f39 := by kernel_rfl
theorem at40 : Go.Proofs.Tryd.prog.funcs[(40 : Nat)]? = some Go.Proofs.Tryd.f40 := by kernel_rfl
theorem at41 : Go.Proofs.Tryd.prog.funcs[(41 : Nat)]? = some Go.Proofs.Tryd.f41 := by kernel_rfl
theorem at43 : Go.Proofs.Tryd.prog.funcs[(43 : Nat)]? = some Go.Proofs.Tryd.f43 := by kernel_rfl
theorem at44 : Go.Proofs.Tryd.prog.funcs[(44 : Nat)]? = some Go.Proofs.Tryd.f44 := by kernel_rfl
theorem at48 : Go.Proofs.Tryd.prog.funcs[(48 : Nat)]? = some Go.Proofs.Tryd.f48 := by kernel_rfl
theorem at49 : Go.Proofs.Tryd.prog.funcs[(49 : Nat)]? = some Go.Proofs.Tryd.f49 := by kernel_rfl
theorem at50 : Go.Proofs.Tryd.prog.funcs[(50 : Nat)]? = some Go.Proofs.Tryd.f50 := by kernel_rfl
theorem at51 : Go.Proofs.Tryd.prog.funcs[(51 : Nat)]? = some Go.Proofs.Tryd.f51 := by kernel_rfl
theorem at52 : Go.Proofs.Tryd.prog.funcs[(52 : Nat)]? = some Go.Proofs.Tryd.f52 := by kernel_rfl
theorem at53 : Go.Proofs.Tryd.prog.funcs[(53 : Nat)]? = some Go.Proofs.Tryd.f53 := by kernel_rfl
theorem at54 : Go.Proofs.Tryd.prog.funcs[(54 : Nat)]? = some Go.Proofs.Tryd.f54 := by kernel_rfl
theorem at57 : Go.Proofs.Tryd.prog.funcs[(57 : Nat)]? = some Go.Proofs.Tryd.f57 := by kernel_rfl
theorem at60 : Go.Proofs.Tryd.prog.funcs[(60 : Nat)]? = some Go.Proofs.Tryd.f60 := by kernel_rfl
theorem at61 : Go.Proofs.Tryd.prog.funcs[(61 : Nat)]? = some Go.Proofs.Tryd.f61 := by kernel_rfl
theorem at62 : Go.Proofs.Tryd.prog.funcs[(62 : Nat)]? = some Go.Proofs.Tryd.f62 := by kernel_rfl
theorem at63 : Go.Proofs.Tryd.prog.funcs[(63 : Nat)]? = some Go.Proofs.Tryd.f63 := by kernel_rfl
theorem at64 : Go.Proofs.Tryd.prog.funcs[(64 : Nat)]? = some Go.Proofs.Tryd.f64 := by kernel_rfl
theorem at65 : Go.Proofs.Tryd.prog.funcs[(65 : Nat)]? = some Go.Proofs.Tryd.f65 := by kernel_rfl
theorem okF : ∀ f fn, Γ.F f = some fn → ∃ func, Go.Proofs.Tryd.prog.funcs[f]? = some func ∧ okFnAt Go.Proofs.Tryd.prog func (Γ.sig f) fn = true := by
  intro f fn h
  simp only [Γ, F] at h
  split at h
  · cases h; exact ⟨_, at3, ok3⟩
  · cases h; exact ⟨_, at4, ok4⟩
  · cases h; exact ⟨_, at5, ok5⟩
  · cases h; exact ⟨_, at6, ok6⟩
  · cases h; exact ⟨_, at7, ok7⟩
  · cases h; exact ⟨_, at8, ok8⟩
  · cases h; exact ⟨_, at9, ok9⟩
  · cases h; exact ⟨_, at10, ok10⟩
  · cases h; exact ⟨_, at11, ok11⟩
  · cases h; exact ⟨_, at12, ok12⟩
  · cases h; exact ⟨_, at13, ok13⟩
  · cases h; exact ⟨_, at14, ok14⟩
  · cases h; exact ⟨_, at15, ok15⟩
  · cases h; exact ⟨_, at16, ok16⟩
  · cases h; exact ⟨_, at17, ok17⟩
  · cases h; exact ⟨_, at18, ok18⟩
  · cases h; exact ⟨_, at19, ok19⟩
  · cases h; exact ⟨_, at20, ok20⟩
  · cases h; exact ⟨_, at21, ok21⟩
  · cases h; exact ⟨_, at22, ok22⟩
  · cases h; exact ⟨_, at23, ok23⟩
  · cases h; exact ⟨_, at24, ok24⟩
  · cases h; exact ⟨_, at25, ok25⟩
  · cases h; exact ⟨_, at26, ok26⟩
  · cases h; exact ⟨_, at27, ok27⟩
  · cases h; exact ⟨_, at28, ok28⟩
  · cases h; exact ⟨_, at30, ok30⟩
  · cases h; exact ⟨_, at31, ok31⟩
  · cases h; exact ⟨_, at32, ok32⟩
  · cases h; exact ⟨_, at33, ok33⟩
  · cases h; exact ⟨_, at34, ok34⟩
  · cases h; exact ⟨_, at35, ok35⟩
  · cases h; exact ⟨_, at36, ok36⟩
  · cases h; exact ⟨_, at37, ok37⟩
  · cases h; exact ⟨_, at38, ok38⟩
  · cases h; exact ⟨_, at39, ok39⟩
  · cases h; exact ⟨_, at40, ok40⟩
  · cases h; exact ⟨_, at41, ok41⟩
  · cases h; exact ⟨_, at43, ok43⟩
  · cases h; exact ⟨_, at44, ok44⟩
  · cases h; exact ⟨_, at48, ok48⟩
  · cases h; exact ⟨_, at49, ok49⟩
  · cases h; exact ⟨_, at50, ok50⟩
  · cases h; exact ⟨_, at51, ok51⟩
  · cases h; exact ⟨_, at52, ok52⟩
  · cases h; exact ⟨_, at53, ok53⟩
  · cases h; exact ⟨_, at54, ok54⟩
  · cases h; exact ⟨_, at57, ok57⟩
  · cases h; exact ⟨_, at60, ok60⟩
  · cases h; exact ⟨_, at61, ok61⟩
  · cases h; exact ⟨_, at62, ok62⟩
  · cases h; exact ⟨_, at63, ok63⟩
  · cases h; exact ⟨_, at64, ok64⟩
  · cases h; exact ⟨_, at65, ok65⟩
  · cases h
end Go.Pv.Try
