/- Pv: strings.Split and strings.Join, taken from the shelf's contracts. -/
import Derived.Test.YtdmhagjcmlaiiaaDoorPvY
import Derived.Test.YtdmhagjcmlaiiaaDoorPvLay
import Derived.Test.YtdmhagjcmlaiiaaDoorPvVQ
set_option linter.unusedVariables false
set_option linter.unusedSimpArgs false
namespace Go.Pv.Try
open Go.Proofs Go.RowKit
/-- What is known of the first block: internal/bytealg.MaxLen holds an int. -/
def J : Ix := ⟨1, fun φ => ∃ (c : Array Value) (ty : TypeId) (fr : Nat × Nat) (n : Int), φ 0 = some (.cells c ty fr) ∧ c[0]? = some (.int .i64 n)⟩
theorem maxLen_of {g : G} {w : World} (h : Fix J g w) : ∃ n : Int, w.cell? ⟨0, 0, none⟩ = some (.int .i64 n) := by
  obtain ⟨_, _, φ, ⟨c, ty, fr, n, h1, h2⟩, h3⟩ := h
  have := h3 0 (by decide)
  rw [h1] at this
  exact ⟨n, by simp [World.cell?, this, h2]⟩
theorem args2 {g : G} {w : World} {p q : PV} {vs : List Value} (hl : [p, q].length = vs.length) (h : ∀ (j : Nat) (c : PV) (u : Value), [p, q][j]? = some c → vs[j]? = some u → Rr g w c u ∧ OwnP g w (.slot j) c u) : ∃ a b, vs = [a, b] ∧ Rr g w p a ∧ Rr g w q b := by
  match vs, hl with
  | [a, b], _ => exact ⟨a, b, rfl, (h 0 _ _ rfl rfl).1, (h 1 _ _ rfl rfl).1⟩
theorem split_ok (s sep : ByteArray) (m : Mem) (h1 : 1 ≤ sep.size) (hs : s.size ≤ 4096) : CallOk Tryd.prog J 55 [.v (.string s), .v (.string sep)] m (.sl .ro (some false) ((Lib.splitB sep 0 (Lib.countB s sep) s).map strP)) m := by
  intro g w vs hlen hargs hset hfix
  obtain ⟨a, b, rfl, ha, hb⟩ := args2 hlen hargs
  obtain rfl := ha.inv_v
  obtain rfl := hb.inv_v
  obtain ⟨n, hn⟩ := maxLen_of hfix
  refine go_of_calls (run_enter Tryd.func55 (by kernel_rfl) (by decide +kernel) _ w) ((Tryd.strings_Split s sep n w (by omega) hn h1).mono fun e w' ⟨he, hw⟩ => ⟨_, he, ?_⟩)
  subst hw
  have hlen' := Lib.splitB_all sep h1 0 _ s rfl
  obtain ⟨g', h2, h3, h4, h5⟩ := fwd_row (ty := 9) hset (us := (Lib.splitB sep 0 (Lib.countB s sep) s).map Value.string) (fun u hu => by
    obtain ⟨x, _, rfl⟩ := List.mem_map.1 hu
    rfl) (fun h => splitB_ne sep _ s (List.map_eq_nil_iff.1 h))
  rw [List.length_map, hlen', List.map_map] at h3 h4
  exact ⟨g', h2, h3, h4, h5⟩
theorem lens_tot (ks : List ByteArray) : Lib.lens (ks.map (·.data.toList)) = tot ks := by
  induction ks with
  | nil => rfl
  | cons a l ih =>
    simp only [List.map_cons, tot, ← ih]
    simp [Lib.lens]
theorem join_len (ks : List ByteArray) (sep : ByteArray) : (Lib.join (ks.map (·.data.toList)) sep.data.toList).length ≤ tot ks + sep.size * (ks.length - 1) := by
  cases ks with
  | nil => simp [Lib.join_nil]
  | cons a l =>
    rw [List.map_cons, Lib.join_length, ← List.map_cons (f := fun b : ByteArray => b.data.toList), lens_tot, dsize, List.length_map]
    simp only [List.length_cons, Nat.add_sub_cancel]
    omega
theorem join_ok (b : Bool) (ks : List ByteArray) (sep : ByteArray) (m : Mem) (hk : ks.length ≤ 4096) (ht : tot ks + sep.size * (ks.length - 1) ≤ 4096) : CallOk Tryd.prog J 29 [.sl .ro (some (b && ks.isEmpty)) (ks.map strP), .v (.string sep)] m (.v (.string (joinB ks sep))) m := by
  intro g w vs hlen hargs hset hfix
  obtain ⟨u, v, rfl, ha, hb⟩ := args2 hlen hargs
  obtain rfl := hb.inv_v
  obtain ⟨A, cap, rfl, hc, _, _, _, _, hat0⟩ := ha.inv_sl
  refine go_of_calls (run_enter Tryd.func29 (by kernel_rfl) (by decide +kernel) _ w) ?_
  rw [List.length_map] at hc ⊢
  by_cases hz : ks = []
  · subst hz
    refine (Tryd.strings_Join_none A cap sep w).mono fun e w' ⟨he, hw⟩ => ⟨_, he, g, ?_⟩
    subst hw
    exact ⟨.refl _ _, .v _, ownP_of (by simp) (by simp), hset⟩
  · obtain ⟨bk, o, sz, rfl, hat⟩ := hat0 (by simpa using hz)
    have hsz : sz = 1 := by
      obtain ⟨x, l, rfl⟩ := List.exists_cons_of_ne_nil hz
      have := (hat.size 0 (strP x) rfl).1
      simpa [strP, PV.cells] using this.symm
    subst hsz
    have hcells : ∀ (j : Nat) x, ks[j]? = some x → w.cell? ⟨bk, o + j, none⟩ = some (.string x) := by
      intro j x hx
      obtain ⟨u, hu, hr⟩ := hat.cell j 0 (strP x) (strP x) (by simp [hx]) rfl
      have hr' : Rr g w (.v (.string x)) u := hr
      rw [hr'.inv_v, Nat.mul_one, Nat.add_zero] at hu
      exact hu
    have hbk : bk < w.heap.size := by
      obtain ⟨x, l, rfl⟩ := List.exists_cons_of_ne_nil hz
      have := hcells 0 x rfl
      simp only [World.cell?] at this
      split at this
      · rename_i h; exact (Array.getElem?_eq_some_iff.1 h).1
      · cases this
    have hl := join_len ks sep
    refine (Tryd.strings_Join bk o cap ks sep w hcells hbk (by omega) hc (by omega)).mono fun e w' ⟨he, hw⟩ => ⟨_, he, g, ?_⟩
    obtain ⟨h2, h3⟩ := fwd_below hset hw
    exact ⟨h2, .v _, ownP_of (by simp) (by simp), h3⟩
/-- The two, as a relation. -/
def Xd : XRel := fun f xs res => (f = 55 ∧ ∃ s sep : ByteArray, 1 ≤ sep.size ∧ s.size ≤ 4096 ∧ xs = [.v (.string s), .v (.string sep)] ∧ res = .sl .ro (some false) ((Lib.splitB sep 0 (Lib.countB s sep) s).map strP)) ∨
  (f = 29 ∧ ∃ (b : Bool) (ks : List ByteArray) (sep : ByteArray), ks.length ≤ 4096 ∧ tot ks + sep.size * (ks.length - 1) ≤ 4096 ∧ xs = [.sl .ro (some (b && ks.isEmpty)) (ks.map strP), .v (.string sep)] ∧ res = .v (.string (joinB ks sep)))
theorem xd_ok : ∀ f xs res m, Xd f xs res → CallOk Tryd.prog J f xs m res m := by
  rintro f xs res m (⟨rfl, s, sep, h1, h2, rfl, rfl⟩ | ⟨rfl, b, ks, sep, h1, h2, rfl, rfl⟩)
  · exact split_ok s sep m h1 h2
  · exact join_ok b ks sep m h1 h2
theorem xd_split : XSplit Xd := fun s sep h1 h2 => ⟨0, Or.inl ⟨rfl, s, sep, h1, h2, rfl, rfl⟩, rfl⟩
theorem xd_join : XJoin Xd := fun b ks sep h1 h2 => ⟨0, Or.inr ⟨rfl, b, ks, sep, h1, h2, rfl, rfl⟩, rfl⟩
theorem TextJoin_all (a b : ByteArray) : CallT Γ Xd 3 [.v (.string a), .v (.string b)] [] (.v (.bool true)) [] := TextJoin_spec xd_split xd_join a b
end Go.Pv.Try
