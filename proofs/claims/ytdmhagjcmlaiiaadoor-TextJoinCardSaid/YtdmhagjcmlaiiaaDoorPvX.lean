/- Pv, part X: equations for the forward evaluation. -/
import Derived.Test.YtdmhagjcmlaiiaaDoorPvR
set_option linter.unusedVariables false
set_option linter.unusedSimpArgs false
namespace Go.Pv
section
variable {k : IntKind} {a b : Int} {s t : ByteArray}
theorem q_add : pBin .add (.v (.int k a)) (.v (.int k b)) = some (.v (.int k (k.wrap (a + b)))) := by simp [pBin, binV, intV, pureOf, Op.intArith, pure]
theorem q_sub : pBin .sub (.v (.int k a)) (.v (.int k b)) = some (.v (.int k (k.wrap (a - b)))) := by simp [pBin, binV, intV, pureOf, Op.intArith, pure]
theorem q_mul : pBin .mul (.v (.int k a)) (.v (.int k b)) = some (.v (.int k (k.wrap (a * b)))) := by simp [pBin, binV, intV, pureOf, Op.intArith, pure]
theorem q_eql : pBin .eql (.v (.int k a)) (.v (.int k b)) = some (.v (.bool (a == b))) := by simp [pBin, binV, intV]
theorem q_neq : pBin .neq (.v (.int k a)) (.v (.int k b)) = some (.v (.bool (a != b))) := by simp [pBin, binV, intV]
theorem q_lss : pBin .lss (.v (.int k a)) (.v (.int k b)) = some (.v (.bool (decide (a < b)))) := by simp [pBin, binV, intV]
theorem q_leq : pBin .leq (.v (.int k a)) (.v (.int k b)) = some (.v (.bool (decide (a ≤ b)))) := by simp [pBin, binV, intV]
theorem q_gtr : pBin .gtr (.v (.int k a)) (.v (.int k b)) = some (.v (.bool (decide (a > b)))) := by simp [pBin, binV, intV]
theorem q_geq : pBin .geq (.v (.int k a)) (.v (.int k b)) = some (.v (.bool (decide (a ≥ b)))) := by simp [pBin, binV, intV]
def bitAnd (k : IntKind) (a b : Int) : Int := k.wrap ((BitVec.ofInt k.bits a &&& BitVec.ofInt k.bits b).toNat : Int)
def bitOr (k : IntKind) (a b : Int) : Int := k.wrap ((BitVec.ofInt k.bits a ||| BitVec.ofInt k.bits b).toNat : Int)
theorem q_and : pBin .and (.v (.int k a)) (.v (.int k b)) = some (.v (.int k (bitAnd k a b))) := by simp [pBin, binV, intV, pureOf, Op.intBits, pure, bitAnd]
theorem q_or : pBin .or (.v (.int k a)) (.v (.int k b)) = some (.v (.int k (bitOr k a b))) := by simp [pBin, binV, intV, pureOf, Op.intBits, pure, bitOr]
theorem q_shl {k' : IntKind} (h : 0 ≤ b) : pBin .shl (.v (.int k a)) (.v (.int k' b)) = some (.v (.int k (k.wrap (a * 2 ^ (min b.toNat k.bits))))) := by simp [pBin, binV, intV, pureOf, Op.shift, pure, show ¬ b < 0 by omega]
theorem q_not {c : Bool} : pUn .not (.v (.bool c)) = some (.v (.bool !c)) := by simp [pUn, unV, pureOf, Op.unary, pure]
theorem q_seql : pBin .eql (.v (.string s)) (.v (.string t)) = some (.v (.bool (s.toList == t.toList))) := by simp [pBin, binV, pureOf, Op.stringOp, pure]
theorem q_sneq : pBin .neq (.v (.string s)) (.v (.string t)) = some (.v (.bool !(s.toList == t.toList))) := by simp [pBin, binV, pureOf, Op.stringOp, pure]
theorem q_sadd (h : ((s.size + t.size : Nat) : Int) ≤ IntKind.i64.max) : pBin .add (.v (.string s)) (.v (.string t)) = some (.v (.string (s ++ t))) := by
  have : ¬ ((s.size + t.size : Nat) : Int) > IntKind.i64.max := by omega
  simp only [pBin, binV, Op.stringOp, if_neg this]
  rfl
theorem q_ix {i : Int} (h : 0 ≤ i ∧ i.toNat < s.size) : pIx (.v (.string s)) (.v (.int k i)) = some (.v (.int .u8 (s[i.toNat]'h.2).toNat)) := by simp [pIx, h]
theorem q_cvi {k' : IntKind} {n : Int} : pCvi k (.v (.int k' n)) = some (.v (.int k (k.wrap n))) := rfl
theorem q_n0 : ((0 : Nat) : Int) = 0 := of_eq_true (eq_self _)
theorem q_n1 : ((1 : Nat) : Int) = 1 := of_eq_true (eq_self _)
theorem q_n2 : ((2 : Nat) : Int) = 2 := of_eq_true (eq_self _)
theorem q_tt : (true == true) = true := rfl
theorem q_tf : (true == false) = false := rfl
theorem q_ft : (false == true) = false := rfl
theorem q_ff : (false == false) = true := rfl
end
end Go.Pv
