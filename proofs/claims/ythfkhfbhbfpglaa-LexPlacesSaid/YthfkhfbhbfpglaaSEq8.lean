import Derived.Test.YthfkhfbhbfpglaaSCommon
import Derived.Test.YthfkhfbhbfpglaaPlEq
import Derived.Laws.StructEq
namespace Go.Proofs.Ythfkhfbhbfpglaa
open Go PSL Go.Proofs

theorem tk_eqF (d : Nat) (w : World) (k n at_ : Int) (s : ByteArray) (b : Bool) : (Op.eqFields (d + 1) #[.int .i64 k, .string s, .int .i64 n, .int .i64 at_, .bool b] #[.int .i64 k, .string s, .int .i64 n, .int .i64 at_, .bool b] (Try.prog.fieldsOf 33).toList).run Try.prog w = .ok true w := by
  rw [Program.fieldsOf, Try.underlying33]
  simp [Op.eqFields, part, run_equalIn_int _ _ _ _ _ _ _ Try.underlying3, run_equalIn_string _ _ _ _ _ Try.underlying9, run_equalIn_bool' _ _ _ _ _ Try.underlying4]

theorem tok_neq (w : World) (k n at_ : Int) (s : ByteArray) (b : Bool) (x y : Operand) : ((do eqGuard .neq 33 x y (.agg #[.int .i64 k, .string s, .int .i64 n, .int .i64 at_, .bool b]) (.agg #[.int .i64 k, .string s, .int .i64 n, .int .i64 at_, .bool b]); binOp .neq 33 (.agg #[.int .i64 k, .string s, .int .i64 n, .int .i64 at_, .bool b]) (.agg #[.int .i64 k, .string s, .int .i64 n, .int .i64 at_, .bool b])) : Sem Value).run Try.prog w = .ok (.bool false) w := by
  simp only [Sem.run_bind]
  rw [run_eqGuard_agg _ _ _ _ _ _ _ Try.eqGuardType33]
  simp only [Result.andThen_ok]
  rw [run_neq_struct, run_equalIn_agg w 9999 33 _ _ (by rw [Program.fieldsOf, Try.underlying33]) Try.stoodInHeld33, tk_eqF 9998]
  rfl
end Go.Proofs.Ythfkhfbhbfpglaa
