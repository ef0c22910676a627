/-
  Comparing errors: numbers of api.Errno at the error's type.
-/
import Derived.Test.YtomekiidgdkmiaaBase
import Derived.Lib.IfaceNeq
import Derived.LaidEql
import Derived.Test.YtomekiidgdkmiaaProg
namespace Go.Proofs.Ytomekiidgdkmiaa
set_option linter.unusedVariables false

@[go_sem] theorem eql_err (w : World) (a b : Int) : (binOp .eql 30 (.iface 44 (.int .i64 a)) (.iface 44 (.int .i64 b))).run Try.prog w = .ok (.bool (a == b)) w :=
  Lib.run_eql_iface_int w a b Try.underlying30 (by kernel_rfl) Try.underlying44
@[go_sem] theorem neq_err (w : World) (a b : Int) : (binOp .neq 30 (.iface 44 (.int .i64 a)) (.iface 44 (.int .i64 b))).run Try.prog w = .ok (.bool (!(a == b))) w :=
  Lib.run_neq_iface_int w a b Try.underlying30 (by kernel_rfl) Try.underlying44
@[go_sem] theorem eql_nil_err (w : World) (u : TypeId) (x : Value) : (binOp .eql 30 .nilIface (.iface u x)).run Try.prog w = .ok (.bool false) w :=
  run_eql_iface_nil_left (w := w) u x Try.underlying30
@[go_sem] theorem neq_nil_err (w : World) (u : TypeId) (x : Value) : (binOp .neq 30 .nilIface (.iface u x)).run Try.prog w = .ok (.bool true) w := by
  have h : ∀ d : Nat, (Op.equalIn (d + 1) 30 .nilIface (.iface u x)).run Try.prog w = .ok false w := fun d => by simp [Op.equalIn, run_underlying Try.underlying30]
  simp only [binOp]
  simp [Op.equal, Op.maxDepth, h 9999]
end Go.Proofs.Ytomekiidgdkmiaa
