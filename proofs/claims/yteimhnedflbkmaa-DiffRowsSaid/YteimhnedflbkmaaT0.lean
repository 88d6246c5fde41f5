/- A step of the proof that the law holds: functions of the program, each shown to compute what its text says. No further condition. -/
import Derived.Test.YteimhnedflbkmaaTab
import Derived.Test.YteimhnedflbkmaaChecked
import Derived.Test.YteimhnedflbkmaaAbB8
namespace Go.Proofs.Yteimhnedflbkmaa
open Go.Ab

def eqs : List TypeId := [38]
theorem eqOK : EqTab Try.prog eqs := eqTab_of (by kernel_rfl)
theorem tabs : TabOK Try.prog tab ∧ EqTab Try.prog eqs := ⟨tabOK, eqOK⟩
theorem mixed : Try.prog.follows .mixedOrders = true := by kernel_rfl

abbrev Bytes := List UInt8
def intA (n : Int) : AV := .int .i64 n

structure Dl where
  path : Bytes
  kind : Int
deriving DecidableEq
theorem Dl.ext {a b : Dl} (h1 : a.path = b.path) (h2 : a.kind = b.kind) : a = b := by cases a; cases b; simp_all
def Dl.av (d : Dl) : AV := .agg [.str d.path, .int .i64 d.kind]

structure Mt where
  size : Int
  mode : Int
  chunks : List Int
deriving DecidableEq
def Mt.cells (m : Mt) : List AV := [.int .i64 m.size, .int .i64 m.mode, .sl 1 (m.chunks.map intA) .none]
def Mt.av (m : Mt) : AV := .agg m.cells

structure En where
  path : Bytes
  time : Int
  info : Mt
deriving DecidableEq
def En.av (e : En) : AV := .agg [.str e.path, .int .i64 e.time, .int .i64 e.info.size, .int .i64 e.info.mode, .sl 1 (e.info.chunks.map intA) .none]

end Go.Proofs.Yteimhnedflbkmaa
