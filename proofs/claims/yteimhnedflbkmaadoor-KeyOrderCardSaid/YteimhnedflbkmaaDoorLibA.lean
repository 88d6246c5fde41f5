/- Functions of Go's library that tell what their texts say: strings.Split, Join, LastIndex, ContainsAny. No further condition. -/
import Derived.Test.YteimhnedflbkmaaDoorLays
import Derived.Test.YteimhnedflbkmaaDoorBase
set_option linter.unusedVariables false
set_option linter.unusedSimpArgs false
namespace Go.Proofs.YteimhnedflbkmaaDoor
open Go.Ab

theorem split47_ok (s : Bytes) (hs : s.length < 4294967281) : APure Tryd.prog 46 [.str s, .str [47]] (.sl 1 ((splitOn 47 s).map .str) .none) :=
  split_ok lays146 (by kernel_rfl) ⟨_, _, Tryd.func46, rfl, by decide⟩ s 47 hs
theorem join47_ok (l : List Bytes) (t : Tag) (hN : l.length ≤ 140737488355328) (hlen : (glueL [47] l).length ≤ 140737488355328) : APure Tryd.prog 49 [.sl 1 (l.map .str) t, .str [47]] (.str (glueL [47] l)) :=
  join_ok lays156 laysX ⟨_, _, Tryd.func49, rfl, by decide⟩ l t [47] hN hlen
theorem last47_ok (s : Bytes) (hs : s.length < 4611686018427387904) : APure Tryd.prog 65 [.str s, .str [47]] (.int .i64 (lastAt 47 s)) :=
  lastIndex_ok lays148 ⟨_, _, Tryd.func65, rfl, by decide⟩ s 47 hs
theorem any470_ok (s : Bytes) (hs : s.length < 4294967281) : APure Tryd.prog 61 [.str s, .str [47, 0]] (.bool (s.any fun b => b == 47 || b == 0)) :=
  containsAny_ok lays150 (by kernel_rfl) ⟨_, _, Tryd.func61, rfl, by decide⟩ s hs
end Go.Proofs.YteimhnedflbkmaaDoor
