/- The law StandbyNil, walked. No condition. -/
import Derived.Test.YtepkonhgkabkcaaSbd
namespace Go.Proofs.Ytepkonhgkabkcaa
open Go.RowKit Go.Maps MapI
set_option linter.unusedVariables false
set_option linter.unusedSimpArgs false

set_option maxHeartbeats 2000000 in
set_option maxRecDepth 100000 in
theorem standbyNil_calls {w : World} {A : Option Addr} {n c : Nat} :
    Calls Try.prog 11 #[.slice A n c] w fun e w' => e = .returned (.bool true) ∧ Below w.heap.size w w' := by
  go_enter Try.func11, Try.ntmps11
  go_wp2_with fail
  go_at_call 36
  refine (feed_nil _).mono ?_
  rintro e w1 ⟨rfl, rfl⟩
  go_wp2_with fail
  go_at_call 43
  refine (promote_nil _).mono ?_
  rintro e w2 ⟨rfl, b2⟩
  go_wp2_with fail
  go_at_call 34
  refine (awakeS_calls _).mono ?_
  rintro e w3 ⟨rfl, b3⟩
  have b23 : Below w.heap.size w w3 := b2.trans (b3.mono b2.size)
  go_wp2_with fail
  go_at_call 38
  refine (upto_nil _).mono ?_
  rintro e w4 ⟨rfl, rfl⟩
  go_wp2_with fail
  go_at_call 46
  refine (pages_nil _).mono ?_
  rintro e w4 ⟨rfl, rfl⟩
  go_wp2_with fail
  go_at_call 41
  refine (openS_nil _).mono ?_
  rintro e w4 ⟨rfl, rfl⟩
  go_wp2_with fail
  go_at_call 47
  refine (lag_nil _).mono ?_
  rintro e w4 ⟨rfl, rfl⟩
  go_wp2_with fail
  go_ret
  exact ⟨rfl, b23⟩
end Go.Proofs.Ytepkonhgkabkcaa
