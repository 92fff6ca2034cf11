/- Walks of jot's bare, inside, items, insideObject (layer 4). -/
import Derived.Test.YtmajpambfblhnaaGreatDoorJoOA
import Derived.Test.YtmajpambfblhnaaGreatDoorJoVA
import Derived.Test.YtmajpambfblhnaaGreatDoorJoQ3
namespace Go.Proofs.YtmajpambfblhnaaGreatDoor
open Go.RowKit Jo

def bareP (a b c d : Bool) (n : Int) (t : List UInt8) (nl il : Nat) : Bool := (a || n == 0) && (b || t == []) && (c || (nl : Int) == 0) && (d || (il : Int) == 0)
set_option maxHeartbeats 4000000 in
set_option maxRecDepth 100000 in
theorem bare_any (a b c d : Bool) (k n : Int) (t : List UInt8) (na ia : Option Addr) (nl nc il ic : Nat) (w : World) :
    Calls Tryz.prog 49 #[jotV k n t (.slice na nl nc) (.slice ia il ic), .bool a, .bool b, .bool c, .bool d] w fun e w' => e = .returned (.bool (bareP a b c d n t nl il)) ∧ Kept (fun _ => True) w w' := by
  go_enter Tryz.func49, Tryz.ntmps49
  go_wp2
  all_goals
    go_ret
    exact ⟨by simp_all [bareP], (Kept.refl _ _).alloc _⟩
end Go.Proofs.YtmajpambfblhnaaGreatDoor
