/- tree.right. -/
import Derived.Test.YtlgfjacjcacmmaaGreatDoorRaM
import Derived.Test.YtlgfjacjcacmmaaGreatDoorRbM
import Derived.Test.YtlgfjacjcacmmaaGreatDoorRcM
import Derived.Test.YtlgfjacjcacmmaaGreatDoorRdM
import Derived.Test.YtlgfjacjcacmmaaGreatDoorReM
import Derived.Test.YtlgfjacjcacmmaaGreatDoorRfM
import Derived.Test.YtlgfjacjcacmmaaGreatDoorRgM
namespace Go.Proofs.YtlgfjacjcacmmaaGreatDoor
set_option linter.unusedSimpArgs false
set_option linter.unusedVariables false
open Go.RowKit Go.Shelf

theorem right_c (t : Tr) : ∀ (w : World) (B b o : Nat) (above : Int) (_ : NodeAt w B b o t) (_ : B ≤ w.heap.size),
    Calls Tryz.prog 54 #[.pointer (some ⟨b, o, none⟩), .int .i64 above] w fun e w' => e = .returned (.bool (rightB t above)) ∧ Below w.heap.size w w' := by
  induction t using Tr.ind with | _ d l ih => ?_
  refine right_loop d l ih ?_
  intro w B b o above kind v name a q rows A c n qo hB hbw HC HD HS HN HQ J K' fn R hJ hK
  by_cases h1 : kind = 5
  · exact right_rb w B b o above kind v name a q rows l A c n qo hB hbw HC HD HS HN HQ h1 J K' fn R hJ hK
  by_cases h2 : kind = 4
  · exact right_rc w B b o above kind v name a q rows l A c n qo hB hbw HC HD HS HN HQ h2 J K' fn R hJ hK
  by_cases h3 : kind = 8
  · exact right_rd w B b o above kind v name a q rows l A c n qo hB hbw HC HD HS HN HQ h3 J K' fn R hJ hK
  by_cases h4 : kind = 6
  · exact right_rf w B b o above kind v name a q rows l A c n qo hB hbw HC HD HS HN HQ h4 J K' fn R hJ hK
  by_cases h5 : kind = 0 ∨ kind = 1 ∨ kind = 3
  · exact right_ra w B b o above kind v name a q rows l A c n qo hB hbw HC HD HS HN HQ h5 J K' fn R hJ hK
  exact right_re w B b o above kind v name a q rows l A c n qo hB hbw HC HD HS HN HQ (by omega) J K' fn R hJ hK
end Go.Proofs.YtlgfjacjcacmmaaGreatDoor
