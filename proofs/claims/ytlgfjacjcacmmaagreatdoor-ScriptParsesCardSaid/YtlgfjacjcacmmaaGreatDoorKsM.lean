/- counterpaneref41.Parse: its contract; ScriptParses' walk over it. -/
import Derived.Test.YtlgfjacjcacmmaaGreatDoorKpM
import Derived.Test.YtlgfjacjcacmmaaGreatDoorKeKg
namespace Go.Proofs.YtlgfjacjcacmmaaGreatDoor
set_option linter.unusedSimpArgs false
set_option linter.unusedVariables false
open Go Go.RowKit Go.Shelf

theorem rparse_c (t : ByteArray) (hts : t.size ≤ 1048576) (w : World) : Calls Tryz.prog 7 #[.string t] w (RParsePost w (parseS t.data.toList)) :=
  rparse_of (fun x ws h1 h2 w => rstep_c x ws h1 h2 w) (fun s w B A c hB hs hf => rright_c s w B A c hB hs hf) t hts w
theorem parses41_c (t : ByteArray) (htz : t.size ≤ 9223372036854775807) (w : World) (he : ErrS w) (ht : Tab w) :
    Calls Tryz.prog 3 #[.string t] w fun e w' => e = .returned (.bool true) ∧ Below w.heap.size w w' :=
  parses41_of (fun t h w => rparse_c t h w) t htz w he ht
end Go.Proofs.YtlgfjacjcacmmaaGreatDoor
