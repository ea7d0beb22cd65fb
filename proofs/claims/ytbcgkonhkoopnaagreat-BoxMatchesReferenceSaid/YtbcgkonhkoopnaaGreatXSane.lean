import Derived.Test.YtbcgkonhkoopnaaGreatXAdd64
open Go Go.Proofs
namespace Ab
set_option maxRecDepth 1000000
theorem sane_run : runF T [] FT 1000 base1 12 11 [] = some (.bool true) := by kernel_rfl
theorem sane_spec : Spec Tryz.prog [] 11 [] (.bool true) := runF_spec T_ok mixed_ok FT_ok base1_ok 12 sane_run
end Ab
