import Derived.Test.YteghdokklckbhaaDoorXPsi
namespace Nt
theorem checkB : allR chkB 15 0 = true := by decide +kernel
end Nt
