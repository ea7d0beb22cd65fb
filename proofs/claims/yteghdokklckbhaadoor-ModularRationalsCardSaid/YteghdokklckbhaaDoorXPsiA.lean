import Derived.Test.YteghdokklckbhaaDoorXPsi
/-!
The three finite checks, carried out by the kernel, and the theorem.
-/
namespace Nt
theorem checkA : allR (chkA PP) 15 0 = true := by decide +kernel
end Nt
