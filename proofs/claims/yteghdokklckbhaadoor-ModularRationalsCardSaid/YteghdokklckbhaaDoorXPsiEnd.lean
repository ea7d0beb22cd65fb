import Derived.Test.YteghdokklckbhaaDoorXPsiA
import Derived.Test.YteghdokklckbhaaDoorXPsiB
import Derived.Test.YteghdokklckbhaaDoorXPsiC
/-!
The bases 2, 3, 5, 7 decide primality below 2^31.
-/
namespace Nt
theorem psi4 {n : Nat} (h3 : 3 ≤ n) (hodd : n % 2 = 1) (hlt : n < 2147483648) (hs : Str4 n) : Prm n :=
  psi4_of checkA checkB checkT checkC h3 hodd hlt hs
end Nt
