/- ModularPrimes answers true for every input: modular.Next finds the least prime, products and small numbers are none. No condition beyond the row's own (the package variable modular.bases reads as laid, tied by the card). -/
import Derived.Test.YteghdokklckbhaaDoorXJPrimes
import Derived.Test.YteghdokklckbhaaDoorXLaw1b
import Derived.Test.YteghdokklckbhaaDoorXSane
namespace Go.Proofs.YteghdokklckbhaaDoor
theorem modularPrimes_proved : Rows.ModularPrimesCardSaid :=
  primes_card fun n a b hn ha hb => Ab.law1_spec Ab.sane_spec n a b hn ha hb
end Go.Proofs.YteghdokklckbhaaDoor
