import Derived.Test.YtpjjbhhoagocjaaGreatDoorXGs
open Go Go.Proofs
namespace Ab
set_option maxRecDepth 100000
set_option maxHeartbeats 1000000
abbrev qr (n d : Int) : List AV:=[.bool (decide (n < 0)),lim (Dg.mag (az n)),.bool (decide (d < 0)),lim (Dg.mag (az d))]
def Qn (n d : Int) : Prop:=Fits n∧Fits d∧0 < d∧Int.gcd n d = 1
theorem mag_inj {a b : Int} (ha : 0 <= a) (hb : 0 <= b) (h : Dg.mag a = Dg.mag b) : a = b:=by
 have:=congrArg Dg.val h
 rwa [Dg.magV ha,Dg.magV hb] at this
theorem az_inj {a b : Int} (h1 : decide (a < 0) = decide (b < 0)) (h2 : az a = az b) : a = b:=by
 have:=decide_eq_decide.1 h1
 unfold az at h2
 omega
theorem irows_inj {k : IntKind} {a b : List Int} (h : irows k a = irows k b) : a = b:=by
 unfold irows at h
 refine (List.map_inj_right fun x y e => ?_).1 h
 simp only [List.cons.injEq,AV.int.injEq,and_true,true_and] at e
 exact e
theorem qr_inj {n d m f : Int} (h : qr n d = qr m f) : n = m∧d = f:=by
 simp only [List.cons.injEq,AV.bool.injEq,AV.sl.injEq,and_true] at h
 obtain ⟨h1,h2,h3,h4⟩:=h
 exact ⟨az_inj h1 (mag_inj (az_nn n) (az_nn m) (irows_inj h2)),az_inj h3 (mag_inj (az_nn d) (az_nn f) (irows_inj h4))⟩
end Ab
