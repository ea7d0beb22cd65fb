import Derived.Test.YtpjjbhhoagocjaaGreatDoorXStep
import Derived.Test.YtpjjbhhoagocjaaGreatDoorXTy
import Derived.Test.YtpjjbhhoagocjaaGreatDoorXFT
import Derived.WalkKit
import Derived.Shelf.RegionOpenPlain
import Derived.Lib.Walk
import Derived.Lib.UnsafeStr
import Derived.Lib.Builder
import Derived.Laws.Externs
import Derived.Test.YtpjjbhhoagocjaaGreatDoorXGua
section
open Go Go.Proofs Go.RowKit
namespace Ab
theorem noEsc : IdFn Tryz.prog 161:=by
 intro x w
 rw [run_callFunc_extern Tryz.func161 (by kernel_rfl) (by kernel_rfl) (by kernel_rfl) (e:=Extern.AbiNoEscape.same) (by kernel_rfl)]
 rw [Lib.run_noEscape]
 rfl
theorem freeze_size (w : World) (g n : Nat) : (w.drew.freeze ⟨g,0,none⟩ n).heap.size = w.heap.size:=by
 unfold World.freeze
 split
 ·rfl
 ·simp
theorem freeze_other (w : World) (g n : Nat) (b : Nat) (hb : b ≠ g) : (w.drew.freeze ⟨g,0,none⟩ n).heap[b]? = w.heap[b]?:=by
 unfold World.freeze
 split
 ·rfl
 ·simp only [Array.getElem?_modify]
  rw [if_neg (fun e => hb e.symm)]
  rfl
set_option maxRecDepth 100000 in
set_option maxHeartbeats 2000000 in
theorem strFn : StrFn Tryz.prog 105 5:=by
 refine ⟨by kernel_rfl,?_⟩
 intro w b g cap cur l h0 hlc hcm hcs hc1 hg hcell
 have hl0 : l.length ≠ 0:=by simpa using h0
 have c1 : w.drew.cell? ⟨b,1,none⟩ = some (.slice (some ⟨g,0,none⟩) l.length cap):=hc1
 have hSD : (Builtin.unsafeSliceData_ #[56] 129 #[.slice (some ⟨g,0,none⟩) l.length cap]).run Tryz.prog w.drew = .ok (.pointer (some ⟨g,0,none⟩)) w.drew :=
  Lib.run_unsafeSliceData_row _ _ _ _ _ _ (by omega)
 have hUS : (Builtin.unsafeString_ #[129,3] 9 #[.pointer (some ⟨g,0,none⟩),.int .i64 l.length]).run Tryz.prog w.drew = .ok (.string ⟨l.toArray⟩) (w.drew.freeze ⟨g,0,none⟩ l.length):=by
  refine Lib.run_unsafeString_row w.drew 129 3 9 5 Tryz.underlying129 (by kernel_rfl) g cur.size (by have hg' : w.drew.heap[g]? = some (.cells cur 5 (0,0)):=hg; simp [World.shape?,hg']) l h0 (by omega) (by unfold maxLen at hcm; omega) ?_
  intro j x hx
  have:=hcell j x hx
  rw [Addr.add_lit,Nat.zero_add]
  exact this
 have mixed : Tryz.prog.follows .mixedOrders = true:=mixed_ok
 go_enter Tryz.func105,Tryz.ntmps105
 go_wp2
 go_region_o
 all_goals (go_wp2; go_ret; exact ⟨rfl,Lib.below_freeze (Below.drew (Below.refl g w)) (p:=⟨g,0,none⟩) (Nat.le_refl g) _,freeze_size _ _ _,freeze_other _ _ _⟩)
end Ab
end
section
open Go Go.Proofs
namespace Ab
set_option maxRecDepth 1000000
abbrev noB : FuncId -> List AV -> Option AV:=fun _ _ => none
theorem noB_ok (gl : List (Nat × AV)) (f : FuncId) (ds : List AV) (r : AV) (h : noB f ds = some r) : Spec Tryz.prog gl f ds r:=by cases h
theorem cut1 : Spec Tryz.prog [] 102 [.str ⟨⟨[49]⟩⟩,.str ⟨⟨[45]⟩⟩] (.tup [.str ⟨⟨[49]⟩⟩,.bool false]):=runF_spec (fuel:=100) T_ok mixed_ok FT_ok (noB_ok []) 4 (by kernel_rfl)
theorem cut2 : Spec Tryz.prog [] 102 [.str ⟨⟨[45,50]⟩⟩,.str ⟨⟨[45]⟩⟩] (.tup [.str ⟨⟨[50]⟩⟩,.bool true]):=runF_spec (fuel:=100) T_ok mixed_ok FT_ok (noB_ok []) 4 (by kernel_rfl)
theorem rtext1 : Spec Tryz.prog [] 101 [.agg [.bool false,lim [1],.bool false,lim [1]]] (.tup [.str ⟨⟨[49]⟩⟩,.int .i64 0]):=runF_spec (fuel:=100) T_ok mixed_ok FT_ok (noB_ok []) 4 (by kernel_rfl)
theorem rtext2 : Spec Tryz.prog [] 101 [.agg [.bool true,lim [2],.bool false,lim [1]]] (.tup [.str ⟨⟨[45,50]⟩⟩,.int .i64 0]):=runF_spec (fuel:=100) T_ok mixed_ok FT_ok (noB_ok []) 4 (by kernel_rfl)
theorem mono2 : Spec Tryz.prog [] 104 [.str ⟨⟨[50]⟩⟩,.int .i64 2] (.str ⟨⟨[50,42,120,94,50]⟩⟩):=runF_spec (fuel:=100) T_ok mixed_ok FT_ok (noB_ok []) 4 (by kernel_rfl)
theorem mono1 : Spec Tryz.prog [] 104 [.str ⟨⟨[49]⟩⟩,.int .i64 1] (.str ⟨⟨[120]⟩⟩):=runF_spec (fuel:=100) T_ok mixed_ok FT_ok (noB_ok []) 4 (by kernel_rfl)
theorem mono0 : Spec Tryz.prog [] 104 [.str ⟨⟨[49]⟩⟩,.int .i64 0] (.str ⟨⟨[49]⟩⟩):=runF_spec (fuel:=100) T_ok mixed_ok FT_ok (noB_ok []) 4 (by kernel_rfl)
theorem rv_one : rv 1 = [.bool false,lim [1],.bool false,lim [1]]:=by
 show qr 1 1 = _
 unfold qr
 rw [show az 1 = 1 from rfl,mag_one]
 rfl
theorem rv_m2 : rv (-2) = [.bool true,lim [2],.bool false,lim [1]]:=by
 show qr (-2) 1 = _
 unfold qr
 rw [show az (-2) = 2 from rfl,show az 1 = 1 from rfl,mag_one,mag_limb (by decide) (by decide)]
 rfl
end Ab
end
section
open Go Go.Proofs
namespace Ab
set_option maxRecDepth 100000
set_option maxHeartbeats 1000000
abbrev r1 : List AV:=[.bool false,lim [1],.bool false,lim [1]]
abbrev r2 : List AV:=[.bool true,lim [2],.bool false,lim [1]]
abbrev exR : List (List AV):=[r1,r1,r2]
def bldH : Nat -> List (Nat × Blk)
 | 3 => [(0,.box [.sl exR]),(1,.own 100 [.lit (.pointer none),.nil]),(2,.box [.sl exR])]
 | 2 => [(0,.box [.sl exR]),(1,.own 100 [.bp 1 0,.ms 3 0 6]),(2,.box [.sl exR]),(3,.arr (5,1) (strRows ⟨⟨[45,50,42,120,94,50]⟩⟩) true)]
 | 1 => [(0,.box [.sl exR]),(1,.own 100 [.bp 1 0,.ms 3 0 10]),(2,.box [.sl exR]),(3,.arr (5,1) (strRows ⟨⟨[45,50,42,120,94,50,32,43,32,120]⟩⟩) true)]
 | _ => [(0,.box [.sl exR]),(1,.own 100 [.bp 1 0,.ms 3 0 14]),(2,.box [.sl exR]),(3,.arr (5,1) (strRows ⟨⟨[45,50,42,120,94,50,32,43,32,120,32,43,32,49]⟩⟩) true)]
section
variable {ρ : Nat -> Nat} {ks : List Nat} {n : Nat} {hp : Nat -> Option Blk} {v : AV} {b : Option Blk}
theorem cv_yl {l : Nat} (h : v = .yl l) : cv ρ ks n hp (.yl l) v:=by unfold cv; exact h
theorem cv_int {k : IntKind} {m : Int} (h : v = .int k m) : cv ρ ks n hp (.int k m) v:=by unfold cv; exact h
theorem cv_bp {k o : Nat} (h1 : k < n) (h : v = .bp (ρ k) o) : cv ρ ks n hp (.bp k o) v:=by unfold cv; exact ⟨h1,h⟩
theorem cvB_sl {r : List (List AV)} (h : b = some (.box [.sl r])) : cvB ρ ks n hp (some (.box [.sl r])) b:=by
 refine ⟨_,h,?_⟩
 unfold cvs; refine ⟨_,_,rfl,by unfold cv; exact .inl rfl,by unfold cvs; rfl⟩
theorem cvB_bld {e k i j l m : Nat} (h1 : k < n) (h2 : j < n) (h : b = some (.own e [.bp (ρ k) i,.ms (ρ j) l m])) : cvB ρ ks n hp (some (.own e [.bp k i,.ms j l m])) b:=by
 refine ⟨_,h,?_⟩
 unfold cvs; refine ⟨_,_,rfl,by unfold cv; exact ⟨h1,rfl⟩,?_⟩
 unfold cvs; refine ⟨_,_,rfl,by unfold cv; exact ⟨h2,rfl⟩,by unfold cvs; rfl⟩
theorem cvB_arr {sz : Nat × Nat} {r : List (List AV)} {lv : Bool} (h : b = some (.arr sz r lv)) : cvB ρ ks n hp (some (.arr sz r lv)) b:=h
end
abbrev wrA (n : Nat) : AV:=.tup [.int .i64 n,.lit .nilIface]
theorem wr_a {tm : Nat -> AV} {hp : Nat -> Option Blk} {K : AV -> St -> Prop} (n : Nat) (h1 : hp 1 = some (.own 100 [.lit (.pointer none),.nil]))
  (hK : K (wrA (strRows ⟨⟨[45]⟩⟩).length) ⟨tm,upd 1 (some (.own 100 [.bp 1 0,.ms 5 0 (strRows ⟨⟨[45]⟩⟩).length])) (upd 5 (some (.arr (5,1) (strRows ⟨⟨[45]⟩⟩) true)) (upd 1 (some (.own 100 [.bp 1 0,.nil])) hp)),6⟩) : Hn Tryz.prog T [] (n + 3) (.fn 103) [.bp 1 0,.str ⟨⟨[45]⟩⟩] ⟨tm,hp,5⟩ K:=by
 obtain ⟨h0,rfl⟩ : ∃ h0,hp = upd 1 (some (.own 100 [.lit (.pointer none),.nil])) h0:=⟨hp,by rw [upd_id h1]⟩
 refine Hn_in Tryz.f103 Tryz.func103 fn_ok103 (by kernel_rfl) ?_
 refine Hn_in Tryz.f141 Tryz.func141 fn_ok141 (by kernel_rfl) ?_
 refine brT ?_
 refine Hn_spc (Or.inl (And.intro noEsc ?_))
 refine And.intro (Or.inl rfl) ?_
 refine And.intro (Or.inr rfl) ?_
 exact hK
theorem wr_b {tm : Nat -> AV} {hp : Nat -> Option Blk} {K : AV -> St -> Prop} (n : Nat) (h1 : hp 1 = some (.own 100 [.bp 1 0,.ms 5 0 (strRows ⟨⟨[45]⟩⟩).length])) (h2 : hp 5 = some (.arr (5,1) (strRows ⟨⟨[45]⟩⟩) true))
  (hK : K (wrA (strRows ⟨⟨[50,42,120,94,50]⟩⟩).length) ⟨tm,upd 1 (some (.own 100 [.bp 1 0,.ms 6 0 ((strRows ⟨⟨[45]⟩⟩).length + (strRows ⟨⟨[50,42,120,94,50]⟩⟩).length)])) (upd 6 (some (.arr (5,1) (strRows ⟨⟨[45]⟩⟩ ++ strRows ⟨⟨[50,42,120,94,50]⟩⟩) true)) (upd 5 none hp)),7⟩) : Hn Tryz.prog T [] (n + 3) (.fn 103) [.bp 1 0,.str ⟨⟨[50,42,120,94,50]⟩⟩] ⟨tm,hp,6⟩ K:=by
 obtain ⟨h0,rfl⟩:=put_known h1 h2
 refine Hn_in Tryz.f103 Tryz.func103 fn_ok103 (by kernel_rfl) ?_
 refine Hn_in Tryz.f141 Tryz.func141 fn_ok141 (by kernel_rfl) ?_
 refine brF ?_
 refine brF ?_
 refine And.intro (Or.inl rfl) ?_
 refine And.intro (Or.inr rfl) ?_
 exact hK
theorem wr_c {tm : Nat -> AV} {hp : Nat -> Option Blk} {K : AV -> St -> Prop} (n : Nat) (h1 : hp 1 = some (.own 100 [.bp 1 0,.ms 3 0 (strRows ⟨⟨[45,50,42,120,94,50]⟩⟩).length])) (h2 : hp 3 = some (.arr (5,1) (strRows ⟨⟨[45,50,42,120,94,50]⟩⟩) true))
  (hK : K (wrA (strRows ⟨⟨[32,43,32]⟩⟩).length) ⟨tm,upd 1 (some (.own 100 [.bp 1 0,.ms 5 0 ((strRows ⟨⟨[45,50,42,120,94,50]⟩⟩).length + (strRows ⟨⟨[32,43,32]⟩⟩).length)])) (upd 5 (some (.arr (5,1) (strRows ⟨⟨[45,50,42,120,94,50]⟩⟩ ++ strRows ⟨⟨[32,43,32]⟩⟩) true)) (upd 3 none hp)),6⟩) : Hn Tryz.prog T [] (n + 3) (.fn 103) [.bp 1 0,.str ⟨⟨[32,43,32]⟩⟩] ⟨tm,hp,5⟩ K:=by
 obtain ⟨h0,rfl⟩:=put_known h1 h2
 refine Hn_in Tryz.f103 Tryz.func103 fn_ok103 (by kernel_rfl) ?_
 refine Hn_in Tryz.f141 Tryz.func141 fn_ok141 (by kernel_rfl) ?_
 refine brF ?_
 refine brF ?_
 refine And.intro (Or.inl rfl) ?_
 refine And.intro (Or.inr rfl) ?_
 exact hK
theorem wr_d {tm : Nat -> AV} {hp : Nat -> Option Blk} {K : AV -> St -> Prop} (n : Nat) (h1 : hp 1 = some (.own 100 [.bp 1 0,.ms 5 0 (strRows ⟨⟨[45,50,42,120,94,50,32,43,32]⟩⟩).length])) (h2 : hp 5 = some (.arr (5,1) (strRows ⟨⟨[45,50,42,120,94,50,32,43,32]⟩⟩) true))
  (hK : K (wrA (strRows ⟨⟨[120]⟩⟩).length) ⟨tm,upd 1 (some (.own 100 [.bp 1 0,.ms 6 0 ((strRows ⟨⟨[45,50,42,120,94,50,32,43,32]⟩⟩).length + (strRows ⟨⟨[120]⟩⟩).length)])) (upd 6 (some (.arr (5,1) (strRows ⟨⟨[45,50,42,120,94,50,32,43,32]⟩⟩ ++ strRows ⟨⟨[120]⟩⟩) true)) (upd 5 none hp)),7⟩) : Hn Tryz.prog T [] (n + 3) (.fn 103) [.bp 1 0,.str ⟨⟨[120]⟩⟩] ⟨tm,hp,6⟩ K:=by
 obtain ⟨h0,rfl⟩:=put_known h1 h2
 refine Hn_in Tryz.f103 Tryz.func103 fn_ok103 (by kernel_rfl) ?_
 refine Hn_in Tryz.f141 Tryz.func141 fn_ok141 (by kernel_rfl) ?_
 refine brF ?_
 refine brF ?_
 refine And.intro (Or.inl rfl) ?_
 refine And.intro (Or.inr rfl) ?_
 exact hK
theorem wr_e {tm : Nat -> AV} {hp : Nat -> Option Blk} {K : AV -> St -> Prop} (n : Nat) (h1 : hp 1 = some (.own 100 [.bp 1 0,.ms 3 0 (strRows ⟨⟨[45,50,42,120,94,50,32,43,32,120]⟩⟩).length])) (h2 : hp 3 = some (.arr (5,1) (strRows ⟨⟨[45,50,42,120,94,50,32,43,32,120]⟩⟩) true))
  (hK : K (wrA (strRows ⟨⟨[32,43,32]⟩⟩).length) ⟨tm,upd 1 (some (.own 100 [.bp 1 0,.ms 5 0 ((strRows ⟨⟨[45,50,42,120,94,50,32,43,32,120]⟩⟩).length + (strRows ⟨⟨[32,43,32]⟩⟩).length)])) (upd 5 (some (.arr (5,1) (strRows ⟨⟨[45,50,42,120,94,50,32,43,32,120]⟩⟩ ++ strRows ⟨⟨[32,43,32]⟩⟩) true)) (upd 3 none hp)),6⟩) : Hn Tryz.prog T [] (n + 3) (.fn 103) [.bp 1 0,.str ⟨⟨[32,43,32]⟩⟩] ⟨tm,hp,5⟩ K:=by
 obtain ⟨h0,rfl⟩:=put_known h1 h2
 refine Hn_in Tryz.f103 Tryz.func103 fn_ok103 (by kernel_rfl) ?_
 refine Hn_in Tryz.f141 Tryz.func141 fn_ok141 (by kernel_rfl) ?_
 refine brF ?_
 refine brF ?_
 refine And.intro (Or.inl rfl) ?_
 refine And.intro (Or.inr rfl) ?_
 exact hK
theorem wr_f {tm : Nat -> AV} {hp : Nat -> Option Blk} {K : AV -> St -> Prop} (n : Nat) (h1 : hp 1 = some (.own 100 [.bp 1 0,.ms 5 0 (strRows ⟨⟨[45,50,42,120,94,50,32,43,32,120,32,43,32]⟩⟩).length])) (h2 : hp 5 = some (.arr (5,1) (strRows ⟨⟨[45,50,42,120,94,50,32,43,32,120,32,43,32]⟩⟩) true))
  (hK : K (wrA (strRows ⟨⟨[49]⟩⟩).length) ⟨tm,upd 1 (some (.own 100 [.bp 1 0,.ms 6 0 ((strRows ⟨⟨[45,50,42,120,94,50,32,43,32,120,32,43,32]⟩⟩).length + (strRows ⟨⟨[49]⟩⟩).length)])) (upd 6 (some (.arr (5,1) (strRows ⟨⟨[45,50,42,120,94,50,32,43,32,120,32,43,32]⟩⟩ ++ strRows ⟨⟨[49]⟩⟩) true)) (upd 5 none hp)),7⟩) : Hn Tryz.prog T [] (n + 3) (.fn 103) [.bp 1 0,.str ⟨⟨[49]⟩⟩] ⟨tm,hp,6⟩ K:=by
 obtain ⟨h0,rfl⟩:=put_known h1 h2
 refine Hn_in Tryz.f103 Tryz.func103 fn_ok103 (by kernel_rfl) ?_
 refine Hn_in Tryz.f141 Tryz.func141 fn_ok141 (by kernel_rfl) ?_
 refine brF ?_
 refine brF ?_
 refine And.intro (Or.inl rfl) ?_
 refine And.intro (Or.inr rfl) ?_
 exact hK
theorem text_spec (ck : Spec Tryz.prog [] 34 [.sl exR] (.int .i64 0)) (s1 : Spec Tryz.prog [] 26 [.agg r1] (.int .i64 1)) (s2 : Spec Tryz.prog [] 26 [.agg r2] (.int .i64 (-1))) :
  Spec Tryz.prog [] 47 [.sl exR] (.tup [.str ⟨⟨[45,50,42,120,94,50,32,43,32,120,32,43,32,49]⟩⟩,.int .i64 0]):=by
 refine spec_fn T_ok mixed_ok 3 Tryz.func47 fn_ok47 (by kernel_rfl) ?_
 refine Hn_by (Exists.intro _ (And.intro ck ?_))
 repeat (first | refine gT ?_ | refine gF ?_ | refine brT ?_ | refine brF ?_)
 refine Hn_in Tryz.f68 Tryz.func68 fn_ok68 (by kernel_rfl) ?_
 refine And.intro (Or.inr rfl) ?_
 refine Gn_in Tryz.f119 Tryz.func119 fn_ok119 (by kernel_rfl) fun y => ?_
 refine aw_loopN 3 (fun k : Nat => stOf [(0,.yl y),(1,.bp 2 0),(3,.int .i64 ((k : Int) - 1))] (bldH k) 4) (fun k => k <= 3) (fun k => k) 3 (Nat.le_refl 3) (.inl (le_by ⟨rfl,rfl,rfl,trivial⟩ ⟨rfl,rfl,rfl,trivial⟩ (show 3 <= 4 by decide))) (by kernel_rfl) ?_
 intro k hk P hP
 obtain rfl | rfl | rfl | rfl : k = 3 ∨ k = 2 ∨ k = 1 ∨ k = 0:=by omega
 ·repeat (first | refine gT ?_ | refine gF ?_ | refine brT ?_ | refine brF ?_)
  refine And.intro (show (0 : Int) <= 2 by decide) (Exists.intro _ (And.intro (show exR[((2 : Int)).toNat]? = some r2 from rfl) ?_))
  refine And.intro rfl ?_
  first | refine Exists.intro _ (And.intro (rtext2) ?_) | refine Hn_by (Exists.intro _ (And.intro (rtext2) ?_))
  repeat (first | refine gT ?_ | refine gF ?_ | refine brT ?_ | refine brF ?_)
  first | refine Exists.intro _ (And.intro (cut2) ?_) | refine Hn_by (Exists.intro _ (And.intro (cut2) ?_))
  repeat (first | refine gT ?_ | refine gF ?_ | refine brT ?_ | refine brF ?_)
  first | refine Exists.intro _ (And.intro (s2) ?_) | refine Hn_by (Exists.intro _ (And.intro (s2) ?_))
  repeat (first | refine gT ?_ | refine gF ?_ | refine brT ?_ | refine brF ?_)
  refine wr_a _ (by kernel_rfl) ?_
  repeat (first | refine gT ?_ | refine gF ?_ | refine brT ?_ | refine brF ?_)
  first | refine Exists.intro _ (And.intro (mono2) ?_) | refine Hn_by (Exists.intro _ (And.intro (mono2) ?_))
  repeat (first | refine gT ?_ | refine gF ?_ | refine brT ?_ | refine brF ?_)
  refine wr_b _ (by kernel_rfl) (by kernel_rfl) ?_
  repeat (first | refine gT ?_ | refine gF ?_ | refine brT ?_ | refine brF ?_)
  refine hP 2 _ ?_ (by decide) (by decide)
  exact leR_by [(3,6)] [] (by kernel_rfl) (by kernel_rfl) (by decide) ⟨cv_yl (by kernel_rfl),cv_bp (by decide) (by kernel_rfl),cv_int (by kernel_rfl),trivial⟩ ⟨⟨by kernel_rfl,rfl,cvB_sl (by kernel_rfl)⟩,⟨by kernel_rfl,rfl,cvB_bld (by decide) (by decide) (by kernel_rfl)⟩,⟨by kernel_rfl,rfl,cvB_sl (by kernel_rfl)⟩,⟨by kernel_rfl,trivial,cvB_arr (by kernel_rfl)⟩,trivial⟩
 ·repeat (first | refine gT ?_ | refine gF ?_ | refine brT ?_ | refine brF ?_)
  refine And.intro (show (0 : Int) <= 1 by decide) (Exists.intro _ (And.intro (show exR[((1 : Int)).toNat]? = some r1 from rfl) ?_))
  refine And.intro rfl ?_
  first | refine Exists.intro _ (And.intro (rtext1) ?_) | refine Hn_by (Exists.intro _ (And.intro (rtext1) ?_))
  repeat (first | refine gT ?_ | refine gF ?_ | refine brT ?_ | refine brF ?_)
  first | refine Exists.intro _ (And.intro (cut1) ?_) | refine Hn_by (Exists.intro _ (And.intro (cut1) ?_))
  repeat (first | refine gT ?_ | refine gF ?_ | refine brT ?_ | refine brF ?_)
  first | refine Exists.intro _ (And.intro (s1) ?_) | refine Hn_by (Exists.intro _ (And.intro (s1) ?_))
  repeat (first | refine gT ?_ | refine gF ?_ | refine brT ?_ | refine brF ?_)
  refine wr_c _ (by kernel_rfl) (by kernel_rfl) ?_
  repeat (first | refine gT ?_ | refine gF ?_ | refine brT ?_ | refine brF ?_)
  first | refine Exists.intro _ (And.intro (mono1) ?_) | refine Hn_by (Exists.intro _ (And.intro (mono1) ?_))
  repeat (first | refine gT ?_ | refine gF ?_ | refine brT ?_ | refine brF ?_)
  refine wr_d _ (by kernel_rfl) (by kernel_rfl) ?_
  repeat (first | refine gT ?_ | refine gF ?_ | refine brT ?_ | refine brF ?_)
  refine hP 1 _ ?_ (by decide) (by decide)
  exact leR_by [(3,6)] [] (by kernel_rfl) (by kernel_rfl) (by decide) ⟨cv_yl (by kernel_rfl),cv_bp (by decide) (by kernel_rfl),cv_int (by kernel_rfl),trivial⟩ ⟨⟨by kernel_rfl,rfl,cvB_sl (by kernel_rfl)⟩,⟨by kernel_rfl,rfl,cvB_bld (by decide) (by decide) (by kernel_rfl)⟩,⟨by kernel_rfl,rfl,cvB_sl (by kernel_rfl)⟩,⟨by kernel_rfl,trivial,cvB_arr (by kernel_rfl)⟩,trivial⟩
 ·repeat (first | refine gT ?_ | refine gF ?_ | refine brT ?_ | refine brF ?_)
  refine And.intro (show (0 : Int) <= 0 by decide) (Exists.intro _ (And.intro (show exR[((0 : Int)).toNat]? = some r1 from rfl) ?_))
  refine And.intro rfl ?_
  first | refine Exists.intro _ (And.intro (rtext1) ?_) | refine Hn_by (Exists.intro _ (And.intro (rtext1) ?_))
  repeat (first | refine gT ?_ | refine gF ?_ | refine brT ?_ | refine brF ?_)
  first | refine Exists.intro _ (And.intro (cut1) ?_) | refine Hn_by (Exists.intro _ (And.intro (cut1) ?_))
  repeat (first | refine gT ?_ | refine gF ?_ | refine brT ?_ | refine brF ?_)
  first | refine Exists.intro _ (And.intro (s1) ?_) | refine Hn_by (Exists.intro _ (And.intro (s1) ?_))
  repeat (first | refine gT ?_ | refine gF ?_ | refine brT ?_ | refine brF ?_)
  refine wr_e _ (by kernel_rfl) (by kernel_rfl) ?_
  repeat (first | refine gT ?_ | refine gF ?_ | refine brT ?_ | refine brF ?_)
  first | refine Exists.intro _ (And.intro (mono0) ?_) | refine Hn_by (Exists.intro _ (And.intro (mono0) ?_))
  repeat (first | refine gT ?_ | refine gF ?_ | refine brT ?_ | refine brF ?_)
  refine wr_f _ (by kernel_rfl) (by kernel_rfl) ?_
  repeat (first | refine gT ?_ | refine gF ?_ | refine brT ?_ | refine brF ?_)
  refine hP 0 _ ?_ (by decide) (by decide)
  exact leR_by [(3,6)] [] (by kernel_rfl) (by kernel_rfl) (by decide) ⟨cv_yl (by kernel_rfl),cv_bp (by decide) (by kernel_rfl),cv_int (by kernel_rfl),trivial⟩ ⟨⟨by kernel_rfl,rfl,cvB_sl (by kernel_rfl)⟩,⟨by kernel_rfl,rfl,cvB_bld (by decide) (by decide) (by kernel_rfl)⟩,⟨by kernel_rfl,rfl,cvB_sl (by kernel_rfl)⟩,⟨by kernel_rfl,trivial,cvB_arr (by kernel_rfl)⟩,trivial⟩
 ·clear hP
  repeat (first | refine gT ?_ | refine gF ?_ | refine brT ?_ | refine brF ?_)
  refine And.intro (Or.inl rfl) ?_
  repeat (first | refine gT ?_ | refine gF ?_ | refine brT ?_ | refine brF ?_)
  refine Hn_spc (Or.inr ?_)
  refine ⟨_,_,3,14,5,_,_,rfl,rfl,rfl,strFn,[45,50,42,120,94,50,32,43,32,120,32,43,32,49],by simp,rfl,rfl,?_⟩
  repeat (first | refine gT ?_ | refine gF ?_ | refine brT ?_ | refine brF ?_)
  exact And.intro (Or.inr rfl) rfl
end Ab
end
