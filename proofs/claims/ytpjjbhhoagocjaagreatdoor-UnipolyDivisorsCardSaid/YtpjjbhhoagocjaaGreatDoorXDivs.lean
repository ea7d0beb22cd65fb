import Derived.Test.YtpjjbhhoagocjaaGreatDoorXChain
import Derived.Test.YtpjjbhhoagocjaaGreatDoorXSane03
open Go Go.Proofs
namespace Ab
set_option maxRecDepth 100000
set_option maxHeartbeats 1000000
theorem sameRat_eq0 {a : Rat} (h : a = 1) : Spec Tryz.prog [] 18 [rV a,rV 1] (.bool true):=by
 have s:=sameRat_spec [] (a:=a) (b:=1) (h ▸ (bd_int (n:=1) (N:=1) (by decide)).rf (by decide +kernel))
 rw [decide_eq_true h] at s
 exact s
theorem divides_spec {d p A : List Rat} (dv : Spec Tryz.prog [] 32 [polyV p,polyV d] (.tup [polyV A,polyV [],.int .i64 0])) : Spec Tryz.prog [] 21 [polyV d,polyV p] (.bool true):=by
 refine spec_fn T_ok mixed_ok 0 Tryz.func21 fn_ok21 (by kernel_rfl) ?_
 first | refine Exists.intro _ (And.intro (dv) ?_) | refine Hn_by (Exists.intro _ (And.intro (dv) ?_))
 repeat (first | refine gT ?_ | refine gF ?_ | refine brT ?_ | refine brF ?_)
 exact And.intro (Or.inr rfl) rfl
theorem divs_zero {l m n : List Int} {P Q C : List Rat}
  (sa : Spec Tryz.prog [] 14 [] (.bool true))
  (pa : Spec Tryz.prog [] 15 [.sl (irows .i64 l),.int .i64 4] (polyV P))
  (pb : Spec Tryz.prog [] 15 [.sl (irows .i64 m),.int .i64 4] (polyV Q))
  (pc : Spec Tryz.prog [] 15 [.sl (irows .i64 n),.int .i64 3] (polyV C))
  (m1 : Spec Tryz.prog [] 16 [polyV P,polyV C] (.tup [polyV [],.int .i64 0]))
  (m2 : Spec Tryz.prog [] 16 [polyV Q,polyV C] (.tup [polyV [],.int .i64 0]))
  (g1 : Spec Tryz.prog [] 17 [polyV [],polyV []] (.tup [polyV [],.int .i64 0]))
  {H : List Rat} (g2 : Spec Tryz.prog [] 17 [polyV P,polyV Q] (.tup [polyV H,.int .i64 0])) :
  Spec Tryz.prog [] 3 [.sl (irows .i64 l),.sl (irows .i64 m),.sl (irows .i64 n)] (.bool true):=by
 refine spec_fn T_ok mixed_ok 0 Tryz.func3 fn_ok3 (by kernel_rfl) ?_
 first | refine Exists.intro _ (And.intro (sa) ?_) | refine Hn_by (Exists.intro _ (And.intro (sa) ?_))
 repeat (first | refine gT ?_ | refine gF ?_ | refine brT ?_ | refine brF ?_)
 first | refine Exists.intro _ (And.intro (pa) ?_) | refine Hn_by (Exists.intro _ (And.intro (pa) ?_))
 first | refine Exists.intro _ (And.intro (pb) ?_) | refine Hn_by (Exists.intro _ (And.intro (pb) ?_))
 first | refine Exists.intro _ (And.intro (pc) ?_) | refine Hn_by (Exists.intro _ (And.intro (pc) ?_))
 first | refine Exists.intro _ (And.intro (m1) ?_) | refine Hn_by (Exists.intro _ (And.intro (m1) ?_))
 first | refine Exists.intro _ (And.intro (m2) ?_) | refine Hn_by (Exists.intro _ (And.intro (m2) ?_))
 first | refine Exists.intro _ (And.intro (g1) ?_) | refine Hn_by (Exists.intro _ (And.intro (g1) ?_))
 first | refine Exists.intro _ (And.intro (g2) ?_) | refine Hn_by (Exists.intro _ (And.intro (g2) ?_))
 repeat (first | refine gT ?_ | refine gF ?_ | refine brT ?_ | refine brF ?_)
 exact And.intro (Or.inr rfl) rfl
theorem divs_walk {l m n : List Int} {P Q C AC BC G H X : List Rat}
  (sa : Spec Tryz.prog [] 14 [] (.bool true))
  (pa : Spec Tryz.prog [] 15 [.sl (irows .i64 l),.int .i64 4] (polyV P))
  (pb : Spec Tryz.prog [] 15 [.sl (irows .i64 m),.int .i64 4] (polyV Q))
  (pc : Spec Tryz.prog [] 15 [.sl (irows .i64 n),.int .i64 3] (polyV C))
  (m1 : Spec Tryz.prog [] 16 [polyV P,polyV C] (.tup [polyV AC,.int .i64 0]))
  (m2 : Spec Tryz.prog [] 16 [polyV Q,polyV C] (.tup [polyV BC,.int .i64 0]))
  (g1 : Spec Tryz.prog [] 17 [polyV AC,polyV BC] (.tup [polyV G,.int .i64 0]))
  (g2 : Spec Tryz.prog [] 17 [polyV P,polyV Q] (.tup [polyV H,.int .i64 0]))
  (h0 : 0 < AC.length ∨ 0 < BC.length) (G0 : 0 < G.length) (G1 : G.length <= 65)
  (nb : Spec Tryz.prog [] 19 [.int .i64 1] (rV 1))
  (s1 : Spec Tryz.prog [] 18 [rV (cf G (G.length - 1)),rV 1] (.bool true))
  (m3 : Spec Tryz.prog [] 16 [polyV H,polyV C] (.tup [polyV X,.int .i64 0]))
  (g3 : Spec Tryz.prog [] 17 [polyV X,polyV []] (.tup [polyV G,.int .i64 0]))
  (s2 : Spec Tryz.prog [] 20 [polyV G,polyV G] (.bool true))
  (d1 : Spec Tryz.prog [] 21 [polyV G,polyV AC] (.bool true))
  (d2 : Spec Tryz.prog [] 21 [polyV G,polyV BC] (.bool true))
  (d3 : Spec Tryz.prog [] 21 [polyV C,polyV G] (.bool true)) :
  Spec Tryz.prog [] 3 [.sl (irows .i64 l),.sl (irows .i64 m),.sl (irows .i64 n)] (.bool true):=by
 have lg:=poly_len G
 have la:=poly_len AC
 have lb:=poly_len BC
 have wn : w64 (((G.map rv).length : Int) - 1) = ((G.length - 1 : Nat) : Int):=w64_nat (by omega) (by omega)
 unfold rV rv at nb
 refine spec_fn T_ok mixed_ok 0 Tryz.func3 fn_ok3 (by kernel_rfl) ?_
 first | refine Exists.intro _ (And.intro (sa) ?_) | refine Hn_by (Exists.intro _ (And.intro (sa) ?_))
 repeat (first | refine gT ?_ | refine gF ?_ | refine brT ?_ | refine brF ?_)
 first | refine Exists.intro _ (And.intro (pa) ?_) | refine Hn_by (Exists.intro _ (And.intro (pa) ?_))
 first | refine Exists.intro _ (And.intro (pb) ?_) | refine Hn_by (Exists.intro _ (And.intro (pb) ?_))
 first | refine Exists.intro _ (And.intro (pc) ?_) | refine Hn_by (Exists.intro _ (And.intro (pc) ?_))
 first | refine Exists.intro _ (And.intro (m1) ?_) | refine Hn_by (Exists.intro _ (And.intro (m1) ?_))
 first | refine Exists.intro _ (And.intro (m2) ?_) | refine Hn_by (Exists.intro _ (And.intro (m2) ?_))
 first | refine Exists.intro _ (And.intro (g1) ?_) | refine Hn_by (Exists.intro _ (And.intro (g1) ?_))
 first | refine Exists.intro _ (And.intro (g2) ?_) | refine Hn_by (Exists.intro _ (And.intro (g2) ?_))
 repeat (first | refine gT ?_ | refine gF ?_ | refine brT ?_ | refine brF ?_)
 refine brE (fun e1 => ?_) (fun e1 => ?_)
 ·repeat (first | refine gT ?_ | refine gF ?_ | refine brT ?_ | refine brF ?_)
  refine brE (fun e2 => absurd h0 ?_) (fun _ => ?_)
  ·have e1 : ((AC.map rv).length : Int) = 0:=e1
   have e2 : ((BC.map rv).length : Int) = 0:=e2
   omega
  ·
   refine And.intro (by kernel_rfl) ?_
   refine grE (fun g => absurd (show ((G.map rv).length : Int) = 0 from g) (by omega)) (fun _ => ?_)
   repeat (first | refine gT ?_ | refine gF ?_ | refine brT ?_ | refine brF ?_ | refine And.intro rfl ?_)
   refine And.intro (show (0 : Int) <= w64 (((G.map rv).length : Int) - 1) by omega) (Exists.intro _ (And.intro (idx_nat wn (by omega)) ?_))
   repeat (first | refine gT ?_ | refine gF ?_ | refine brT ?_ | refine brF ?_ | refine And.intro rfl ?_)
   first | refine Exists.intro _ (And.intro (nb) ?_) | refine Hn_by (Exists.intro _ (And.intro (nb) ?_))
   repeat (first | refine gT ?_ | refine gF ?_ | refine brT ?_ | refine brF ?_ | refine And.intro rfl ?_)
   first | refine Exists.intro _ (And.intro (s1) ?_) | refine Hn_by (Exists.intro _ (And.intro (s1) ?_))
   repeat (first | refine gT ?_ | refine gF ?_ | refine brT ?_ | refine brF ?_ | refine And.intro rfl ?_)
   first | refine Exists.intro _ (And.intro (m3) ?_) | refine Hn_by (Exists.intro _ (And.intro (m3) ?_))
   first | refine Exists.intro _ (And.intro (g3) ?_) | refine Hn_by (Exists.intro _ (And.intro (g3) ?_))
   repeat (first | refine gT ?_ | refine gF ?_ | refine brT ?_ | refine brF ?_)
   first | refine Exists.intro _ (And.intro (s2) ?_) | refine Hn_by (Exists.intro _ (And.intro (s2) ?_))
   repeat (first | refine gT ?_ | refine gF ?_ | refine brT ?_ | refine brF ?_)
   first | refine Exists.intro _ (And.intro (d1) ?_) | refine Hn_by (Exists.intro _ (And.intro (d1) ?_))
   repeat (first | refine gT ?_ | refine gF ?_ | refine brT ?_ | refine brF ?_)
   first | refine Exists.intro _ (And.intro (d2) ?_) | refine Hn_by (Exists.intro _ (And.intro (d2) ?_))
   repeat (first | refine gT ?_ | refine gF ?_ | refine brT ?_ | refine brF ?_)
   first | refine Exists.intro _ (And.intro (d3) ?_) | refine Hn_by (Exists.intro _ (And.intro (d3) ?_))
   repeat (first | refine gT ?_ | refine gF ?_ | refine brT ?_ | refine brF ?_)
   exact And.intro (Or.inr rfl) rfl
 ·repeat (first | refine gT ?_ | refine gF ?_ | refine brT ?_ | refine brF ?_)
  refine And.intro (by kernel_rfl) ?_
  refine grE (fun g => absurd (show ((G.map rv).length : Int) = 0 from g) (by omega)) (fun _ => ?_)
  repeat (first | refine gT ?_ | refine gF ?_ | refine brT ?_ | refine brF ?_ | refine And.intro rfl ?_)
  refine And.intro (show (0 : Int) <= w64 (((G.map rv).length : Int) - 1) by omega) (Exists.intro _ (And.intro (idx_nat wn (by omega)) ?_))
  repeat (first | refine gT ?_ | refine gF ?_ | refine brT ?_ | refine brF ?_ | refine And.intro rfl ?_)
  first | refine Exists.intro _ (And.intro (nb) ?_) | refine Hn_by (Exists.intro _ (And.intro (nb) ?_))
  repeat (first | refine gT ?_ | refine gF ?_ | refine brT ?_ | refine brF ?_ | refine And.intro rfl ?_)
  first | refine Exists.intro _ (And.intro (s1) ?_) | refine Hn_by (Exists.intro _ (And.intro (s1) ?_))
  repeat (first | refine gT ?_ | refine gF ?_ | refine brT ?_ | refine brF ?_ | refine And.intro rfl ?_)
  first | refine Exists.intro _ (And.intro (m3) ?_) | refine Hn_by (Exists.intro _ (And.intro (m3) ?_))
  first | refine Exists.intro _ (And.intro (g3) ?_) | refine Hn_by (Exists.intro _ (And.intro (g3) ?_))
  repeat (first | refine gT ?_ | refine gF ?_ | refine brT ?_ | refine brF ?_)
  first | refine Exists.intro _ (And.intro (s2) ?_) | refine Hn_by (Exists.intro _ (And.intro (s2) ?_))
  repeat (first | refine gT ?_ | refine gF ?_ | refine brT ?_ | refine brF ?_)
  first | refine Exists.intro _ (And.intro (d1) ?_) | refine Hn_by (Exists.intro _ (And.intro (d1) ?_))
  repeat (first | refine gT ?_ | refine gF ?_ | refine brT ?_ | refine brF ?_)
  first | refine Exists.intro _ (And.intro (d2) ?_) | refine Hn_by (Exists.intro _ (And.intro (d2) ?_))
  repeat (first | refine gT ?_ | refine gF ?_ | refine brT ?_ | refine brF ?_)
  first | refine Exists.intro _ (And.intro (d3) ?_) | refine Hn_by (Exists.intro _ (And.intro (d3) ?_))
  repeat (first | refine gT ?_ | refine gF ?_ | refine brT ?_ | refine brF ?_)
  exact And.intro (Or.inr rfl) rfl
theorem sb_pb {a d N n : Nat} {p : List Rat} (h : PB d N n p) (h1 : d <= 2 ^ a) (h2 : N <= 2 ^ a) : SB a p:=⟨d,N,h1,h2,h.b⟩
theorem gok_divs : ∀ lf,lf <= 4 -> ∀ lg,lg <= 4 -> gok 9 200 13 lf lg 6 6 = true:=by decide +kernel
theorem divides_of {a b : Nat} {d p : List Rat} {s : Nat -> Rat} (hp : SB a p) (hd : SB b d) (tp : Lst p) (td : Lst d) (lp : p.length <= 65) (ld : d.length <= 65) (d0 : 0 < d.length) (hs : 1 + a + (p.length + 1 - d.length) * (b + 1) <= 2000) (hb : b <= 3999) (fs : Fs s) (h : ∀ k,cf p k = cnv s (cf d) k) : Spec Tryz.prog [] 21 [polyV d,polyV p] (.bool true):=by
 obtain ⟨A,R,dR,hid,hrl,tR,_⟩:=div_ex hp hd tp td lp d0 hs
 have hz:=rest_zero fs (fs_cf A) h hid (lst_at td (k:=d.length - 1) (by omega)) d0 hrl
 have er : R = []:=lst_ext tR (fun h => absurd rfl h) fun i => by rw [hz]; exact (cf_out (Nat.zero_le _)).symm
 subst er
 exact divides_spec (DivMod_spec [] (hp.poly (by omega) lp tp) (hd.poly hb ld td) d0 dR)
theorem divs_law (l : List Int) (hl : l.length <= maxLen) (il : ∀ x ∈ l,I64 x) (m : List Int) (hm : m.length <= maxLen) (im : ∀ x ∈ m,I64 x) (n : List Int) (hn : n.length <= maxLen) (in_ : ∀ x ∈ n,I64 x) :
  Spec Tryz.prog [] 3 [.sl (irows .i64 l),.sl (irows .i64 m),.sl (irows .i64 n)] (.bool true):=by
 have p:=pb_poly l 4
 have q:=pb_poly m 4
 have c:=pb_poly n 3
 have pc:=lawPoly_pb [] il hl (n:=4) (by decide)
 have qc:=lawPoly_pb [] im hm (n:=4) (by decide)
 have cc:=lawPoly_pb [] in_ hn (n:=3) (by decide)
 generalize polyQ l 4 = P at *
 generalize polyQ m 4 = Q at *
 generalize polyQ n 3 = C at *
 have sp : SB 6 P:=sb_pb p (by decide) (by decide)
 have sq : SB 6 Q:=sb_pb q (by decide) (by decide)
 have sc : SB 6 C:=sb_pb c (by decide) (by decide)
 have lp:=p.l
 have lq:=q.l
 have lc:=c.l
 have m1:=Mul_sb [] sp sc p.t c.t (by omega) (by omega) (by omega) (by omega)
 have m2:=Mul_sb [] sq sc q.t c.t (by omega) (by omega) (by omega) (by omega)
 have sac:=sp.mul sc (by omega)
 have sbc:=sq.mul sc (by omega)
 have tac:=mulP_lst p.t c.t
 have tbc:=mulP_lst q.t c.t
 have lac:=mulP_len P C
 have lbc:=mulP_len Q C
 by_cases c0 : 0 < C.length
 ·obtain ⟨k,h,hk1,hk2,hA,hS,hT,hL,hM⟩:=chain (cap:=200) (e:=6) (by decide) c.t c0 sc (by omega) 9 (gok_divs _ lp _ lq) sp sq p.t q.t (by omega) (by omega) (scal_refl C) (scal_refl C) sc sc
  have g1:=GCD_spec [] (sac.poly (by omega) (by omega) tac) (sbc.poly (by omega) (by omega) tbc) hk2
  have g2:=GCD_spec [] (sp.poly (by omega) (by omega) p.t) (sq.poly (by omega) (by omega) q.t) hk1
  by_cases h0 : 0 < P.length ∨ 0 < Q.length
  ·obtain ⟨u,v,s,t,fu,fv,fs,ft,e1,e2,e3⟩:=hA
   have hh : 0 < h.length:=by
    apply Decidable.byContradiction
    intro hn0
    have eh : h = []:=List.eq_nil_of_length_eq_zero (by omega)
    have z1 : ∀ k,cf P k = 0:=fun k => by rw [e2,eh]; rw [cnv_congr (g':=fun _ => 0) (fun _ => rfl) (fun i => cf_out (Nat.zero_le _)),cnv_comm,cnv_zerol]
    have z2 : ∀ k,cf Q k = 0:=fun k => by rw [e3,eh]; rw [cnv_congr (g':=fun _ => 0) (fun _ => rfl) (fun i => cf_out (Nat.zero_le _)),cnv_comm,cnv_zerol]
    rcases h0 with h0 | h0
    ·exact lst_at p.t (k:=P.length - 1) (by omega) (z1 _)
    ·exact lst_at q.t (k:=Q.length - 1) (by omega) (z2 _)
   have hlh : h.length <= 4:=by
    have aux : ∀ {w : Nat -> Rat} {f : List Rat},Fs w -> Lst f -> 0 < f.length -> f.length <= 4 -> (∀ k,cf f k = cnv w (cf h) k) -> h.length <= 4:=by
     intro w f fw tf f0 f4 hf
     rcases fs_top fw with hz | ⟨i,hi,hj⟩
     ·exact absurd (by rw [hf,show w = fun _ => 0 from funext hz,cnv_zerol]) (lst_at tf (k:=f.length - 1) (by omega))
     ·have:=cnv_top (d:=cf h) (e:=h.length - 1) hj (fun j hj => cf_out (p:=h) (i:=j) (by omega))
      rw [<- hf] at this
      apply Decidable.byContradiction
      intro hn5
      rw [cf_out (by omega)] at this
      rcases Rat.mul_eq_zero.1 this.symm with e | e
      ·exact hi e
      ·exact lst_at hT (k:=h.length - 1) (by omega) e
    rcases h0 with h0 | h0
    ·exact aux fs p.t h0 lp e2
    ·exact aux ft q.t h0 lq e3
   have shc:=hS.mul sc (by omega)
   have thc:=mulP_lst hT c.t
   have lhc:=mulP_len0 (p:=h) (q:=C) hh c0
   have m3:=Mul_sb [] hS sc hT c.t (by omega) (by omega) (by omega) (by omega)
   have sG:=mon_sb shc thc
   have tG:=monP_lst thc
   have lG:=monP_len (mulP h C)
   have g3:=GCD_spec [] (shc.poly (by omega) (by omega) thc) poly_nil (.done (by omega) (mon_ok shc (by omega) thc))
   have gone:=monP_one thc (by omega)
   rw [<- lG] at gone
   obtain ⟨d,N,x1,x2,x3⟩:=sG
   have s2:=Same_eq [] (n:=6) ⟨x3,tG,by omega⟩ (by have:=two_two (200 + 6 + 7); have:=sz_pow (a:=200 + 6 + 7 + 1) (by decide); omega) (by decide) rfl
   have sG : SB (200 + 6 + 7) (monP (mulP h C)):=⟨d,N,x1,x2,x3⟩
   have l1:=lst_at thc (k:=(mulP h C).length - 1) (by omega)
   have ex : ∀ k,cf (mulP h C) k = cf (mulP h C) ((mulP h C).length - 1) * cf (monP (mulP h C)) k:=fun k => by rw [cf_monP]; grind
   have em : ∀ {w : Nat -> Rat} {f : List Rat},(∀ k,cf f k = cnv w (cf h) k) -> ∀ k,cf (mulP f C) k = cnv (fun i => cf (mulP h C) ((mulP h C).length - 1) * w i) (cf (monP (mulP h C))) k:=by
    intro w f hf k
    rw [cf_mulP,show cf f = cnv w (cf h) from funext hf,cnv_mulc (cf (mulP h C) ((mulP h C).length - 1)) w,<- cnv_mulr (cf (mulP h C) ((mulP h C).length - 1)) w,<- cnv_assoc]
    refine cnv_congr (fun _ => rfl) fun i => ?_
    rw [<- cf_mulP,ex]
   refine divs_walk sane_spec pc qc cc m1 m2 g1 g2 ?_ (by omega) (by omega) (number_spec [] (by decide) (by decide))
    (sameRat_eq0 (by rw [gone])) m3 g3 s2
    (divides_of sac sG tac tG (by omega) (by omega) (by omega) ?_ (by decide) (fs.scale _) (em e2))
    (divides_of sbc sG tbc tG (by omega) (by omega) (by omega) ?_ (by decide) (ft.scale _) (em e3))
    (divides_of sG sc tG c.t (by omega) (by omega) c0 ?_ (by decide) ((fs_cf h).scale (1 / cf (mulP h C) ((mulP h C).length - 1))) fun k => ?_)
   ·rcases h0 with h0 | h0
    ·have:=mulP_len0 (p:=P) (q:=C) h0 c0
     exact .inl (by omega)
    ·have:=mulP_len0 (p:=Q) (q:=C) h0 c0
     exact .inr (by omega)
   ·have : (mulP P C).length + 1 - (monP (mulP h C)).length <= 6:=by omega
    have:=Nat.mul_le_mul_right (200 + 6 + 7 + 1) this
    omega
   ·have : (mulP Q C).length + 1 - (monP (mulP h C)).length <= 6:=by omega
    have:=Nat.mul_le_mul_right (200 + 6 + 7 + 1) this
    omega
   ·have : (monP (mulP h C)).length + 1 - C.length <= 7:=by omega
    have:=Nat.mul_le_mul_right (6 + 1) this
    omega
   ·rw [cf_monP,cnv_mulc (1 / cf (mulP h C) ((mulP h C).length - 1)) (cf h),<- cf_mulP]
    grind
  ·have eP : P = []:=List.eq_nil_of_length_eq_zero (by omega)
   have eQ : Q = []:=List.eq_nil_of_length_eq_zero (by omega)
   subst eP
   subst eQ
   rw [mulP_nil] at *
   exact divs_zero sane_spec pc qc cc m1 m2 (GCD_spec [] poly_nil poly_nil (.done (Nat.zero_le _) fun _ h => (by cases h))) g2
 ·have eC : C = []:=List.eq_nil_of_length_eq_zero (by omega)
  subst eC
  have en : ∀ p : List Rat,mulP p [] = []:=fun p => if_pos (.inr rfl)
  rw [en] at m1 m2
  have t1 : Lst [(1 : Rat)]:=lst_of fun k hk => by
   have : k = 0:=by simpa using hk.symm
   subst this
   show (1 : Rat) ≠ 0
   decide
  have s1 : SB 6 [(1 : Rat)]:=⟨1,1,by decide,by decide,bdl_of (by decide) fun i hi => by
   have : i = 0:=by simpa using hi
   subst this
   exact bd_int (n:=1) (by decide)⟩
  obtain ⟨k,h,hk1,_⟩:=chain (cap:=200) (e:=6) (by decide) t1 (by decide) s1 (by decide) 9 (gok_divs _ lp _ lq) sp sq p.t q.t (by omega) (by omega) (scal_refl [1]) (scal_refl [1]) s1 s1
  exact divs_zero sane_spec pc qc cc m1 m2 (GCD_spec [] poly_nil poly_nil (.done (Nat.zero_le _) fun _ h => (by cases h))) (GCD_spec [] (sp.poly (by omega) (by omega) p.t) (sq.poly (by omega) (by omega) q.t) hk1)
end Ab
