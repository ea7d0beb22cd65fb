import Derived.Test.YtpjjbhhoagocjaaGreatDoorXDivP
import Derived.Test.YtpjjbhhoagocjaaGreatDoorXDerP
namespace Ab
def Fs (f : Nat -> Rat) : Prop:=∃ n,∀ i,n <= i -> f i = 0
theorem fs_cf (p : List Rat) : Fs (cf p):=⟨p.length,fun _ h => cf_out h⟩
theorem fs_zero : Fs fun _ => 0:=⟨0,fun _ _ => rfl⟩
theorem fs_one : Fs one0:=⟨1,fun i h => if_neg (by omega)⟩
theorem Fs.scale {f : Nat -> Rat} (c : Rat) (h : Fs f) : Fs fun i => c * f i:=by
 obtain ⟨n,hn⟩:=h
 exact ⟨n,fun i hi => by show c * f i = 0; rw [hn i hi,Rat.mul_zero]⟩
theorem Fs.add {f g : Nat -> Rat} (hf : Fs f) (hg : Fs g) : Fs fun i => f i + g i:=by
 obtain ⟨n,hn⟩:=hf
 obtain ⟨m,hm⟩:=hg
 exact ⟨max n m,fun i hi => by show f i + g i = 0; rw [hn i (by omega),hm i (by omega),Rat.add_zero]⟩
theorem cnv_sup {f g : Nat -> Rat} {n m : Nat} (hf : ∀ i,n <= i -> f i = 0) (hg : ∀ i,m <= i -> g i = 0) : ∀ i,n + m <= i -> cnv f g i = 0:=fun i hi => psum_zero fun j _ => by
 by_cases e : j < n
 ·rw [hg (i - j) (by omega),Rat.mul_zero]
 ·rw [hf j (by omega),Rat.zero_mul]
theorem Fs.cnv {f g : Nat -> Rat} (hf : Fs f) (hg : Fs g) : Fs (cnv f g):=by
 obtain ⟨n,hn⟩:=hf
 obtain ⟨m,hm⟩:=hg
 exact ⟨n + m,cnv_sup hn hm⟩
theorem cnv_zerol (g : Nat -> Rat) (k : Nat) : cnv (fun _ => 0) g k = 0:=psum_zero fun _ _ => Rat.zero_mul _
def Alg (f g h : List Rat) : Prop:=∃ u v s t,Fs u∧Fs v∧Fs s∧Fs t∧(∀ k,cf h k = cnv u (cf f) k + cnv v (cf g) k)∧(∀ k,cf f k = cnv s (cf h) k)∧(∀ k,cf g k = cnv t (cf h) k)
theorem alg_done {f h : List Rat} {c l : Rat} (h1 : ∀ k,cf h k = c * cf f k) (h2 : ∀ k,cf f k = l * cf h k) : Alg f [] h :=
 ⟨fun i => c * one0 i,fun _ => 0,fun i => l * one0 i,fun _ => 0,fs_one.scale c,fs_zero,fs_one.scale l,fs_zero,
  fun k => by rw [cnv_mulc c one0,cnv_one,cnv_zerol,Rat.add_zero,h1],fun k => by rw [cnv_mulc l one0,cnv_one,h2],fun k => by rw [cnv_zerol]; exact cf_out (Nat.zero_le _)⟩
theorem cnv_subr (f g h : Nat -> Rat) (k : Nat) : cnv f (fun i => g i - h i) k = cnv f g k - cnv f h k:=by
 have e : (fun i => g i - h i) = fun i => g i + (-1) * h i:=funext fun i => by grind
 rw [e,cnv_add f g fun i => (-1) * h i,cnv_mulr (-1) f h]; grind
theorem cnv_subl (f g h : Nat -> Rat) (k : Nat) : cnv (fun i => g i - h i) f k = cnv g f k - cnv h f k:=by
 rw [cnv_comm,cnv_subr,cnv_comm f g,cnv_comm f h]
theorem Fs.sub {f g : Nat -> Rat} (hf : Fs f) (hg : Fs g) : Fs fun i => f i - g i:=by
 obtain ⟨n,hn⟩:=hf
 obtain ⟨m,hm⟩:=hg
 exact ⟨max n m,fun i hi => by show f i - g i = 0; rw [hn i (by omega),hm i (by omega)]; grind⟩
theorem alg_step {f g r' h : List Rat} {a r : Nat -> Rat} {c l : Rat} (fa : Fs a) (hf : ∀ k,cf f k = cnv a (cf g) k + r k) (h1 : ∀ k,cf r' k = c * r k) (h2 : ∀ k,r k = l * cf r' k) (H : Alg g r' h) : Alg f g h:=by
 obtain ⟨u,v,s,t,fu,fv,fs,ft,e1,e2,e3⟩:=H
 refine ⟨fun i => c * v i,fun i => u i - c * cnv v a i,fun i => cnv a s i + l * t i,s,fv.scale c,fu.sub ((fv.cnv fa).scale c),(fa.cnv fs).add (ft.scale l),fs,fun k => ?_,fun k => ?_,e2⟩
 ·rw [e1,cnv_subl (cf g) u (fun i => c * cnv v a i),cnv_mulc c (cnv v a),cnv_mulc c v]
  have er : cf r' = fun i => c * (cf f i - cnv a (cf g) i):=funext fun i => by rw [h1,hf]; grind
  rw [er,cnv_mulr c v,cnv_subr,cnv_assoc]
  grind
 ·rw [hf,cnv_addl (cf h) (cnv a s) (fun i => l * t i),cnv_mulc l t,<- cnv_assoc,h2,e3,cnv_congr (fun _ => rfl) e2]
theorem fs_top {w : Nat -> Rat} (h : Fs w) : (∀ i,w i = 0) ∨ ∃ i,w i ≠ 0∧∀ j,i < j -> w j = 0:=by
 obtain ⟨n,hn⟩:=h
 induction n with
 | zero => exact .inl fun i => hn i (Nat.zero_le _)
 | succ n ih =>
  by_cases e : w n = 0
  ·exact ih fun i hi => if e2 : i = n then e2 ▸ e else hn i (by omega)
  ·exact .inr ⟨n,e,fun j hj => hn j hj⟩
theorem cnv_top {w d : Nat -> Rat} {i e : Nat} (hw : ∀ j,i < j -> w j = 0) (hd : ∀ j,e < j -> d j = 0) : cnv w d (i + e) = w i * d e:=by
 unfold cnv
 rw [psum_one (m:=i) (by omega) fun j h1 h2 => ?_]
 ·rw [Nat.add_sub_cancel_left]
 ·by_cases h3 : i < j
  ·rw [hw j h3,Rat.zero_mul]
  ·rw [hd (i + e - j) (by omega),Rat.mul_zero]
theorem mul_short {w r : Nat -> Rat} {d : List Rat} (fw : Fs w) (h : ∀ k,cnv w (cf d) k = r k) (hd : cf d (d.length - 1) ≠ 0) (h0 : 0 < d.length) (hr : ∀ i,d.length - 1 <= i -> r i = 0) : ∀ i,w i = 0:=by
 rcases fs_top fw with hz | ⟨i,hi,hj⟩
 ·exact hz
 ·have:=cnv_top (d:=cf d) (e:=d.length - 1) hj (fun j hj => cf_out (p:=d) (i:=j) (by omega))
  rw [h,hr _ (by omega)] at this
  rcases Rat.mul_eq_zero.1 this.symm with e | e
  ·exact absurd e hi
  ·exact absurd e hd
end Ab
