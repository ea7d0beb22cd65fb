import Derived.Test.YtbcgkonhkoopnaaGreatXLen
open Go Go.Proofs
namespace Ab
set_option maxRecDepth 100000
set_option maxHeartbeats 1000000
theorem lz_spec (x : Nat) (hx : x < 2 ^ 64) : Spec Tryz.prog [] 161 [.int .u64 (x : Int)] (.int .i64 (w64 (64 - (bitLen x : Int)))) := by
 have s := len_spec x hx
 refine spec_fn T_ok mixed_ok 1 Tryz.func161 fn_ok161 (by kernel_rfl) ?_
 first | refine Exists.intro _ (And.intro (s) ?_) | refine Hn_by (Exists.intro _ (And.intro (s) ?_))
 exact And.intro (Or.inr rfl) rfl
theorem nn {X : Int} {x : Nat} (h : X = (x : Int)) : 0 <= X := by omega
theorem nz {X : Int} {x : Nat} (h : X = (x : Int)) (h0 : x ≠ 0) : X ≠ 0 := by omega
theorem n_shl {X S : Int} {x s : Nat} (hX : X = (x : Int)) (hS : S = (s : Int)) (hs : s <= 64) (h : x * 2 ^ s < 2 ^ 64) : IntKind.u64.wrap (X * 2 ^ (min S.toNat IntKind.u64.bits)) = ((x * 2 ^ s : Nat) : Int) := by
 rw [hX, hS, Int.toNat_natCast, Nat.min_eq_left (show s <= IntKind.u64.bits from hs), u64_mod]
 have e : (x : Int) * 2 ^ s = ((x * 2 ^ s : Nat) : Int) := by simp
 rw [e]
 omega
theorem n_shlm {X S : Int} {x s : Nat} (hX : X = (x : Int)) (hS : S = (s : Int)) (hs : s <= 64) : IntKind.u64.wrap (X * 2 ^ (min S.toNat IntKind.u64.bits)) = ((x * 2 ^ s % 2 ^ 64 : Nat) : Int) := by
 rw [hX, hS, Int.toNat_natCast, Nat.min_eq_left (show s <= IntKind.u64.bits from hs), u64_mod]
 have e : (x : Int) * 2 ^ s = ((x * 2 ^ s : Nat) : Int) := by simp
 rw [e]
 omega
theorem n_shr {X S : Int} {x s : Nat} (hX : X = (x : Int)) (hS : S = (s : Int)) (hs : s <= 64) : Int.fdiv X (2 ^ (min S.toNat IntKind.u64.bits)) = ((x / 2 ^ s : Nat) : Int) := by
 rw [hS]; exact shr_nat s hX hs
theorem n_and32 {X : Int} {x : Nat} (hX : X = (x : Int)) (h : x < 2 ^ 64) : Go.bits .and .u64 X 4294967295 = ((x % 2 ^ 32 : Nat) : Int) := by
 rw [hX, and_low32 _ (by omega) (by omega)]; omega
theorem n_add {X Z : Int} {x z : Nat} (hX : X = (x : Int)) (hZ : Z = (z : Int)) (h : x + z < 2 ^ 64) : IntKind.u64.wrap (X + Z) = ((x + z : Nat) : Int) := by
 rw [hX, hZ, u64_mod]; omega
theorem n_sub {X Z : Int} {x z : Nat} (hX : X = (x : Int)) (hZ : Z = (z : Int)) (h : z <= x) (hx : x < 2 ^ 64) : IntKind.u64.wrap (X - Z) = ((x - z : Nat) : Int) := by
 rw [hX, hZ, u64_mod]; omega
theorem n_mul {X Z : Int} {x z : Nat} (hX : X = (x : Int)) (hZ : Z = (z : Int)) (h : x * z < 2 ^ 64) : IntKind.u64.wrap (X * Z) = ((x * z : Nat) : Int) := by
 rw [hX, hZ, u64_mod, <- Int.natCast_mul]; omega
theorem n_mulm {X Z : Int} {x z : Nat} (hX : X = (x : Int)) (hZ : Z = (z : Int)) : IntKind.u64.wrap (X * Z) = ((x * z % 2 ^ 64 : Nat) : Int) := by
 rw [hX, hZ, u64_mod, <- Int.natCast_mul]; omega
theorem n_addm {X Z : Int} {x z : Nat} (hX : X = (x : Int)) (hZ : Z = (z : Int)) : IntKind.u64.wrap (X + Z) = (((x + z) % 2 ^ 64 : Nat) : Int) := by
 rw [hX, hZ, u64_mod]; omega
theorem n_subm {X Z : Int} {x z : Nat} (hX : X = (x : Int)) (hZ : Z = (z : Int)) (hz : z < 2 ^ 64) : IntKind.u64.wrap (X - Z) = (((x + (2 ^ 64 - z)) % 2 ^ 64 : Nat) : Int) := by
 rw [hX, hZ, u64_mod]; omega
theorem n_quo {X Z : Int} {x z : Nat} (hX : X = (x : Int)) (hZ : Z = (z : Int)) (h : x < 2 ^ 64) : IntKind.u64.wrap (Int.tdiv X Z) = ((x / z : Nat) : Int) := by
 have : x / z <= x := Nat.div_le_self _ _
 rw [hX, hZ, u64_mod, <- Int.ofNat_tdiv]
 generalize x / z = q at this ⊢
 omega
theorem n_rem {X Z : Int} {x z : Nat} (hX : X = (x : Int)) (hZ : Z = (z : Int)) : Int.tmod X Z = ((x % z : Nat) : Int) := by
 rw [hX, hZ, Int.ofNat_tmod]
theorem n_or {X Z : Int} {x z s : Nat} (hX : X = (x : Int)) (hZ : Z = (z : Int)) (h : ∃ a, x = 2 ^ s * a) (hz : z < 2 ^ s) (h1 : x + z < 2 ^ 64) : Go.bits .or .u64 X Z = ((x + z : Nat) : Int) := by
 obtain ⟨a, rfl⟩ := h
 rw [hX, hZ, u64_or_nat _ _ (by omega) (by omega), <- Nat.two_pow_add_eq_or_of_lt hz a]
structure Est (u u1 v1 v0 q r : Nat) : Prop where
 e : q * v1 + r = u
 r : r < 4294967296
 up : u * 4294967296 + u1 < (q + 1) * (v1 * 4294967296 + v0)
theorem est_init {u u1 v1 v0 : Nat} (h1 : u1 < 4294967296) (hv : 0 < v1) (hv2 : v1 < 4294967296) : Est u u1 v1 v0 (u / v1) (u % v1) := by
 refine ⟨by rw [Nat.mul_comm]; exact Nat.div_add_mod u v1, Nat.lt_trans (Nat.mod_lt _ hv) hv2, ?_⟩
 have h := Nat.lt_mul_div_succ u hv
 rw [Nat.mul_comm] at h
 generalize u / v1 = q at h ⊢
 have h2 : u + 1 <= (q + 1) * v1 := h
 have h3 : (u + 1) * 4294967296 <= (q + 1) * v1 * 4294967296 := Nat.mul_le_mul_right _ h2
 rw [Nat.mul_add, <- Nat.mul_assoc]
 omega
theorem est_end {u u1 v1 v0 q r : Nat} (h : Est u u1 v1 v0 q r) (h2 : q * v0 <= 4294967296 * r + u1) : q * (v1 * 4294967296 + v0) <= u * 4294967296 + u1 := by
 have := h.e
 rw [Nat.mul_add, <- Nat.mul_assoc, <- this, Nat.add_mul]
 omega
theorem est_next {u u1 v1 v0 q r : Nat} (h : Est u u1 v1 v0 q r) (hu : u < v1 * 4294967296 + v0) (h1 : u1 < 4294967296) (h2 : 4294967296 <= q ∨ 4294967296 * r + u1 < q * v0) :
  0 < q ∧ (q - 1) * v1 + (r + v1) = u ∧ u * 4294967296 + u1 < q * (v1 * 4294967296 + v0) := by
 have he := h.e
 have hq : 0 < q := by
  rcases h2 with h2 | h2
  ·omega
  ·rcases Nat.eq_zero_or_pos q with e | e
   ·rw [e] at h2; omega
   ·exact e
 refine ⟨hq, ?_, ?_⟩
 ·obtain ⟨p, rfl⟩ : ∃ p, q = p + 1 := ⟨q - 1, by omega⟩
  rw [Nat.add_mul] at he
  simp only [Nat.add_sub_cancel]
  omega
 ·rcases h2 with h2 | h2
  ·have a : 4294967296 * (v1 * 4294967296 + v0) <= q * (v1 * 4294967296 + v0) := Nat.mul_le_mul_right _ h2
   have b : (u + 1) * 4294967296 <= (v1 * 4294967296 + v0) * 4294967296 := Nat.mul_le_mul_right _ hu
   omega
  ·rw [Nat.mul_add, <- Nat.mul_assoc]
   have : u * 4294967296 = q * v1 * 4294967296 + r * 4294967296 := by rw [<- he, Nat.add_mul]
   omega
theorem est_break {u u1 v1 v0 q r : Nat} (e : q * v1 + r = u) (hr : 4294967296 <= r) (hu : u < v1 * 4294967296 + v0) (hv0 : v0 < 4294967296) : q < 4294967296 ∧ q * (v1 * 4294967296 + v0) <= u * 4294967296 + u1 := by
 have hq : q < 4294967296 := by
  refine Nat.lt_of_mul_lt_mul_right (a := v1) ?_
  rw [Nat.mul_comm 4294967296 v1]
  omega
 refine ⟨hq, ?_⟩
 have h1 : q * v0 <= 4294967296 * 4294967296 := Nat.mul_le_mul (by omega) (by omega)
 rw [Nat.mul_add, <- Nat.mul_assoc, <- e, Nat.add_mul]
 omega
theorem norm_ok {y : Nat} (h0 : 0 < y) (h1 : y < 2 ^ 64) : bitLen y <= 64 ∧ y * 2 ^ (64 - bitLen y) < 2 ^ 64 ∧ 2 ^ 63 <= y * 2 ^ (64 - bitLen y) := by
 obtain ⟨a, b⟩ := bitLen_spec y
 have b := b (by omega)
 have hl : bitLen y <= 64 := by
  refine Nat.le_of_not_lt fun h => ?_
  have : 2 ^ 64 <= 2 ^ (bitLen y - 1) := Nat.pow_le_pow_right (by decide) (by omega)
  omega
 have hl0 : 0 < bitLen y := by
  rcases Nat.eq_zero_or_pos (bitLen y) with e | e
  ·rw [e] at a; omega
  ·exact e
 refine ⟨hl, ?_, ?_⟩
 ·have : y * 2 ^ (64 - bitLen y) < 2 ^ bitLen y * 2 ^ (64 - bitLen y) := Nat.mul_lt_mul_of_pos_right a (Nat.pow_pos (by decide))
  rwa [<- Nat.pow_add, show bitLen y + (64 - bitLen y) = 64 by omega] at this
 ·have : 2 ^ (bitLen y - 1) * 2 ^ (64 - bitLen y) <= y * 2 ^ (64 - bitLen y) := Nat.mul_le_mul_right _ b
  rwa [<- Nat.pow_add, show bitLen y - 1 + (64 - bitLen y) = 63 by omega] at this
theorem shift_hi {hi lo s : Nat} (hs : s <= 64) : hi * 2 ^ s + lo / 2 ^ (64 - s) = (hi * 2 ^ 64 + lo) * 2 ^ s / 2 ^ 64 := by
 have e : (2 : Nat) ^ 64 = 2 ^ (64 - s) * 2 ^ s := by rw [<- Nat.pow_add, show 64 - s + s = 64 by omega]
 have p : 0 < 2 ^ s := Nat.pow_pos (by decide)
 have e2 : hi * 2 ^ 64 + lo = lo + hi * 2 ^ s * 2 ^ (64 - s) := by rw [e, Nat.mul_comm (2 ^ (64 - s)), <- Nat.mul_assoc, Nat.add_comm]
 have e3 : ∀ X, X / 2 ^ 64 = X / (2 ^ (64 - s) * 2 ^ s) := fun X => by rw [<- e]
 rw [e3, e2, Nat.mul_div_mul_right _ _ p, Nat.add_mul_div_right _ _ (Nat.pow_pos (by decide)), Nat.add_comm]
theorem pair_eq {k : IntKind} {a b c d : Int} (h1 : a = c) (h2 : b = d) : [AV.int k a, AV.int k b] = [AV.int k c, AV.int k d] := by rw [h1, h2]
theorem lt_two {a b : Nat} (ha : a < 4294967296) (hb : b < 4294967296) : a * 4294967296 + b < 2 ^ 64 := by omega
theorem lt_one {a : Nat} (ha : a < 4294967296) : a * 4294967296 < 2 ^ 64 := by omega
theorem lt_mod (a : Nat) : a % 2 ^ 64 < 2 ^ 64 := Nat.mod_lt _ (by decide)
theorem ex_d {u u1 A : Nat} (h : A <= u * 4294967296 + u1) : ∃ d, u * 4294967296 + u1 = A + d := ⟨_, (Nat.add_sub_cancel' h).symm⟩
theorem mod_sub {u u1 A d : Nat} (hd : u * 4294967296 + u1 = A + d) (hd2 : d < 2 ^ 64) : ((u * 4294967296 % 2 ^ 64 + u1) % 2 ^ 64 + (2 ^ 64 - A % 2 ^ 64)) % 2 ^ 64 = d := by omega
theorem two_digits {u u1 u0 d A B C : Nat} (hd : u * 4294967296 + u1 = A + d) (ha : B + C = d * 4294967296 + u0) :
  u * 18446744073709551616 + (u1 * 4294967296 + u0) = C + (A * 4294967296 + B) := by
 have e : (18446744073709551616 : Nat) = 4294967296 * 4294967296 := by decide
 rw [e]
 grind
theorem div_end0 {N s y Y u u1 u0 q q0 d e : Nat} (hY : y * 2 ^ s = Y) (e1 : N * 2 ^ s = u * 18446744073709551616 + (u1 * 4294967296 + u0))
  (hd : u * 4294967296 + u1 = q * Y + d) (ha : q0 * Y + e = d * 4294967296 + u0) (hr : e < Y) :
  q * 4294967296 + q0 = N / y ∧ e / 2 ^ s = N % y := by
 have p : 0 < 2 ^ s := Nat.pow_pos (by decide)
 have e2 : N * 2 ^ s = e + Y * (q * 4294967296 + q0) := by
  have e3 : Y * (q * 4294967296 + q0) = q * Y * 4294967296 + q0 * Y := by
   rw [Nat.mul_add, <- Nat.mul_assoc, Nat.mul_comm Y q, Nat.mul_comm Y q0]
  rw [e1, e3]
  exact two_digits hd ha
 obtain ⟨Q, hQ⟩ : ∃ Q, Q = q * 4294967296 + q0 := ⟨_, rfl⟩
 rw [<- hQ] at e2 ⊢
 clear hQ e1 hd ha
 have hY0 : 0 < Y := by omega
 have k1 : N * 2 ^ s / Y = Q := by
  rw [e2, Nat.add_mul_div_left _ _ hY0, Nat.div_eq_of_lt hr, Nat.zero_add]
 have k2 : N * 2 ^ s % Y = e := by
  rw [e2, Nat.add_mul_mod_self_left, Nat.mod_eq_of_lt hr]
 rw [<- hY, Nat.mul_div_mul_right _ _ p] at k1
 rw [<- hY, Nat.mul_mod_mul_right] at k2
 exact ⟨k1.symm, by rw [<- k2, Nat.mul_div_cancel _ p]⟩
theorem div_end {hi lo s y Y u w u1 u0 q q0 d e : Nat} (hY : y * 2 ^ s = Y) (hu : u = (hi * 2 ^ 64 + lo) * 2 ^ s / 2 ^ 64) (hw : w = lo * 2 ^ s % 2 ^ 64) (h1 : w / 2 ^ 32 = u1) (h0 : w % 2 ^ 32 = u0)
  (hd : u * 4294967296 + u1 = q * Y + d) (ha : q0 * Y + e = d * 4294967296 + u0) (hr : e < Y) :
  q * 4294967296 + q0 = (hi * 2 ^ 64 + lo) / y ∧ e / 2 ^ s = (hi * 2 ^ 64 + lo) % y := by
 refine div_end0 hY ?_ hd ha hr
 have a := Nat.div_add_mod ((hi * 2 ^ 64 + lo) * 2 ^ s) (2 ^ 64)
 have b : (hi * 2 ^ 64 + lo) * 2 ^ s % 2 ^ 64 = w := by
  rw [hw, Nat.add_mul, Nat.mul_right_comm, Nat.add_comm, Nat.add_mul_mod_self_right]
 have c : w = u1 * 4294967296 + u0 := by clear a b hu hw; omega
 rw [<- hu, b, Nat.mul_comm, c] at a
 exact a.symm
theorem rem_lt {A d u0 q0 Y e : Nat} (hA : A = q0 * Y) (he : d * 4294967296 + u0 = A + e) (hb : d * 4294967296 + u0 < (q0 + 1) * Y) : e < Y := by
 rw [Nat.add_mul, Nat.one_mul, <- hA] at hb
 omega
theorem div64_spec (hi lo y : Nat) (hh : hi < y) (hl : lo < 2 ^ 64) (hy : y < 2 ^ 64) : Spec Tryz.prog [] 155 [.int .u64 (hi : Int), .int .u64 (lo : Int), .int .u64 (y : Int)] (.tup [.int .u64 (((hi * 2 ^ 64 + lo) / y : Nat) : Int), .int .u64 (((hi * 2 ^ 64 + lo) % y : Nat) : Int)]) := by
 have slz := lz_spec y hy
 refine spec_fn T_ok mixed_ok 1 Tryz.func155 fn_ok155 (by kernel_rfl) ?_
 refine brE (fun h => ?_) (fun _ => ?_)
 ·have : (y : Int) = 0 := h
  omega
 refine br (fun h => ?_) (fun _ => ?_)
 ·have : (y : Int) <= (hi : Int) := h
  omega
 refine brE (fun h => ?_) (fun h => ?_)
 ·have h0 : (hi : Int) = 0 := h
  obtain rfl : hi = 0 := by omega
  refine And.intro (by kernel_rfl) ?_
  refine And.intro (nz (x := y) rfl (by omega)) ?_
  refine And.intro (nz (x := y) rfl (by omega)) ?_
  refine And.intro (Or.inr rfl) ?_
  refine congrArg AV.tup ?_
  have F1 := n_quo (X := (lo : Int)) (Z := (y : Int)) rfl rfl hl
  have F2 := n_rem (X := (lo : Int)) (Z := (y : Int)) rfl rfl
  rw [show 0 * 2 ^ 64 + lo = lo by omega, <- F1, <- F2]
 ·have hy0 : 0 < y := by omega
  obtain ⟨bl, n1, n2⟩ := norm_ok (y := y) hy0 hy
  have hS : IntKind.u64.wrap (w64 (64 - (bitLen y : Int))) = ((64 - bitLen y : Nat) : Int) := by
   rw [w64_eq (by omega), u64_mod]; omega
  have hs64 : 64 - bitLen y <= 64 := by omega
  generalize hs : 64 - bitLen y = s at hS hs64 n1 n2
  first | refine Exists.intro _ (And.intro (slz) ?_) | refine Hn_by (Exists.intro _ (And.intro (slz) ?_))
  have hY := n_shl (X := (y : Int)) rfl hS hs64 n1
  refine And.intro (nn hS) ?_
  have hV1 := n_shr (S := 32) (s := 32) hY rfl (by decide)
  refine And.intro (by decide) ?_
  have hV0 := n_and32 hY n1
  have hhY : hi * 2 ^ s < y * 2 ^ s := Nat.mul_lt_mul_of_pos_right hh (Nat.pow_pos (by decide))
  generalize hYY : y * 2 ^ s = Y at n1 n2 hY hV1 hV0 hhY
  have hv1 : 2147483648 <= Y / 2 ^ 32 := by omega
  have hv1' : Y / 2 ^ 32 < 4294967296 := by omega
  have hv0 : Y % 2 ^ 32 < 4294967296 := by omega
  have hY2 : Y / 2 ^ 32 * 4294967296 + Y % 2 ^ 32 = Y := by omega
  generalize Y / 2 ^ 32 = v1 at hV1 hv1 hv1' hY2
  generalize Y % 2 ^ 32 = v0 at hV0 hv0 hY2
  have hH := n_shl (X := (hi : Int)) rfl hS hs64 (by omega)
  refine And.intro (nn hS) ?_
  have hS64 := n_sub (X := 64) (x := 64) rfl hS hs64 (by decide)
  have hL := n_shr (X := (lo : Int)) rfl hS64 (by omega)
  refine And.intro (nn hS64) ?_
  have hlt : lo / 2 ^ (64 - s) < 2 ^ s := by
   refine Nat.div_lt_of_lt_mul ?_
   rw [<- Nat.pow_add, show 64 - s + s = 64 by omega]; exact hl
  have hu32 := shift_hi (hi := hi) (lo := lo) hs64
  have hu : hi * 2 ^ s + lo / 2 ^ (64 - s) < Y := by
   rw [hu32]
   refine Nat.div_lt_of_lt_mul ?_
   rw [<- hYY, Nat.mul_comm (2 ^ 64), Nat.mul_right_comm]
   refine Nat.mul_lt_mul_of_pos_right ?_ (Nat.pow_pos (by decide))
   have : (hi + 1) * 2 ^ 64 <= y * 2 ^ 64 := Nat.mul_le_mul_right _ hh
   omega
  have hU := n_or (s := s) hH hL ⟨hi, Nat.mul_comm _ _⟩ hlt (by omega)
  generalize hi * 2 ^ s + lo / 2 ^ (64 - s) = u at hu32 hu hU
  have hT := n_shlm (X := (lo : Int)) rfl hS hs64
  refine And.intro (nn hS) ?_
  have hwlt : lo * 2 ^ s % 2 ^ 64 < 2 ^ 64 := Nat.mod_lt _ (by decide)
  generalize hww : lo * 2 ^ s % 2 ^ 64 = w at hT hwlt
  have hww := hww.symm
  have hT1 := n_shr (S := 32) (s := 32) hT rfl (by decide)
  refine And.intro (by decide) ?_
  have hT0 := n_and32 hT hwlt
  have hu1 : w / 2 ^ 32 < 4294967296 := by omega
  have hu0 : w % 2 ^ 32 < 4294967296 := by omega
  generalize hu1' : w / 2 ^ 32 = u1 at hT1 hu1
  generalize hu0' : w % 2 ^ 32 = u0 at hT0 hu0
  have hQ := n_quo hU hV1 (by omega)
  refine And.intro (nz hV1 (by omega)) ?_
  have hM := n_mul hQ hV1 (Nat.lt_of_le_of_lt (Nat.div_mul_le_self u v1) (by omega))
  have hR := n_sub hU hM (Nat.div_mul_le_self u v1) (by omega)
  have hR2 : u - u / v1 * v1 = u % v1 := by have := Nat.div_add_mod' u v1; omega
  rw [hR2] at hR
  have hu' := hu
  rw [<- hY2] at hu'
  refine aw_loop (fun x : Nat × Nat => stOf [(2, .int .u64 (Y : Int)), (8, .int .u64 (s : Int)), (9, .int .u64 (v1 : Int)), (10, .int .u64 (v0 : Int)), (11, .int .u64 (u : Int)), (13, .int .u64 (u1 : Int)), (14, .int .u64 (u0 : Int)), (15, .int .u64 (x.1 : Int)), (16, .int .u64 (x.2 : Int))] [] 0)
   (fun x => Est u u1 v1 v0 x.1 x.2) (fun x => x.1) (u / v1, u % v1) (est_init hu1 (by omega) (by omega)) (le_by ⟨int_eq hY, int_eq hS, int_eq hV1, int_eq hV0, int_eq hU, int_eq hT1, int_eq hT0, int_eq hQ, int_eq hR, trivial⟩ trivial (Nat.le_refl _)) ?_
  clear hS hY hV1 hV0 hH hS64 hL hU hT hT1 hT0 hQ hM hR
  have hu := hu'
  rintro ⟨q, r⟩ hE P hP
  simp only at hE
  have hE' : Est u u1 v1 v0 q r := hE
  have hq33 : q <= 2 ^ 33 := by
   have a := hE'.e
   have b : q * 2147483648 <= q * v1 := Nat.mul_le_mul_left _ hv1
   omega
  have hrr := hE'.r
  refine gr (fun h1 => ?_) (fun h1 => ?_)
  ·repeat (first | refine gT ?_ | refine gF ?_ | refine brT ?_ | refine brF ?_)
   obtain ⟨g1, g2, g3⟩ := est_next hE' hu hu1 (.inl (by
    have : (q : Int) ≥ 4294967296 := h1
    omega))
   have G1 := n_sub (X := (q : Int)) (Z := 1) (z := 1) rfl rfl g1 (by omega)
   have G2 := n_add (X := (r : Int)) (Z := (v1 : Int)) rfl rfl (by omega)
   refine br (fun h3 => ?_) (fun h3 => ?_)
   ·have h3' : 4294967296 <= r + v1 := by
     have : ((r + v1 : Nat) : Int) ≥ 4294967296 := by rw [<- G2]; exact h3
     omega
    obtain ⟨b1, b2⟩ := est_break (u1 := u1) g2 h3' hu hv0
    clear hP
    have hQe := G1
    have hlo := b2
    have hup := (show u * 4294967296 + u1 < (q - 1 + 1) * (v1 * 4294967296 + v0) by rw [Nat.sub_add_cancel g1]; exact g3)
    have hqlt := b1
    rw [hY2] at hlo hup
    obtain ⟨d, hd⟩ := ex_d hlo
    have hdY : d < Y := rem_lt rfl hd hup
    have J1 := n_mulm (X := (u : Int)) (Z := 4294967296) (z := 4294967296) rfl rfl
    have J2 := n_addm (Z := (u1 : Int)) J1 rfl
    have J3 := n_mulm (Z := (Y : Int)) hQe rfl
    have J4 := n_subm J2 J3 (lt_mod _)
    rw [mod_sub hd (Nat.lt_trans hdY n1)] at J4
    have d64 : d < 2 ^ 64 := Nat.lt_trans hdY n1
    have J6 := n_quo (Z := (v1 : Int)) J4 rfl d64
    refine And.intro (nz (x := v1) rfl (by omega)) ?_
    have J7 := n_mul (Z := (v1 : Int)) J6 rfl (Nat.lt_of_le_of_lt (Nat.div_mul_le_self d v1) d64)
    have J8 := n_sub J4 J7 (Nat.div_mul_le_self d v1) d64
    have J9 : d - d / v1 * v1 = d % v1 := by have := Nat.div_add_mod' d v1; omega
    rw [J9] at J8
    refine aw_loop (fun x : Nat × Nat => stOf [(2, .int .u64 (Y : Int)), (8, .int .u64 (s : Int)), (9, .int .u64 (v1 : Int)), (10, .int .u64 (v0 : Int)), (14, .int .u64 (u0 : Int)), (15, .int .u64 ((((q - 1) : Nat)) : Int)), (17, .int .u64 (d : Int)), (18, .int .u64 (x.1 : Int)), (16, .int .u64 (x.2 : Int))] [] 0)
     (fun x => Est d u0 v1 v0 x.1 x.2) (fun x => x.1) (d / v1, d % v1) (est_init hu0 (by omega) (by omega)) (le_by ⟨rfl, rfl, rfl, rfl, rfl, int_eq hQe, int_eq J4, int_eq J6, int_eq J8, trivial⟩ trivial (Nat.le_refl _)) ?_
    have hQe : (((q - 1) : Nat) : Int) = (((q - 1) : Nat) : Int) := rfl
    rintro ⟨q0, r0⟩ hE P hP
    simp only at hE
    have hE' : Est d u0 v1 v0 q0 r0 := hE
    have hq33 : q0 <= 2 ^ 33 := by
     have a := hE'.e
     have b : q0 * 2147483648 <= q0 * v1 := Nat.mul_le_mul_left _ hv1
     omega
    have hrr := hE'.r
    have hdu : d < v1 * 4294967296 + v0 := by rw [hY2]; exact hdY
    have hup2 : d * 4294967296 + u0 < (q0 + 1) * Y := by rw [<- hY2]; exact hE'.up
    refine gr (fun h1 => ?_) (fun h1 => ?_)
    ·repeat (first | refine gT ?_ | refine gF ?_ | refine brT ?_ | refine brF ?_)
     obtain ⟨g1, g2, g3⟩ := est_next hE' hdu hu0 (.inl (by
      have : (q0 : Int) ≥ 4294967296 := h1
      omega))
     have G1 := n_sub (X := (q0 : Int)) (Z := 1) (z := 1) rfl rfl g1 (by omega)
     have G2 := n_add (X := (r0 : Int)) (Z := (v1 : Int)) rfl rfl (by omega)
     refine br (fun h3 => ?_) (fun h3 => ?_)
     ·have h3' : 4294967296 <= r0 + v1 := by
           have : ((r0 + v1 : Nat) : Int) ≥ 4294967296 := by rw [<- G2]; exact h3
           omega
      obtain ⟨b1, b2⟩ := est_break (u1 := u0) g2 h3' hdu hv0
      clear hP
      have K1 := n_mul (Z := 4294967296) (z := 4294967296) hQe rfl (lt_one hqlt)
      have K2 := n_add K1 G1 (lt_two hqlt b1)
      have K3 := n_mulm (X := (d : Int)) (Z := 4294967296) (z := 4294967296) rfl rfl
      have K4 := n_addm (Z := (u0 : Int)) K3 rfl
      have K5 := n_mulm (Z := (Y : Int)) G1 rfl
      have K6 := n_subm K4 K5 (lt_mod _)
      have hlo : (q0 - 1) * Y <= d * 4294967296 + u0 := (by rw [<- hY2]; exact b2)
      have hup' : d * 4294967296 + u0 < ((q0 - 1) + 1) * Y := (by rw [<- hY2, Nat.sub_add_cancel g1]; exact g3)
      obtain ⟨e, he⟩ := ex_d hlo
      have heY := rem_lt rfl he hup'
      rw [mod_sub he (Nat.lt_trans heY n1)] at K6
      have K8 := n_shr (S := (s : Int)) K6 rfl hs64
      refine And.intro (Int.natCast_nonneg s) ?_
      refine And.intro (Or.inr rfl) ?_
      obtain ⟨Z1, Z2⟩ := div_end hYY hu32 hww hu1' hu0' hd he.symm heY
      rw [<- Z1, <- Z2]
      exact congrArg AV.tup (pair_eq K2 K8)
     ·have h3' : r0 + v1 < 4294967296 := by
           have : ¬ ((r0 + v1 : Nat) : Int) ≥ 4294967296 := by rw [<- G2]; exact h3
           omega
      exact hP (q0 - 1, r0 + v1) _ (le_by ⟨rfl, rfl, rfl, rfl, rfl, rfl, rfl, int_eq G1, int_eq G2, trivial⟩ trivial (Nat.le_refl _)) ⟨g2, h3', by rw [show q0 - 1 + 1 = q0 by omega]; exact g3⟩ (by simp only; omega)
    ·repeat (first | refine gT ?_ | refine gF ?_ | refine brT ?_ | refine brF ?_)
     have h1' : q0 < 4294967296 := by
      have : ¬ (q0 : Int) ≥ 4294967296 := h1
      omega
     have m1 : q0 * v0 < 2 ^ 64 := Nat.lt_of_le_of_lt (Nat.mul_le_mul (Nat.le_of_lt_succ h1' : _ <= 4294967295) (Nat.le_of_lt hv0)) (by decide)
     have F1 := n_mul (X := (q0 : Int)) (Z := (v0 : Int)) rfl rfl m1
     have F2 := n_mul (X := 4294967296) (Z := (r0 : Int)) (x := 4294967296) rfl rfl (by omega)
     have F3 := n_add (Z := (u0 : Int)) F2 rfl (by omega)
     refine br (fun h2 => ?_) (fun h2 => ?_)
     ·obtain ⟨g1, g2, g3⟩ := est_next hE' hdu hu0 (.inr (by
           have : ((q0 * v0 : Nat) : Int) > ((4294967296 * r0 + u0 : Nat) : Int) := by rw [<- F1, <- F3]; exact h2
           omega))
      have G1 := n_sub (X := (q0 : Int)) (Z := 1) (z := 1) rfl rfl g1 (by omega)
      have G2 := n_add (X := (r0 : Int)) (Z := (v1 : Int)) rfl rfl (by omega)
      refine br (fun h3 => ?_) (fun h3 => ?_)
      ·have h3' : 4294967296 <= r0 + v1 := by
        have : ((r0 + v1 : Nat) : Int) ≥ 4294967296 := by rw [<- G2]; exact h3
        omega
       obtain ⟨b1, b2⟩ := est_break (u1 := u0) g2 h3' hdu hv0
       clear hP
       have K1 := n_mul (Z := 4294967296) (z := 4294967296) hQe rfl (lt_one hqlt)
       have K2 := n_add K1 G1 (lt_two hqlt b1)
       have K3 := n_mulm (X := (d : Int)) (Z := 4294967296) (z := 4294967296) rfl rfl
       have K4 := n_addm (Z := (u0 : Int)) K3 rfl
       have K5 := n_mulm (Z := (Y : Int)) G1 rfl
       have K6 := n_subm K4 K5 (lt_mod _)
       have hlo : (q0 - 1) * Y <= d * 4294967296 + u0 := (by rw [<- hY2]; exact b2)
       have hup' : d * 4294967296 + u0 < ((q0 - 1) + 1) * Y := (by rw [<- hY2, Nat.sub_add_cancel g1]; exact g3)
       obtain ⟨e, he⟩ := ex_d hlo
       have heY := rem_lt rfl he hup'
       rw [mod_sub he (Nat.lt_trans heY n1)] at K6
       have K8 := n_shr (S := (s : Int)) K6 rfl hs64
       refine And.intro (Int.natCast_nonneg s) ?_
       refine And.intro (Or.inr rfl) ?_
       obtain ⟨Z1, Z2⟩ := div_end hYY hu32 hww hu1' hu0' hd he.symm heY
       rw [<- Z1, <- Z2]
       exact congrArg AV.tup (pair_eq K2 K8)
      ·have h3' : r0 + v1 < 4294967296 := by
        have : ¬ ((r0 + v1 : Nat) : Int) ≥ 4294967296 := by rw [<- G2]; exact h3
        omega
       exact hP (q0 - 1, r0 + v1) _ (le_by ⟨rfl, rfl, rfl, rfl, rfl, rfl, rfl, int_eq G1, int_eq G2, trivial⟩ trivial (Nat.le_refl _)) ⟨g2, h3', by rw [show q0 - 1 + 1 = q0 by omega]; exact g3⟩ (by simp only; omega)
     ·have h2' : q0 * v0 <= 4294967296 * r0 + u0 := by
           have : ¬ ((q0 * v0 : Nat) : Int) > ((4294967296 * r0 + u0 : Nat) : Int) := by rw [<- F1, <- F3]; exact h2
           omega
      have hP2 : ((q0 : Nat) : Int) = ((q0 : Nat) : Int) := rfl
      clear hP
      have K1 := n_mul (Z := 4294967296) (z := 4294967296) hQe rfl (lt_one hqlt)
      have K2 := n_add K1 hP2 (lt_two hqlt h1')
      have K3 := n_mulm (X := (d : Int)) (Z := 4294967296) (z := 4294967296) rfl rfl
      have K4 := n_addm (Z := (u0 : Int)) K3 rfl
      have K5 := n_mulm (Z := (Y : Int)) hP2 rfl
      have K6 := n_subm K4 K5 (lt_mod _)
      have hlo : q0 * Y <= d * 4294967296 + u0 := (by rw [<- hY2]; exact est_end hE' h2')
      have hup' : d * 4294967296 + u0 < (q0 + 1) * Y := hup2
      obtain ⟨e, he⟩ := ex_d hlo
      have heY := rem_lt rfl he hup'
      rw [mod_sub he (Nat.lt_trans heY n1)] at K6
      have K8 := n_shr (S := (s : Int)) K6 rfl hs64
      refine And.intro (Int.natCast_nonneg s) ?_
      refine And.intro (Or.inr rfl) ?_
      obtain ⟨Z1, Z2⟩ := div_end hYY hu32 hww hu1' hu0' hd he.symm heY
      rw [<- Z1, <- Z2]
      exact congrArg AV.tup (pair_eq K2 K8)
   ·have h3' : r + v1 < 4294967296 := by
     have : ¬ ((r + v1 : Nat) : Int) ≥ 4294967296 := by rw [<- G2]; exact h3
     omega
    exact hP (q - 1, r + v1) _ (le_by ⟨rfl, rfl, rfl, rfl, rfl, rfl, rfl, int_eq G1, int_eq G2, trivial⟩ trivial (Nat.le_refl _)) ⟨g2, h3', by rw [show q - 1 + 1 = q by omega]; exact g3⟩ (by simp only; omega)
  ·repeat (first | refine gT ?_ | refine gF ?_ | refine brT ?_ | refine brF ?_)
   have h1' : q < 4294967296 := by
    have : ¬ (q : Int) ≥ 4294967296 := h1
    omega
   have m1 : q * v0 < 2 ^ 64 := Nat.lt_of_le_of_lt (Nat.mul_le_mul (Nat.le_of_lt_succ h1' : _ <= 4294967295) (Nat.le_of_lt hv0)) (by decide)
   have F1 := n_mul (X := (q : Int)) (Z := (v0 : Int)) rfl rfl m1
   have F2 := n_mul (X := 4294967296) (Z := (r : Int)) (x := 4294967296) rfl rfl (by omega)
   have F3 := n_add (Z := (u1 : Int)) F2 rfl (by omega)
   refine br (fun h2 => ?_) (fun h2 => ?_)
   ·obtain ⟨g1, g2, g3⟩ := est_next hE' hu hu1 (.inr (by
     have : ((q * v0 : Nat) : Int) > ((4294967296 * r + u1 : Nat) : Int) := by rw [<- F1, <- F3]; exact h2
     omega))
    have G1 := n_sub (X := (q : Int)) (Z := 1) (z := 1) rfl rfl g1 (by omega)
    have G2 := n_add (X := (r : Int)) (Z := (v1 : Int)) rfl rfl (by omega)
    refine br (fun h3 => ?_) (fun h3 => ?_)
    ·have h3' : 4294967296 <= r + v1 := by
      have : ((r + v1 : Nat) : Int) ≥ 4294967296 := by rw [<- G2]; exact h3
      omega
     obtain ⟨b1, b2⟩ := est_break (u1 := u1) g2 h3' hu hv0
     clear hP
     have hQe := G1
     have hlo := b2
     have hup := (show u * 4294967296 + u1 < (q - 1 + 1) * (v1 * 4294967296 + v0) by rw [Nat.sub_add_cancel g1]; exact g3)
     have hqlt := b1
     rw [hY2] at hlo hup
     obtain ⟨d, hd⟩ := ex_d hlo
     have hdY : d < Y := rem_lt rfl hd hup
     have J1 := n_mulm (X := (u : Int)) (Z := 4294967296) (z := 4294967296) rfl rfl
     have J2 := n_addm (Z := (u1 : Int)) J1 rfl
     have J3 := n_mulm (Z := (Y : Int)) hQe rfl
     have J4 := n_subm J2 J3 (lt_mod _)
     rw [mod_sub hd (Nat.lt_trans hdY n1)] at J4
     have d64 : d < 2 ^ 64 := Nat.lt_trans hdY n1
     have J6 := n_quo (Z := (v1 : Int)) J4 rfl d64
     refine And.intro (nz (x := v1) rfl (by omega)) ?_
     have J7 := n_mul (Z := (v1 : Int)) J6 rfl (Nat.lt_of_le_of_lt (Nat.div_mul_le_self d v1) d64)
     have J8 := n_sub J4 J7 (Nat.div_mul_le_self d v1) d64
     have J9 : d - d / v1 * v1 = d % v1 := by have := Nat.div_add_mod' d v1; omega
     rw [J9] at J8
     refine aw_loop (fun x : Nat × Nat => stOf [(2, .int .u64 (Y : Int)), (8, .int .u64 (s : Int)), (9, .int .u64 (v1 : Int)), (10, .int .u64 (v0 : Int)), (14, .int .u64 (u0 : Int)), (15, .int .u64 ((((q - 1) : Nat)) : Int)), (17, .int .u64 (d : Int)), (18, .int .u64 (x.1 : Int)), (16, .int .u64 (x.2 : Int))] [] 0)
      (fun x => Est d u0 v1 v0 x.1 x.2) (fun x => x.1) (d / v1, d % v1) (est_init hu0 (by omega) (by omega)) (le_by ⟨rfl, rfl, rfl, rfl, rfl, int_eq hQe, int_eq J4, int_eq J6, int_eq J8, trivial⟩ trivial (Nat.le_refl _)) ?_
     have hQe : (((q - 1) : Nat) : Int) = (((q - 1) : Nat) : Int) := rfl
     rintro ⟨q0, r0⟩ hE P hP
     simp only at hE
     have hE' : Est d u0 v1 v0 q0 r0 := hE
     have hq33 : q0 <= 2 ^ 33 := by
      have a := hE'.e
      have b : q0 * 2147483648 <= q0 * v1 := Nat.mul_le_mul_left _ hv1
      omega
     have hrr := hE'.r
     have hdu : d < v1 * 4294967296 + v0 := by rw [hY2]; exact hdY
     have hup2 : d * 4294967296 + u0 < (q0 + 1) * Y := by rw [<- hY2]; exact hE'.up
     refine gr (fun h1 => ?_) (fun h1 => ?_)
     ·repeat (first | refine gT ?_ | refine gF ?_ | refine brT ?_ | refine brF ?_)
      obtain ⟨g1, g2, g3⟩ := est_next hE' hdu hu0 (.inl (by
           have : (q0 : Int) ≥ 4294967296 := h1
           omega))
      have G1 := n_sub (X := (q0 : Int)) (Z := 1) (z := 1) rfl rfl g1 (by omega)
      have G2 := n_add (X := (r0 : Int)) (Z := (v1 : Int)) rfl rfl (by omega)
      refine br (fun h3 => ?_) (fun h3 => ?_)
      ·have h3' : 4294967296 <= r0 + v1 := by
            have : ((r0 + v1 : Nat) : Int) ≥ 4294967296 := by rw [<- G2]; exact h3
            omega
       obtain ⟨b1, b2⟩ := est_break (u1 := u0) g2 h3' hdu hv0
       clear hP
       have K1 := n_mul (Z := 4294967296) (z := 4294967296) hQe rfl (lt_one hqlt)
       have K2 := n_add K1 G1 (lt_two hqlt b1)
       have K3 := n_mulm (X := (d : Int)) (Z := 4294967296) (z := 4294967296) rfl rfl
       have K4 := n_addm (Z := (u0 : Int)) K3 rfl
       have K5 := n_mulm (Z := (Y : Int)) G1 rfl
       have K6 := n_subm K4 K5 (lt_mod _)
       have hlo : (q0 - 1) * Y <= d * 4294967296 + u0 := (by rw [<- hY2]; exact b2)
       have hup' : d * 4294967296 + u0 < ((q0 - 1) + 1) * Y := (by rw [<- hY2, Nat.sub_add_cancel g1]; exact g3)
       obtain ⟨e, he⟩ := ex_d hlo
       have heY := rem_lt rfl he hup'
       rw [mod_sub he (Nat.lt_trans heY n1)] at K6
       have K8 := n_shr (S := (s : Int)) K6 rfl hs64
       refine And.intro (Int.natCast_nonneg s) ?_
       refine And.intro (Or.inr rfl) ?_
       obtain ⟨Z1, Z2⟩ := div_end hYY hu32 hww hu1' hu0' hd he.symm heY
       rw [<- Z1, <- Z2]
       exact congrArg AV.tup (pair_eq K2 K8)
      ·have h3' : r0 + v1 < 4294967296 := by
            have : ¬ ((r0 + v1 : Nat) : Int) ≥ 4294967296 := by rw [<- G2]; exact h3
            omega
       exact hP (q0 - 1, r0 + v1) _ (le_by ⟨rfl, rfl, rfl, rfl, rfl, rfl, rfl, int_eq G1, int_eq G2, trivial⟩ trivial (Nat.le_refl _)) ⟨g2, h3', by rw [show q0 - 1 + 1 = q0 by omega]; exact g3⟩ (by simp only; omega)
     ·repeat (first | refine gT ?_ | refine gF ?_ | refine brT ?_ | refine brF ?_)
      have h1' : q0 < 4294967296 := by
           have : ¬ (q0 : Int) ≥ 4294967296 := h1
           omega
      have m1 : q0 * v0 < 2 ^ 64 := Nat.lt_of_le_of_lt (Nat.mul_le_mul (Nat.le_of_lt_succ h1' : _ <= 4294967295) (Nat.le_of_lt hv0)) (by decide)
      have F1 := n_mul (X := (q0 : Int)) (Z := (v0 : Int)) rfl rfl m1
      have F2 := n_mul (X := 4294967296) (Z := (r0 : Int)) (x := 4294967296) rfl rfl (by omega)
      have F3 := n_add (Z := (u0 : Int)) F2 rfl (by omega)
      refine br (fun h2 => ?_) (fun h2 => ?_)
      ·obtain ⟨g1, g2, g3⟩ := est_next hE' hdu hu0 (.inr (by
            have : ((q0 * v0 : Nat) : Int) > ((4294967296 * r0 + u0 : Nat) : Int) := by rw [<- F1, <- F3]; exact h2
            omega))
       have G1 := n_sub (X := (q0 : Int)) (Z := 1) (z := 1) rfl rfl g1 (by omega)
       have G2 := n_add (X := (r0 : Int)) (Z := (v1 : Int)) rfl rfl (by omega)
       refine br (fun h3 => ?_) (fun h3 => ?_)
       ·have h3' : 4294967296 <= r0 + v1 := by
         have : ((r0 + v1 : Nat) : Int) ≥ 4294967296 := by rw [<- G2]; exact h3
         omega
        obtain ⟨b1, b2⟩ := est_break (u1 := u0) g2 h3' hdu hv0
        clear hP
        have K1 := n_mul (Z := 4294967296) (z := 4294967296) hQe rfl (lt_one hqlt)
        have K2 := n_add K1 G1 (lt_two hqlt b1)
        have K3 := n_mulm (X := (d : Int)) (Z := 4294967296) (z := 4294967296) rfl rfl
        have K4 := n_addm (Z := (u0 : Int)) K3 rfl
        have K5 := n_mulm (Z := (Y : Int)) G1 rfl
        have K6 := n_subm K4 K5 (lt_mod _)
        have hlo : (q0 - 1) * Y <= d * 4294967296 + u0 := (by rw [<- hY2]; exact b2)
        have hup' : d * 4294967296 + u0 < ((q0 - 1) + 1) * Y := (by rw [<- hY2, Nat.sub_add_cancel g1]; exact g3)
        obtain ⟨e, he⟩ := ex_d hlo
        have heY := rem_lt rfl he hup'
        rw [mod_sub he (Nat.lt_trans heY n1)] at K6
        have K8 := n_shr (S := (s : Int)) K6 rfl hs64
        refine And.intro (Int.natCast_nonneg s) ?_
        refine And.intro (Or.inr rfl) ?_
        obtain ⟨Z1, Z2⟩ := div_end hYY hu32 hww hu1' hu0' hd he.symm heY
        rw [<- Z1, <- Z2]
        exact congrArg AV.tup (pair_eq K2 K8)
       ·have h3' : r0 + v1 < 4294967296 := by
         have : ¬ ((r0 + v1 : Nat) : Int) ≥ 4294967296 := by rw [<- G2]; exact h3
         omega
        exact hP (q0 - 1, r0 + v1) _ (le_by ⟨rfl, rfl, rfl, rfl, rfl, rfl, rfl, int_eq G1, int_eq G2, trivial⟩ trivial (Nat.le_refl _)) ⟨g2, h3', by rw [show q0 - 1 + 1 = q0 by omega]; exact g3⟩ (by simp only; omega)
      ·have h2' : q0 * v0 <= 4294967296 * r0 + u0 := by
            have : ¬ ((q0 * v0 : Nat) : Int) > ((4294967296 * r0 + u0 : Nat) : Int) := by rw [<- F1, <- F3]; exact h2
            omega
       have hP2 : ((q0 : Nat) : Int) = ((q0 : Nat) : Int) := rfl
       clear hP
       have K1 := n_mul (Z := 4294967296) (z := 4294967296) hQe rfl (lt_one hqlt)
       have K2 := n_add K1 hP2 (lt_two hqlt h1')
       have K3 := n_mulm (X := (d : Int)) (Z := 4294967296) (z := 4294967296) rfl rfl
       have K4 := n_addm (Z := (u0 : Int)) K3 rfl
       have K5 := n_mulm (Z := (Y : Int)) hP2 rfl
       have K6 := n_subm K4 K5 (lt_mod _)
       have hlo : q0 * Y <= d * 4294967296 + u0 := (by rw [<- hY2]; exact est_end hE' h2')
       have hup' : d * 4294967296 + u0 < (q0 + 1) * Y := hup2
       obtain ⟨e, he⟩ := ex_d hlo
       have heY := rem_lt rfl he hup'
       rw [mod_sub he (Nat.lt_trans heY n1)] at K6
       have K8 := n_shr (S := (s : Int)) K6 rfl hs64
       refine And.intro (Int.natCast_nonneg s) ?_
       refine And.intro (Or.inr rfl) ?_
       obtain ⟨Z1, Z2⟩ := div_end hYY hu32 hww hu1' hu0' hd he.symm heY
       rw [<- Z1, <- Z2]
       exact congrArg AV.tup (pair_eq K2 K8)
    ·have h3' : r + v1 < 4294967296 := by
      have : ¬ ((r + v1 : Nat) : Int) ≥ 4294967296 := by rw [<- G2]; exact h3
      omega
     exact hP (q - 1, r + v1) _ (le_by ⟨rfl, rfl, rfl, rfl, rfl, rfl, rfl, int_eq G1, int_eq G2, trivial⟩ trivial (Nat.le_refl _)) ⟨g2, h3', by rw [show q - 1 + 1 = q by omega]; exact g3⟩ (by simp only; omega)
   ·have h2' : q * v0 <= 4294967296 * r + u1 := by
     have : ¬ ((q * v0 : Nat) : Int) > ((4294967296 * r + u1 : Nat) : Int) := by rw [<- F1, <- F3]; exact h2
     omega
    have hQ1 : ((q : Nat) : Int) = ((q : Nat) : Int) := rfl
    clear hP
    have hQe := hQ1
    have hlo := (est_end hE' h2')
    have hup := hE'.up
    have hqlt := h1'
    rw [hY2] at hlo hup
    obtain ⟨d, hd⟩ := ex_d hlo
    have hdY : d < Y := rem_lt rfl hd hup
    have J1 := n_mulm (X := (u : Int)) (Z := 4294967296) (z := 4294967296) rfl rfl
    have J2 := n_addm (Z := (u1 : Int)) J1 rfl
    have J3 := n_mulm (Z := (Y : Int)) hQe rfl
    have J4 := n_subm J2 J3 (lt_mod _)
    rw [mod_sub hd (Nat.lt_trans hdY n1)] at J4
    have d64 : d < 2 ^ 64 := Nat.lt_trans hdY n1
    have J6 := n_quo (Z := (v1 : Int)) J4 rfl d64
    refine And.intro (nz (x := v1) rfl (by omega)) ?_
    have J7 := n_mul (Z := (v1 : Int)) J6 rfl (Nat.lt_of_le_of_lt (Nat.div_mul_le_self d v1) d64)
    have J8 := n_sub J4 J7 (Nat.div_mul_le_self d v1) d64
    have J9 : d - d / v1 * v1 = d % v1 := by have := Nat.div_add_mod' d v1; omega
    rw [J9] at J8
    refine aw_loop (fun x : Nat × Nat => stOf [(2, .int .u64 (Y : Int)), (8, .int .u64 (s : Int)), (9, .int .u64 (v1 : Int)), (10, .int .u64 (v0 : Int)), (14, .int .u64 (u0 : Int)), (15, .int .u64 (((q : Nat)) : Int)), (17, .int .u64 (d : Int)), (18, .int .u64 (x.1 : Int)), (16, .int .u64 (x.2 : Int))] [] 0)
     (fun x => Est d u0 v1 v0 x.1 x.2) (fun x => x.1) (d / v1, d % v1) (est_init hu0 (by omega) (by omega)) (le_by ⟨rfl, rfl, rfl, rfl, rfl, int_eq hQe, int_eq J4, int_eq J6, int_eq J8, trivial⟩ trivial (Nat.le_refl _)) ?_
    have hQe : ((q : Nat) : Int) = ((q : Nat) : Int) := rfl
    rintro ⟨q0, r0⟩ hE P hP
    simp only at hE
    have hE' : Est d u0 v1 v0 q0 r0 := hE
    have hq33 : q0 <= 2 ^ 33 := by
     have a := hE'.e
     have b : q0 * 2147483648 <= q0 * v1 := Nat.mul_le_mul_left _ hv1
     omega
    have hrr := hE'.r
    have hdu : d < v1 * 4294967296 + v0 := by rw [hY2]; exact hdY
    have hup2 : d * 4294967296 + u0 < (q0 + 1) * Y := by rw [<- hY2]; exact hE'.up
    refine gr (fun h1 => ?_) (fun h1 => ?_)
    ·repeat (first | refine gT ?_ | refine gF ?_ | refine brT ?_ | refine brF ?_)
     obtain ⟨g1, g2, g3⟩ := est_next hE' hdu hu0 (.inl (by
      have : (q0 : Int) ≥ 4294967296 := h1
      omega))
     have G1 := n_sub (X := (q0 : Int)) (Z := 1) (z := 1) rfl rfl g1 (by omega)
     have G2 := n_add (X := (r0 : Int)) (Z := (v1 : Int)) rfl rfl (by omega)
     refine br (fun h3 => ?_) (fun h3 => ?_)
     ·have h3' : 4294967296 <= r0 + v1 := by
           have : ((r0 + v1 : Nat) : Int) ≥ 4294967296 := by rw [<- G2]; exact h3
           omega
      obtain ⟨b1, b2⟩ := est_break (u1 := u0) g2 h3' hdu hv0
      clear hP
      have K1 := n_mul (Z := 4294967296) (z := 4294967296) hQe rfl (lt_one hqlt)
      have K2 := n_add K1 G1 (lt_two hqlt b1)
      have K3 := n_mulm (X := (d : Int)) (Z := 4294967296) (z := 4294967296) rfl rfl
      have K4 := n_addm (Z := (u0 : Int)) K3 rfl
      have K5 := n_mulm (Z := (Y : Int)) G1 rfl
      have K6 := n_subm K4 K5 (lt_mod _)
      have hlo : (q0 - 1) * Y <= d * 4294967296 + u0 := (by rw [<- hY2]; exact b2)
      have hup' : d * 4294967296 + u0 < ((q0 - 1) + 1) * Y := (by rw [<- hY2, Nat.sub_add_cancel g1]; exact g3)
      obtain ⟨e, he⟩ := ex_d hlo
      have heY := rem_lt rfl he hup'
      rw [mod_sub he (Nat.lt_trans heY n1)] at K6
      have K8 := n_shr (S := (s : Int)) K6 rfl hs64
      refine And.intro (Int.natCast_nonneg s) ?_
      refine And.intro (Or.inr rfl) ?_
      obtain ⟨Z1, Z2⟩ := div_end hYY hu32 hww hu1' hu0' hd he.symm heY
      rw [<- Z1, <- Z2]
      exact congrArg AV.tup (pair_eq K2 K8)
     ·have h3' : r0 + v1 < 4294967296 := by
           have : ¬ ((r0 + v1 : Nat) : Int) ≥ 4294967296 := by rw [<- G2]; exact h3
           omega
      exact hP (q0 - 1, r0 + v1) _ (le_by ⟨rfl, rfl, rfl, rfl, rfl, rfl, rfl, int_eq G1, int_eq G2, trivial⟩ trivial (Nat.le_refl _)) ⟨g2, h3', by rw [show q0 - 1 + 1 = q0 by omega]; exact g3⟩ (by simp only; omega)
    ·repeat (first | refine gT ?_ | refine gF ?_ | refine brT ?_ | refine brF ?_)
     have h1' : q0 < 4294967296 := by
      have : ¬ (q0 : Int) ≥ 4294967296 := h1
      omega
     have m1 : q0 * v0 < 2 ^ 64 := Nat.lt_of_le_of_lt (Nat.mul_le_mul (Nat.le_of_lt_succ h1' : _ <= 4294967295) (Nat.le_of_lt hv0)) (by decide)
     have F1 := n_mul (X := (q0 : Int)) (Z := (v0 : Int)) rfl rfl m1
     have F2 := n_mul (X := 4294967296) (Z := (r0 : Int)) (x := 4294967296) rfl rfl (by omega)
     have F3 := n_add (Z := (u0 : Int)) F2 rfl (by omega)
     refine br (fun h2 => ?_) (fun h2 => ?_)
     ·obtain ⟨g1, g2, g3⟩ := est_next hE' hdu hu0 (.inr (by
           have : ((q0 * v0 : Nat) : Int) > ((4294967296 * r0 + u0 : Nat) : Int) := by rw [<- F1, <- F3]; exact h2
           omega))
      have G1 := n_sub (X := (q0 : Int)) (Z := 1) (z := 1) rfl rfl g1 (by omega)
      have G2 := n_add (X := (r0 : Int)) (Z := (v1 : Int)) rfl rfl (by omega)
      refine br (fun h3 => ?_) (fun h3 => ?_)
      ·have h3' : 4294967296 <= r0 + v1 := by
        have : ((r0 + v1 : Nat) : Int) ≥ 4294967296 := by rw [<- G2]; exact h3
        omega
       obtain ⟨b1, b2⟩ := est_break (u1 := u0) g2 h3' hdu hv0
       clear hP
       have K1 := n_mul (Z := 4294967296) (z := 4294967296) hQe rfl (lt_one hqlt)
       have K2 := n_add K1 G1 (lt_two hqlt b1)
       have K3 := n_mulm (X := (d : Int)) (Z := 4294967296) (z := 4294967296) rfl rfl
       have K4 := n_addm (Z := (u0 : Int)) K3 rfl
       have K5 := n_mulm (Z := (Y : Int)) G1 rfl
       have K6 := n_subm K4 K5 (lt_mod _)
       have hlo : (q0 - 1) * Y <= d * 4294967296 + u0 := (by rw [<- hY2]; exact b2)
       have hup' : d * 4294967296 + u0 < ((q0 - 1) + 1) * Y := (by rw [<- hY2, Nat.sub_add_cancel g1]; exact g3)
       obtain ⟨e, he⟩ := ex_d hlo
       have heY := rem_lt rfl he hup'
       rw [mod_sub he (Nat.lt_trans heY n1)] at K6
       have K8 := n_shr (S := (s : Int)) K6 rfl hs64
       refine And.intro (Int.natCast_nonneg s) ?_
       refine And.intro (Or.inr rfl) ?_
       obtain ⟨Z1, Z2⟩ := div_end hYY hu32 hww hu1' hu0' hd he.symm heY
       rw [<- Z1, <- Z2]
       exact congrArg AV.tup (pair_eq K2 K8)
      ·have h3' : r0 + v1 < 4294967296 := by
        have : ¬ ((r0 + v1 : Nat) : Int) ≥ 4294967296 := by rw [<- G2]; exact h3
        omega
       exact hP (q0 - 1, r0 + v1) _ (le_by ⟨rfl, rfl, rfl, rfl, rfl, rfl, rfl, int_eq G1, int_eq G2, trivial⟩ trivial (Nat.le_refl _)) ⟨g2, h3', by rw [show q0 - 1 + 1 = q0 by omega]; exact g3⟩ (by simp only; omega)
     ·have h2' : q0 * v0 <= 4294967296 * r0 + u0 := by
           have : ¬ ((q0 * v0 : Nat) : Int) > ((4294967296 * r0 + u0 : Nat) : Int) := by rw [<- F1, <- F3]; exact h2
           omega
      have hP2 : ((q0 : Nat) : Int) = ((q0 : Nat) : Int) := rfl
      clear hP
      have K1 := n_mul (Z := 4294967296) (z := 4294967296) hQe rfl (lt_one hqlt)
      have K2 := n_add K1 hP2 (lt_two hqlt h1')
      have K3 := n_mulm (X := (d : Int)) (Z := 4294967296) (z := 4294967296) rfl rfl
      have K4 := n_addm (Z := (u0 : Int)) K3 rfl
      have K5 := n_mulm (Z := (Y : Int)) hP2 rfl
      have K6 := n_subm K4 K5 (lt_mod _)
      have hlo : q0 * Y <= d * 4294967296 + u0 := (by rw [<- hY2]; exact est_end hE' h2')
      have hup' : d * 4294967296 + u0 < (q0 + 1) * Y := hup2
      obtain ⟨e, he⟩ := ex_d hlo
      have heY := rem_lt rfl he hup'
      rw [mod_sub he (Nat.lt_trans heY n1)] at K6
      have K8 := n_shr (S := (s : Int)) K6 rfl hs64
      refine And.intro (Int.natCast_nonneg s) ?_
      refine And.intro (Or.inr rfl) ?_
      obtain ⟨Z1, Z2⟩ := div_end hYY hu32 hww hu1' hu0' hd he.symm heY
      rw [<- Z1, <- Z2]
      exact congrArg AV.tup (pair_eq K2 K8)
end Ab
