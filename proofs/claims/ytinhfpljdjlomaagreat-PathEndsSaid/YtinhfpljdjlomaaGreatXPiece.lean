import Derived.Test.YtinhfpljdjlomaaGreatXExactU
import Derived.Test.YtinhfpljdjlomaaGreatXPath2
open Go Go.Proofs
namespace Ab
set_option maxRecDepth 100000
set_option maxHeartbeats 1000000
theorem piece_0 {froms tos : List (List AV)} {i : Nat} {re im : Int} {fn fd tn td en ed gn gd : Bool} {fl fm tl tm el em gl gm : List Int}
  (ht : tos[i]? = some [.bool tn,lim tl,.bool td,lim tm]) (hf : froms[i]? = some [.bool fn,lim fl,.bool fd,lim fm])
  (s1 : Spec Tryz.prog [] 73 [.int .i64 re,.int .i64 4096] (.tup [mkQ en el ed em,.int .i64 0])) (s2 : Spec Tryz.prog [] 73 [.int .i64 im,.int .i64 4096] (.tup [mkQ gn gl gd gm,.int .i64 0])) (s3 : Spec Tryz.prog [] 74 [mkQ tn tl td tm,mkQ fn fl fd fm] badQ)
  {tm : Nat -> AV} {hp : Nat -> Option Blk} {K : AV -> St -> Prop} (n : Nat) (h1 : hp 1 = some (.box [.sl froms])) (h2 : hp 2 = some (.box [.sl tos]))
  (hcl : ∀ k,k < 4 -> blB 4 (hp k) = true) (hK : K (.tup [bx 0 0 0 0 false,.int .i64 2]) ⟨tm,cutH 4 hp,4⟩) : Hn Tryz.prog T [] (n + 1) (.fn 72) [.int .i64 (i : Int),.agg [.int .i64 re,.int .i64 im],.bp 2 0,.bp 1 0] ⟨tm,hp,4⟩ K:=by
 obtain ⟨h0,rfl⟩:=put_known h1 h2
 have hi0 : (0 : Int) <= (i : Int):=by omega
 refine Hn_cut Tryz.f72 Tryz.func72 fn_ok72 (by kernel_rfl) ?_
 first | refine Exists.intro _ (And.intro (s1) ?_) | refine Hn_by (Exists.intro _ (And.intro (s1) ?_))
 first | refine Exists.intro _ (And.intro (s2) ?_) | refine Hn_by (Exists.intro _ (And.intro (s2) ?_))
 refine And.intro (by kernel_rfl) ?_
 refine And.intro (by kernel_rfl) ?_
 refine And.intro hi0 (Exists.intro _ (And.intro (at_nat ht) ?_))
 refine And.intro (by kernel_rfl) ?_
 refine And.intro hi0 (Exists.intro _ (And.intro (at_nat hf) ?_))
 first | refine Exists.intro _ (And.intro (s3) ?_) | refine Hn_by (Exists.intro _ (And.intro (s3) ?_))
 repeat (first | refine gT ?_ | refine gF ?_ | refine brT ?_ | refine brF ?_)
 refine And.intro (Or.inr rfl) (And.intro rfl (cut_K hcl hK ?_))
 repeat (first | exact Old.refl | refine Old.new rfl ?_ | refine Old.same rfl ?_)
theorem piece_1 {froms tos : List (List AV)} {i : Nat} {re im : Int} {fn fd tn td en ed gn gd jn jd : Bool} {fl fm tl tm el em gl gm jl jm : List Int}
  (ht : tos[i]? = some [.bool tn,lim tl,.bool td,lim tm]) (hf : froms[i]? = some [.bool fn,lim fl,.bool fd,lim fm])
  (s1 : Spec Tryz.prog [] 73 [.int .i64 re,.int .i64 4096] (.tup [mkQ en el ed em,.int .i64 0])) (s2 : Spec Tryz.prog [] 73 [.int .i64 im,.int .i64 4096] (.tup [mkQ gn gl gd gm,.int .i64 0])) (s3 : Spec Tryz.prog [] 74 [mkQ tn tl td tm,mkQ fn fl fd fm] (.tup [mkQ jn jl jd jm,.int .i64 0])) (s4 : Spec Tryz.prog [] 65 [mkQ jn jl jd jm,mkQ en el ed em] badQ)
  {tm : Nat -> AV} {hp : Nat -> Option Blk} {K : AV -> St -> Prop} (n : Nat) (h1 : hp 1 = some (.box [.sl froms])) (h2 : hp 2 = some (.box [.sl tos]))
  (hcl : ∀ k,k < 4 -> blB 4 (hp k) = true) (hK : K (.tup [bx 0 0 0 0 false,.int .i64 2]) ⟨tm,cutH 4 hp,4⟩) : Hn Tryz.prog T [] (n + 1) (.fn 72) [.int .i64 (i : Int),.agg [.int .i64 re,.int .i64 im],.bp 2 0,.bp 1 0] ⟨tm,hp,4⟩ K:=by
 obtain ⟨h0,rfl⟩:=put_known h1 h2
 have hi0 : (0 : Int) <= (i : Int):=by omega
 refine Hn_cut Tryz.f72 Tryz.func72 fn_ok72 (by kernel_rfl) ?_
 first | refine Exists.intro _ (And.intro (s1) ?_) | refine Hn_by (Exists.intro _ (And.intro (s1) ?_))
 first | refine Exists.intro _ (And.intro (s2) ?_) | refine Hn_by (Exists.intro _ (And.intro (s2) ?_))
 refine And.intro (by kernel_rfl) ?_
 refine And.intro (by kernel_rfl) ?_
 refine And.intro hi0 (Exists.intro _ (And.intro (at_nat ht) ?_))
 refine And.intro (by kernel_rfl) ?_
 refine And.intro hi0 (Exists.intro _ (And.intro (at_nat hf) ?_))
 first | refine Exists.intro _ (And.intro (s3) ?_) | refine Hn_by (Exists.intro _ (And.intro (s3) ?_))
 repeat (first | refine gT ?_ | refine gF ?_ | refine brT ?_ | refine brF ?_)
 first | refine Exists.intro _ (And.intro (s4) ?_) | refine Hn_by (Exists.intro _ (And.intro (s4) ?_))
 repeat (first | refine gT ?_ | refine gF ?_ | refine brT ?_ | refine brF ?_)
 refine And.intro (Or.inr rfl) (And.intro rfl (cut_K hcl hK ?_))
 repeat (first | exact Old.refl | refine Old.new rfl ?_ | refine Old.same rfl ?_)
theorem piece_2 {froms tos : List (List AV)} {i : Nat} {re im : Int} {fn fd tn td en ed gn gd jn jd ln ld : Bool} {fl fm tl tm el em gl gm jl jm ll lm : List Int}
  (ht : tos[i]? = some [.bool tn,lim tl,.bool td,lim tm]) (hf : froms[i]? = some [.bool fn,lim fl,.bool fd,lim fm])
  (s1 : Spec Tryz.prog [] 73 [.int .i64 re,.int .i64 4096] (.tup [mkQ en el ed em,.int .i64 0])) (s2 : Spec Tryz.prog [] 73 [.int .i64 im,.int .i64 4096] (.tup [mkQ gn gl gd gm,.int .i64 0])) (s3 : Spec Tryz.prog [] 74 [mkQ tn tl td tm,mkQ fn fl fd fm] (.tup [mkQ jn jl jd jm,.int .i64 0])) (s4 : Spec Tryz.prog [] 65 [mkQ jn jl jd jm,mkQ en el ed em] (.tup [mkQ ln ll ld lm,.int .i64 0])) (s5 : Spec Tryz.prog [] 75 [mkQ fn fl fd fm,mkQ ln ll ld lm] badQ)
  {tm : Nat -> AV} {hp : Nat -> Option Blk} {K : AV -> St -> Prop} (n : Nat) (h1 : hp 1 = some (.box [.sl froms])) (h2 : hp 2 = some (.box [.sl tos]))
  (hcl : ∀ k,k < 4 -> blB 4 (hp k) = true) (hK : K (.tup [bx 0 0 0 0 false,.int .i64 2]) ⟨tm,cutH 4 hp,4⟩) : Hn Tryz.prog T [] (n + 1) (.fn 72) [.int .i64 (i : Int),.agg [.int .i64 re,.int .i64 im],.bp 2 0,.bp 1 0] ⟨tm,hp,4⟩ K:=by
 obtain ⟨h0,rfl⟩:=put_known h1 h2
 have hi0 : (0 : Int) <= (i : Int):=by omega
 refine Hn_cut Tryz.f72 Tryz.func72 fn_ok72 (by kernel_rfl) ?_
 first | refine Exists.intro _ (And.intro (s1) ?_) | refine Hn_by (Exists.intro _ (And.intro (s1) ?_))
 first | refine Exists.intro _ (And.intro (s2) ?_) | refine Hn_by (Exists.intro _ (And.intro (s2) ?_))
 refine And.intro (by kernel_rfl) ?_
 refine And.intro (by kernel_rfl) ?_
 refine And.intro hi0 (Exists.intro _ (And.intro (at_nat ht) ?_))
 refine And.intro (by kernel_rfl) ?_
 refine And.intro hi0 (Exists.intro _ (And.intro (at_nat hf) ?_))
 first | refine Exists.intro _ (And.intro (s3) ?_) | refine Hn_by (Exists.intro _ (And.intro (s3) ?_))
 repeat (first | refine gT ?_ | refine gF ?_ | refine brT ?_ | refine brF ?_)
 first | refine Exists.intro _ (And.intro (s4) ?_) | refine Hn_by (Exists.intro _ (And.intro (s4) ?_))
 repeat (first | refine gT ?_ | refine gF ?_ | refine brT ?_ | refine brF ?_)
 refine And.intro (by kernel_rfl) ?_
 refine And.intro (by kernel_rfl) ?_
 refine And.intro hi0 (Exists.intro _ (And.intro (at_nat hf) ?_))
 refine And.intro (by kernel_rfl) ?_
 first | refine Exists.intro _ (And.intro (s5) ?_) | refine Hn_by (Exists.intro _ (And.intro (s5) ?_))
 repeat (first | refine gT ?_ | refine gF ?_ | refine brT ?_ | refine brF ?_)
 refine And.intro (Or.inr rfl) (And.intro rfl (cut_K hcl hK ?_))
 repeat (first | exact Old.refl | refine Old.new rfl ?_ | refine Old.same rfl ?_)
theorem piece_3 {froms tos : List (List AV)} {i : Nat} {re im : Int} {fn fd tn td en ed gn gd jn jd ln ld pn pd : Bool} {fl fm tl tm el em gl gm jl jm ll lm pl pm : List Int}
  (ht : tos[i]? = some [.bool tn,lim tl,.bool td,lim tm]) (hf : froms[i]? = some [.bool fn,lim fl,.bool fd,lim fm])
  (s1 : Spec Tryz.prog [] 73 [.int .i64 re,.int .i64 4096] (.tup [mkQ en el ed em,.int .i64 0])) (s2 : Spec Tryz.prog [] 73 [.int .i64 im,.int .i64 4096] (.tup [mkQ gn gl gd gm,.int .i64 0])) (s3 : Spec Tryz.prog [] 74 [mkQ tn tl td tm,mkQ fn fl fd fm] (.tup [mkQ jn jl jd jm,.int .i64 0])) (s4 : Spec Tryz.prog [] 65 [mkQ jn jl jd jm,mkQ en el ed em] (.tup [mkQ ln ll ld lm,.int .i64 0])) (s5 : Spec Tryz.prog [] 75 [mkQ fn fl fd fm,mkQ ln ll ld lm] (.tup [mkQ pn pl pd pm,.int .i64 0])) (s6 : Spec Tryz.prog [] 65 [mkQ jn jl jd jm,mkQ gn gl gd gm] badQ)
  {tm : Nat -> AV} {hp : Nat -> Option Blk} {K : AV -> St -> Prop} (n : Nat) (h1 : hp 1 = some (.box [.sl froms])) (h2 : hp 2 = some (.box [.sl tos]))
  (hcl : ∀ k,k < 4 -> blB 4 (hp k) = true) (hK : K (.tup [bx 0 0 0 0 false,.int .i64 2]) ⟨tm,cutH 4 hp,4⟩) : Hn Tryz.prog T [] (n + 1) (.fn 72) [.int .i64 (i : Int),.agg [.int .i64 re,.int .i64 im],.bp 2 0,.bp 1 0] ⟨tm,hp,4⟩ K:=by
 obtain ⟨h0,rfl⟩:=put_known h1 h2
 have hi0 : (0 : Int) <= (i : Int):=by omega
 refine Hn_cut Tryz.f72 Tryz.func72 fn_ok72 (by kernel_rfl) ?_
 first | refine Exists.intro _ (And.intro (s1) ?_) | refine Hn_by (Exists.intro _ (And.intro (s1) ?_))
 first | refine Exists.intro _ (And.intro (s2) ?_) | refine Hn_by (Exists.intro _ (And.intro (s2) ?_))
 refine And.intro (by kernel_rfl) ?_
 refine And.intro (by kernel_rfl) ?_
 refine And.intro hi0 (Exists.intro _ (And.intro (at_nat ht) ?_))
 refine And.intro (by kernel_rfl) ?_
 refine And.intro hi0 (Exists.intro _ (And.intro (at_nat hf) ?_))
 first | refine Exists.intro _ (And.intro (s3) ?_) | refine Hn_by (Exists.intro _ (And.intro (s3) ?_))
 repeat (first | refine gT ?_ | refine gF ?_ | refine brT ?_ | refine brF ?_)
 first | refine Exists.intro _ (And.intro (s4) ?_) | refine Hn_by (Exists.intro _ (And.intro (s4) ?_))
 repeat (first | refine gT ?_ | refine gF ?_ | refine brT ?_ | refine brF ?_)
 refine And.intro (by kernel_rfl) ?_
 refine And.intro (by kernel_rfl) ?_
 refine And.intro hi0 (Exists.intro _ (And.intro (at_nat hf) ?_))
 refine And.intro (by kernel_rfl) ?_
 first | refine Exists.intro _ (And.intro (s5) ?_) | refine Hn_by (Exists.intro _ (And.intro (s5) ?_))
 repeat (first | refine gT ?_ | refine gF ?_ | refine brT ?_ | refine brF ?_)
 first | refine Exists.intro _ (And.intro (s6) ?_) | refine Hn_by (Exists.intro _ (And.intro (s6) ?_))
 repeat (first | refine gT ?_ | refine gF ?_ | refine brT ?_ | refine brF ?_)
 refine And.intro (Or.inr rfl) (And.intro rfl (cut_K hcl hK ?_))
 repeat (first | exact Old.refl | refine Old.new rfl ?_ | refine Old.same rfl ?_)
theorem piece_4 {froms tos : List (List AV)} {i : Nat} {re im : Int} {fn fd tn td en ed gn gd jn jd ln ld pn pd rn rd : Bool} {fl fm tl tm el em gl gm jl jm ll lm pl pm rl rm : List Int}
  (ht : tos[i]? = some [.bool tn,lim tl,.bool td,lim tm]) (hf : froms[i]? = some [.bool fn,lim fl,.bool fd,lim fm])
  (s1 : Spec Tryz.prog [] 73 [.int .i64 re,.int .i64 4096] (.tup [mkQ en el ed em,.int .i64 0])) (s2 : Spec Tryz.prog [] 73 [.int .i64 im,.int .i64 4096] (.tup [mkQ gn gl gd gm,.int .i64 0])) (s3 : Spec Tryz.prog [] 74 [mkQ tn tl td tm,mkQ fn fl fd fm] (.tup [mkQ jn jl jd jm,.int .i64 0])) (s4 : Spec Tryz.prog [] 65 [mkQ jn jl jd jm,mkQ en el ed em] (.tup [mkQ ln ll ld lm,.int .i64 0])) (s5 : Spec Tryz.prog [] 75 [mkQ fn fl fd fm,mkQ ln ll ld lm] (.tup [mkQ pn pl pd pm,.int .i64 0])) (s6 : Spec Tryz.prog [] 65 [mkQ jn jl jd jm,mkQ gn gl gd gm] (.tup [mkQ rn rl rd rm,.int .i64 0])) (s7 : Spec Tryz.prog [] 37 [mkQ pn pl pd pm] (.tup [bx 0 0 0 0 false,.int .i64 2]))
  {tm : Nat -> AV} {hp : Nat -> Option Blk} {K : AV -> St -> Prop} (n : Nat) (h1 : hp 1 = some (.box [.sl froms])) (h2 : hp 2 = some (.box [.sl tos]))
  (hcl : ∀ k,k < 4 -> blB 4 (hp k) = true) (hK : K (.tup [bx 0 0 0 0 false,.int .i64 2]) ⟨tm,cutH 4 hp,4⟩) : Hn Tryz.prog T [] (n + 1) (.fn 72) [.int .i64 (i : Int),.agg [.int .i64 re,.int .i64 im],.bp 2 0,.bp 1 0] ⟨tm,hp,4⟩ K:=by
 obtain ⟨h0,rfl⟩:=put_known h1 h2
 have hi0 : (0 : Int) <= (i : Int):=by omega
 refine Hn_cut Tryz.f72 Tryz.func72 fn_ok72 (by kernel_rfl) ?_
 first | refine Exists.intro _ (And.intro (s1) ?_) | refine Hn_by (Exists.intro _ (And.intro (s1) ?_))
 first | refine Exists.intro _ (And.intro (s2) ?_) | refine Hn_by (Exists.intro _ (And.intro (s2) ?_))
 refine And.intro (by kernel_rfl) ?_
 refine And.intro (by kernel_rfl) ?_
 refine And.intro hi0 (Exists.intro _ (And.intro (at_nat ht) ?_))
 refine And.intro (by kernel_rfl) ?_
 refine And.intro hi0 (Exists.intro _ (And.intro (at_nat hf) ?_))
 first | refine Exists.intro _ (And.intro (s3) ?_) | refine Hn_by (Exists.intro _ (And.intro (s3) ?_))
 repeat (first | refine gT ?_ | refine gF ?_ | refine brT ?_ | refine brF ?_)
 first | refine Exists.intro _ (And.intro (s4) ?_) | refine Hn_by (Exists.intro _ (And.intro (s4) ?_))
 repeat (first | refine gT ?_ | refine gF ?_ | refine brT ?_ | refine brF ?_)
 refine And.intro (by kernel_rfl) ?_
 refine And.intro (by kernel_rfl) ?_
 refine And.intro hi0 (Exists.intro _ (And.intro (at_nat hf) ?_))
 refine And.intro (by kernel_rfl) ?_
 first | refine Exists.intro _ (And.intro (s5) ?_) | refine Hn_by (Exists.intro _ (And.intro (s5) ?_))
 repeat (first | refine gT ?_ | refine gF ?_ | refine brT ?_ | refine brF ?_)
 first | refine Exists.intro _ (And.intro (s6) ?_) | refine Hn_by (Exists.intro _ (And.intro (s6) ?_))
 repeat (first | refine gT ?_ | refine gF ?_ | refine brT ?_ | refine brF ?_)
 first | refine Exists.intro _ (And.intro (s7) ?_) | refine Hn_by (Exists.intro _ (And.intro (s7) ?_))
 repeat (first | refine gT ?_ | refine gF ?_ | refine brT ?_ | refine brF ?_)
 refine And.intro (Or.inr rfl) (And.intro rfl (cut_K hcl hK ?_))
 repeat (first | exact Old.refl | refine Old.new rfl ?_ | refine Old.same rfl ?_)
theorem piece_5 {froms tos : List (List AV)} {i : Nat} {re im a1 a2 : Int} {fn fd tn td en ed gn gd jn jd ln ld pn pd rn rd : Bool} {fl fm tl tm el em gl gm jl jm ll lm pl pm rl rm : List Int}
  (ht : tos[i]? = some [.bool tn,lim tl,.bool td,lim tm]) (hf : froms[i]? = some [.bool fn,lim fl,.bool fd,lim fm])
  (s1 : Spec Tryz.prog [] 73 [.int .i64 re,.int .i64 4096] (.tup [mkQ en el ed em,.int .i64 0])) (s2 : Spec Tryz.prog [] 73 [.int .i64 im,.int .i64 4096] (.tup [mkQ gn gl gd gm,.int .i64 0])) (s3 : Spec Tryz.prog [] 74 [mkQ tn tl td tm,mkQ fn fl fd fm] (.tup [mkQ jn jl jd jm,.int .i64 0])) (s4 : Spec Tryz.prog [] 65 [mkQ jn jl jd jm,mkQ en el ed em] (.tup [mkQ ln ll ld lm,.int .i64 0])) (s5 : Spec Tryz.prog [] 75 [mkQ fn fl fd fm,mkQ ln ll ld lm] (.tup [mkQ pn pl pd pm,.int .i64 0])) (s6 : Spec Tryz.prog [] 65 [mkQ jn jl jd jm,mkQ gn gl gd gm] (.tup [mkQ rn rl rd rm,.int .i64 0])) (s7 : Spec Tryz.prog [] 37 [mkQ pn pl pd pm] (.tup [bx a1 a2 0 0 false,.int .i64 0])) (s8 : Spec Tryz.prog [] 37 [mkQ rn rl rd rm] (.tup [bx 0 0 0 0 false,.int .i64 2]))
  {tm : Nat -> AV} {hp : Nat -> Option Blk} {K : AV -> St -> Prop} (n : Nat) (h1 : hp 1 = some (.box [.sl froms])) (h2 : hp 2 = some (.box [.sl tos]))
  (hcl : ∀ k,k < 4 -> blB 4 (hp k) = true) (hK : K (.tup [bx 0 0 0 0 false,.int .i64 2]) ⟨tm,cutH 4 hp,4⟩) : Hn Tryz.prog T [] (n + 1) (.fn 72) [.int .i64 (i : Int),.agg [.int .i64 re,.int .i64 im],.bp 2 0,.bp 1 0] ⟨tm,hp,4⟩ K:=by
 obtain ⟨h0,rfl⟩:=put_known h1 h2
 have hi0 : (0 : Int) <= (i : Int):=by omega
 refine Hn_cut Tryz.f72 Tryz.func72 fn_ok72 (by kernel_rfl) ?_
 first | refine Exists.intro _ (And.intro (s1) ?_) | refine Hn_by (Exists.intro _ (And.intro (s1) ?_))
 first | refine Exists.intro _ (And.intro (s2) ?_) | refine Hn_by (Exists.intro _ (And.intro (s2) ?_))
 refine And.intro (by kernel_rfl) ?_
 refine And.intro (by kernel_rfl) ?_
 refine And.intro hi0 (Exists.intro _ (And.intro (at_nat ht) ?_))
 refine And.intro (by kernel_rfl) ?_
 refine And.intro hi0 (Exists.intro _ (And.intro (at_nat hf) ?_))
 first | refine Exists.intro _ (And.intro (s3) ?_) | refine Hn_by (Exists.intro _ (And.intro (s3) ?_))
 repeat (first | refine gT ?_ | refine gF ?_ | refine brT ?_ | refine brF ?_)
 first | refine Exists.intro _ (And.intro (s4) ?_) | refine Hn_by (Exists.intro _ (And.intro (s4) ?_))
 repeat (first | refine gT ?_ | refine gF ?_ | refine brT ?_ | refine brF ?_)
 refine And.intro (by kernel_rfl) ?_
 refine And.intro (by kernel_rfl) ?_
 refine And.intro hi0 (Exists.intro _ (And.intro (at_nat hf) ?_))
 refine And.intro (by kernel_rfl) ?_
 first | refine Exists.intro _ (And.intro (s5) ?_) | refine Hn_by (Exists.intro _ (And.intro (s5) ?_))
 repeat (first | refine gT ?_ | refine gF ?_ | refine brT ?_ | refine brF ?_)
 first | refine Exists.intro _ (And.intro (s6) ?_) | refine Hn_by (Exists.intro _ (And.intro (s6) ?_))
 repeat (first | refine gT ?_ | refine gF ?_ | refine brT ?_ | refine brF ?_)
 first | refine Exists.intro _ (And.intro (s7) ?_) | refine Hn_by (Exists.intro _ (And.intro (s7) ?_))
 repeat (first | refine gT ?_ | refine gF ?_ | refine brT ?_ | refine brF ?_)
 first | refine Exists.intro _ (And.intro (s8) ?_) | refine Hn_by (Exists.intro _ (And.intro (s8) ?_))
 repeat (first | refine gT ?_ | refine gF ?_ | refine brT ?_ | refine brF ?_)
 refine And.intro (Or.inr rfl) (And.intro rfl (cut_K hcl hK ?_))
 repeat (first | exact Old.refl | refine Old.new rfl ?_ | refine Old.same rfl ?_)
theorem piece_ok {froms tos : List (List AV)} {i : Nat} {re im a1 a2 b1 b2 : Int} {fn fd tn td en ed gn gd jn jd ln ld pn pd rn rd : Bool} {fl fm tl tm el em gl gm jl jm ll lm pl pm rl rm : List Int}
  (ht : tos[i]? = some [.bool tn,lim tl,.bool td,lim tm]) (hf : froms[i]? = some [.bool fn,lim fl,.bool fd,lim fm])
  (s1 : Spec Tryz.prog [] 73 [.int .i64 re,.int .i64 4096] (.tup [mkQ en el ed em,.int .i64 0])) (s2 : Spec Tryz.prog [] 73 [.int .i64 im,.int .i64 4096] (.tup [mkQ gn gl gd gm,.int .i64 0])) (s3 : Spec Tryz.prog [] 74 [mkQ tn tl td tm,mkQ fn fl fd fm] (.tup [mkQ jn jl jd jm,.int .i64 0])) (s4 : Spec Tryz.prog [] 65 [mkQ jn jl jd jm,mkQ en el ed em] (.tup [mkQ ln ll ld lm,.int .i64 0])) (s5 : Spec Tryz.prog [] 75 [mkQ fn fl fd fm,mkQ ln ll ld lm] (.tup [mkQ pn pl pd pm,.int .i64 0])) (s6 : Spec Tryz.prog [] 65 [mkQ jn jl jd jm,mkQ gn gl gd gm] (.tup [mkQ rn rl rd rm,.int .i64 0])) (s7 : Spec Tryz.prog [] 37 [mkQ pn pl pd pm] (.tup [bx a1 a2 0 0 false,.int .i64 0])) (s8 : Spec Tryz.prog [] 37 [mkQ rn rl rd rm] (.tup [bx b1 b2 0 0 false,.int .i64 0]))
  {tm : Nat -> AV} {hp : Nat -> Option Blk} {K : AV -> St -> Prop} (n : Nat) (h1 : hp 1 = some (.box [.sl froms])) (h2 : hp 2 = some (.box [.sl tos]))
  (hcl : ∀ k,k < 4 -> blB 4 (hp k) = true) (hK : K (.tup [bx a1 a2 b1 b2 false,.int .i64 0]) ⟨tm,cutH 4 hp,4⟩) : Hn Tryz.prog T [] (n + 1) (.fn 72) [.int .i64 (i : Int),.agg [.int .i64 re,.int .i64 im],.bp 2 0,.bp 1 0] ⟨tm,hp,4⟩ K:=by
 obtain ⟨h0,rfl⟩:=put_known h1 h2
 have hi0 : (0 : Int) <= (i : Int):=by omega
 refine Hn_cut Tryz.f72 Tryz.func72 fn_ok72 (by kernel_rfl) ?_
 first | refine Exists.intro _ (And.intro (s1) ?_) | refine Hn_by (Exists.intro _ (And.intro (s1) ?_))
 first | refine Exists.intro _ (And.intro (s2) ?_) | refine Hn_by (Exists.intro _ (And.intro (s2) ?_))
 refine And.intro (by kernel_rfl) ?_
 refine And.intro (by kernel_rfl) ?_
 refine And.intro hi0 (Exists.intro _ (And.intro (at_nat ht) ?_))
 refine And.intro (by kernel_rfl) ?_
 refine And.intro hi0 (Exists.intro _ (And.intro (at_nat hf) ?_))
 first | refine Exists.intro _ (And.intro (s3) ?_) | refine Hn_by (Exists.intro _ (And.intro (s3) ?_))
 repeat (first | refine gT ?_ | refine gF ?_ | refine brT ?_ | refine brF ?_)
 first | refine Exists.intro _ (And.intro (s4) ?_) | refine Hn_by (Exists.intro _ (And.intro (s4) ?_))
 repeat (first | refine gT ?_ | refine gF ?_ | refine brT ?_ | refine brF ?_)
 refine And.intro (by kernel_rfl) ?_
 refine And.intro (by kernel_rfl) ?_
 refine And.intro hi0 (Exists.intro _ (And.intro (at_nat hf) ?_))
 refine And.intro (by kernel_rfl) ?_
 first | refine Exists.intro _ (And.intro (s5) ?_) | refine Hn_by (Exists.intro _ (And.intro (s5) ?_))
 repeat (first | refine gT ?_ | refine gF ?_ | refine brT ?_ | refine brF ?_)
 first | refine Exists.intro _ (And.intro (s6) ?_) | refine Hn_by (Exists.intro _ (And.intro (s6) ?_))
 repeat (first | refine gT ?_ | refine gF ?_ | refine brT ?_ | refine brF ?_)
 first | refine Exists.intro _ (And.intro (s7) ?_) | refine Hn_by (Exists.intro _ (And.intro (s7) ?_))
 repeat (first | refine gT ?_ | refine gF ?_ | refine brT ?_ | refine brF ?_)
 first | refine Exists.intro _ (And.intro (s8) ?_) | refine Hn_by (Exists.intro _ (And.intro (s8) ?_))
 repeat (first | refine gT ?_ | refine gF ?_ | refine brT ?_ | refine brF ?_)
 refine And.intro (Or.inr rfl) (And.intro rfl (cut_K hcl hK ?_))
 repeat (first | exact Old.refl | refine Old.new rfl ?_ | refine Old.same rfl ?_)
theorem point_0 {re im : Int} {fn fd tn td : Bool} {fl fm tl tm : List Int}
  (s3 : Spec Tryz.prog [] 83 [mkQ tn tl td tm,mkQ fn fl fd fm] badQ) :
  Spec Tryz.prog [] 61 [mkQ fn fl fd fm,mkQ tn tl td tm,.agg [.int .i64 re,.int .i64 im]] (.tup [bx 0 0 0 0 false,.int .i64 2]):=by
 refine spec_fn T_ok mixed_ok 0 Tryz.func61 fn_ok61 (by kernel_rfl) ?_
 first | refine Exists.intro _ (And.intro (s3) ?_) | refine Hn_by (Exists.intro _ (And.intro (s3) ?_))
 repeat (first | refine gT ?_ | refine gF ?_ | refine brT ?_ | refine brF ?_)
 exact And.intro (Or.inr rfl) rfl
theorem point_1 {re im : Int} {fn fd tn td en ed gn gd jn jd : Bool} {fl fm tl tm el em gl gm jl jm : List Int}
  (s1 : Spec Tryz.prog [] 70 [.int .i64 re,.int .i64 4096] (.tup [mkQ en el ed em,.int .i64 0])) (s2 : Spec Tryz.prog [] 70 [.int .i64 im,.int .i64 4096] (.tup [mkQ gn gl gd gm,.int .i64 0])) (s3 : Spec Tryz.prog [] 83 [mkQ tn tl td tm,mkQ fn fl fd fm] (.tup [mkQ jn jl jd jm,.int .i64 0])) (s4 : Spec Tryz.prog [] 84 [mkQ jn jl jd jm,mkQ en el ed em] badQ) :
  Spec Tryz.prog [] 61 [mkQ fn fl fd fm,mkQ tn tl td tm,.agg [.int .i64 re,.int .i64 im]] (.tup [bx 0 0 0 0 false,.int .i64 2]):=by
 refine spec_fn T_ok mixed_ok 0 Tryz.func61 fn_ok61 (by kernel_rfl) ?_
 first | refine Exists.intro _ (And.intro (s3) ?_) | refine Hn_by (Exists.intro _ (And.intro (s3) ?_))
 repeat (first | refine gT ?_ | refine gF ?_ | refine brT ?_ | refine brF ?_)
 first | refine Exists.intro _ (And.intro (s1) ?_) | refine Hn_by (Exists.intro _ (And.intro (s1) ?_))
 first | refine Exists.intro _ (And.intro (s2) ?_) | refine Hn_by (Exists.intro _ (And.intro (s2) ?_))
 first | refine Exists.intro _ (And.intro (s4) ?_) | refine Hn_by (Exists.intro _ (And.intro (s4) ?_))
 repeat (first | refine gT ?_ | refine gF ?_ | refine brT ?_ | refine brF ?_)
 exact And.intro (Or.inr rfl) rfl
theorem point_2 {re im : Int} {fn fd tn td en ed gn gd jn jd ln ld : Bool} {fl fm tl tm el em gl gm jl jm ll lm : List Int}
  (s1 : Spec Tryz.prog [] 70 [.int .i64 re,.int .i64 4096] (.tup [mkQ en el ed em,.int .i64 0])) (s2 : Spec Tryz.prog [] 70 [.int .i64 im,.int .i64 4096] (.tup [mkQ gn gl gd gm,.int .i64 0])) (s3 : Spec Tryz.prog [] 83 [mkQ tn tl td tm,mkQ fn fl fd fm] (.tup [mkQ jn jl jd jm,.int .i64 0])) (s4 : Spec Tryz.prog [] 84 [mkQ jn jl jd jm,mkQ en el ed em] (.tup [mkQ ln ll ld lm,.int .i64 0])) (s5 : Spec Tryz.prog [] 85 [mkQ fn fl fd fm,mkQ ln ll ld lm] badQ) :
  Spec Tryz.prog [] 61 [mkQ fn fl fd fm,mkQ tn tl td tm,.agg [.int .i64 re,.int .i64 im]] (.tup [bx 0 0 0 0 false,.int .i64 2]):=by
 refine spec_fn T_ok mixed_ok 0 Tryz.func61 fn_ok61 (by kernel_rfl) ?_
 first | refine Exists.intro _ (And.intro (s3) ?_) | refine Hn_by (Exists.intro _ (And.intro (s3) ?_))
 repeat (first | refine gT ?_ | refine gF ?_ | refine brT ?_ | refine brF ?_)
 first | refine Exists.intro _ (And.intro (s1) ?_) | refine Hn_by (Exists.intro _ (And.intro (s1) ?_))
 first | refine Exists.intro _ (And.intro (s2) ?_) | refine Hn_by (Exists.intro _ (And.intro (s2) ?_))
 first | refine Exists.intro _ (And.intro (s4) ?_) | refine Hn_by (Exists.intro _ (And.intro (s4) ?_))
 repeat (first | refine gT ?_ | refine gF ?_ | refine brT ?_ | refine brF ?_)
 first | refine Exists.intro _ (And.intro (s5) ?_) | refine Hn_by (Exists.intro _ (And.intro (s5) ?_))
 repeat (first | refine gT ?_ | refine gF ?_ | refine brT ?_ | refine brF ?_)
 exact And.intro (Or.inr rfl) rfl
theorem point_3 {re im : Int} {fn fd tn td en ed gn gd jn jd ln ld pn pd : Bool} {fl fm tl tm el em gl gm jl jm ll lm pl pm : List Int}
  (s1 : Spec Tryz.prog [] 70 [.int .i64 re,.int .i64 4096] (.tup [mkQ en el ed em,.int .i64 0])) (s2 : Spec Tryz.prog [] 70 [.int .i64 im,.int .i64 4096] (.tup [mkQ gn gl gd gm,.int .i64 0])) (s3 : Spec Tryz.prog [] 83 [mkQ tn tl td tm,mkQ fn fl fd fm] (.tup [mkQ jn jl jd jm,.int .i64 0])) (s4 : Spec Tryz.prog [] 84 [mkQ jn jl jd jm,mkQ en el ed em] (.tup [mkQ ln ll ld lm,.int .i64 0])) (s5 : Spec Tryz.prog [] 85 [mkQ fn fl fd fm,mkQ ln ll ld lm] (.tup [mkQ pn pl pd pm,.int .i64 0])) (s6 : Spec Tryz.prog [] 84 [mkQ jn jl jd jm,mkQ gn gl gd gm] badQ) :
  Spec Tryz.prog [] 61 [mkQ fn fl fd fm,mkQ tn tl td tm,.agg [.int .i64 re,.int .i64 im]] (.tup [bx 0 0 0 0 false,.int .i64 2]):=by
 refine spec_fn T_ok mixed_ok 0 Tryz.func61 fn_ok61 (by kernel_rfl) ?_
 first | refine Exists.intro _ (And.intro (s3) ?_) | refine Hn_by (Exists.intro _ (And.intro (s3) ?_))
 repeat (first | refine gT ?_ | refine gF ?_ | refine brT ?_ | refine brF ?_)
 first | refine Exists.intro _ (And.intro (s1) ?_) | refine Hn_by (Exists.intro _ (And.intro (s1) ?_))
 first | refine Exists.intro _ (And.intro (s2) ?_) | refine Hn_by (Exists.intro _ (And.intro (s2) ?_))
 first | refine Exists.intro _ (And.intro (s4) ?_) | refine Hn_by (Exists.intro _ (And.intro (s4) ?_))
 repeat (first | refine gT ?_ | refine gF ?_ | refine brT ?_ | refine brF ?_)
 first | refine Exists.intro _ (And.intro (s5) ?_) | refine Hn_by (Exists.intro _ (And.intro (s5) ?_))
 repeat (first | refine gT ?_ | refine gF ?_ | refine brT ?_ | refine brF ?_)
 first | refine Exists.intro _ (And.intro (s6) ?_) | refine Hn_by (Exists.intro _ (And.intro (s6) ?_))
 repeat (first | refine gT ?_ | refine gF ?_ | refine brT ?_ | refine brF ?_)
 exact And.intro (Or.inr rfl) rfl
theorem point_4 {re im : Int} {fn fd tn td en ed gn gd jn jd ln ld pn pd rn rd : Bool} {fl fm tl tm el em gl gm jl jm ll lm pl pm rl rm : List Int}
  (s1 : Spec Tryz.prog [] 70 [.int .i64 re,.int .i64 4096] (.tup [mkQ en el ed em,.int .i64 0])) (s2 : Spec Tryz.prog [] 70 [.int .i64 im,.int .i64 4096] (.tup [mkQ gn gl gd gm,.int .i64 0])) (s3 : Spec Tryz.prog [] 83 [mkQ tn tl td tm,mkQ fn fl fd fm] (.tup [mkQ jn jl jd jm,.int .i64 0])) (s4 : Spec Tryz.prog [] 84 [mkQ jn jl jd jm,mkQ en el ed em] (.tup [mkQ ln ll ld lm,.int .i64 0])) (s5 : Spec Tryz.prog [] 85 [mkQ fn fl fd fm,mkQ ln ll ld lm] (.tup [mkQ pn pl pd pm,.int .i64 0])) (s6 : Spec Tryz.prog [] 84 [mkQ jn jl jd jm,mkQ gn gl gd gm] (.tup [mkQ rn rl rd rm,.int .i64 0])) (s7 : Spec Tryz.prog [] 86 [mkQ pn pl pd pm] (.tup [bx 0 0 0 0 false,.int .i64 2])) :
  Spec Tryz.prog [] 61 [mkQ fn fl fd fm,mkQ tn tl td tm,.agg [.int .i64 re,.int .i64 im]] (.tup [bx 0 0 0 0 false,.int .i64 2]):=by
 refine spec_fn T_ok mixed_ok 0 Tryz.func61 fn_ok61 (by kernel_rfl) ?_
 first | refine Exists.intro _ (And.intro (s3) ?_) | refine Hn_by (Exists.intro _ (And.intro (s3) ?_))
 repeat (first | refine gT ?_ | refine gF ?_ | refine brT ?_ | refine brF ?_)
 first | refine Exists.intro _ (And.intro (s1) ?_) | refine Hn_by (Exists.intro _ (And.intro (s1) ?_))
 first | refine Exists.intro _ (And.intro (s2) ?_) | refine Hn_by (Exists.intro _ (And.intro (s2) ?_))
 first | refine Exists.intro _ (And.intro (s4) ?_) | refine Hn_by (Exists.intro _ (And.intro (s4) ?_))
 repeat (first | refine gT ?_ | refine gF ?_ | refine brT ?_ | refine brF ?_)
 first | refine Exists.intro _ (And.intro (s5) ?_) | refine Hn_by (Exists.intro _ (And.intro (s5) ?_))
 repeat (first | refine gT ?_ | refine gF ?_ | refine brT ?_ | refine brF ?_)
 first | refine Exists.intro _ (And.intro (s6) ?_) | refine Hn_by (Exists.intro _ (And.intro (s6) ?_))
 repeat (first | refine gT ?_ | refine gF ?_ | refine brT ?_ | refine brF ?_)
 first | refine Exists.intro _ (And.intro (s7) ?_) | refine Hn_by (Exists.intro _ (And.intro (s7) ?_))
 repeat (first | refine gT ?_ | refine gF ?_ | refine brT ?_ | refine brF ?_)
 exact And.intro (Or.inr rfl) rfl
theorem point_5 {re im a1 a2 : Int} {fn fd tn td en ed gn gd jn jd ln ld pn pd rn rd : Bool} {fl fm tl tm el em gl gm jl jm ll lm pl pm rl rm : List Int}
  (s1 : Spec Tryz.prog [] 70 [.int .i64 re,.int .i64 4096] (.tup [mkQ en el ed em,.int .i64 0])) (s2 : Spec Tryz.prog [] 70 [.int .i64 im,.int .i64 4096] (.tup [mkQ gn gl gd gm,.int .i64 0])) (s3 : Spec Tryz.prog [] 83 [mkQ tn tl td tm,mkQ fn fl fd fm] (.tup [mkQ jn jl jd jm,.int .i64 0])) (s4 : Spec Tryz.prog [] 84 [mkQ jn jl jd jm,mkQ en el ed em] (.tup [mkQ ln ll ld lm,.int .i64 0])) (s5 : Spec Tryz.prog [] 85 [mkQ fn fl fd fm,mkQ ln ll ld lm] (.tup [mkQ pn pl pd pm,.int .i64 0])) (s6 : Spec Tryz.prog [] 84 [mkQ jn jl jd jm,mkQ gn gl gd gm] (.tup [mkQ rn rl rd rm,.int .i64 0])) (s7 : Spec Tryz.prog [] 86 [mkQ pn pl pd pm] (.tup [bx a1 a2 0 0 false,.int .i64 0])) (s8 : Spec Tryz.prog [] 86 [mkQ rn rl rd rm] (.tup [bx 0 0 0 0 false,.int .i64 2])) :
  Spec Tryz.prog [] 61 [mkQ fn fl fd fm,mkQ tn tl td tm,.agg [.int .i64 re,.int .i64 im]] (.tup [bx 0 0 0 0 false,.int .i64 2]):=by
 refine spec_fn T_ok mixed_ok 0 Tryz.func61 fn_ok61 (by kernel_rfl) ?_
 first | refine Exists.intro _ (And.intro (s3) ?_) | refine Hn_by (Exists.intro _ (And.intro (s3) ?_))
 repeat (first | refine gT ?_ | refine gF ?_ | refine brT ?_ | refine brF ?_)
 first | refine Exists.intro _ (And.intro (s1) ?_) | refine Hn_by (Exists.intro _ (And.intro (s1) ?_))
 first | refine Exists.intro _ (And.intro (s2) ?_) | refine Hn_by (Exists.intro _ (And.intro (s2) ?_))
 first | refine Exists.intro _ (And.intro (s4) ?_) | refine Hn_by (Exists.intro _ (And.intro (s4) ?_))
 repeat (first | refine gT ?_ | refine gF ?_ | refine brT ?_ | refine brF ?_)
 first | refine Exists.intro _ (And.intro (s5) ?_) | refine Hn_by (Exists.intro _ (And.intro (s5) ?_))
 repeat (first | refine gT ?_ | refine gF ?_ | refine brT ?_ | refine brF ?_)
 first | refine Exists.intro _ (And.intro (s6) ?_) | refine Hn_by (Exists.intro _ (And.intro (s6) ?_))
 repeat (first | refine gT ?_ | refine gF ?_ | refine brT ?_ | refine brF ?_)
 first | refine Exists.intro _ (And.intro (s7) ?_) | refine Hn_by (Exists.intro _ (And.intro (s7) ?_))
 repeat (first | refine gT ?_ | refine gF ?_ | refine brT ?_ | refine brF ?_)
 first | refine Exists.intro _ (And.intro (s8) ?_) | refine Hn_by (Exists.intro _ (And.intro (s8) ?_))
 repeat (first | refine gT ?_ | refine gF ?_ | refine brT ?_ | refine brF ?_)
 exact And.intro (Or.inr rfl) rfl
theorem point_ok {re im a1 a2 b1 b2 : Int} {fn fd tn td en ed gn gd jn jd ln ld pn pd rn rd : Bool} {fl fm tl tm el em gl gm jl jm ll lm pl pm rl rm : List Int}
  (s1 : Spec Tryz.prog [] 70 [.int .i64 re,.int .i64 4096] (.tup [mkQ en el ed em,.int .i64 0])) (s2 : Spec Tryz.prog [] 70 [.int .i64 im,.int .i64 4096] (.tup [mkQ gn gl gd gm,.int .i64 0])) (s3 : Spec Tryz.prog [] 83 [mkQ tn tl td tm,mkQ fn fl fd fm] (.tup [mkQ jn jl jd jm,.int .i64 0])) (s4 : Spec Tryz.prog [] 84 [mkQ jn jl jd jm,mkQ en el ed em] (.tup [mkQ ln ll ld lm,.int .i64 0])) (s5 : Spec Tryz.prog [] 85 [mkQ fn fl fd fm,mkQ ln ll ld lm] (.tup [mkQ pn pl pd pm,.int .i64 0])) (s6 : Spec Tryz.prog [] 84 [mkQ jn jl jd jm,mkQ gn gl gd gm] (.tup [mkQ rn rl rd rm,.int .i64 0])) (s7 : Spec Tryz.prog [] 86 [mkQ pn pl pd pm] (.tup [bx a1 a2 0 0 false,.int .i64 0])) (s8 : Spec Tryz.prog [] 86 [mkQ rn rl rd rm] (.tup [bx b1 b2 0 0 false,.int .i64 0])) :
  Spec Tryz.prog [] 61 [mkQ fn fl fd fm,mkQ tn tl td tm,.agg [.int .i64 re,.int .i64 im]] (.tup [bx a1 a2 b1 b2 false,.int .i64 0]):=by
 refine spec_fn T_ok mixed_ok 0 Tryz.func61 fn_ok61 (by kernel_rfl) ?_
 first | refine Exists.intro _ (And.intro (s3) ?_) | refine Hn_by (Exists.intro _ (And.intro (s3) ?_))
 repeat (first | refine gT ?_ | refine gF ?_ | refine brT ?_ | refine brF ?_)
 first | refine Exists.intro _ (And.intro (s1) ?_) | refine Hn_by (Exists.intro _ (And.intro (s1) ?_))
 first | refine Exists.intro _ (And.intro (s2) ?_) | refine Hn_by (Exists.intro _ (And.intro (s2) ?_))
 first | refine Exists.intro _ (And.intro (s4) ?_) | refine Hn_by (Exists.intro _ (And.intro (s4) ?_))
 repeat (first | refine gT ?_ | refine gF ?_ | refine brT ?_ | refine brF ?_)
 first | refine Exists.intro _ (And.intro (s5) ?_) | refine Hn_by (Exists.intro _ (And.intro (s5) ?_))
 repeat (first | refine gT ?_ | refine gF ?_ | refine brT ?_ | refine brF ?_)
 first | refine Exists.intro _ (And.intro (s6) ?_) | refine Hn_by (Exists.intro _ (And.intro (s6) ?_))
 repeat (first | refine gT ?_ | refine gF ?_ | refine brT ?_ | refine brF ?_)
 first | refine Exists.intro _ (And.intro (s7) ?_) | refine Hn_by (Exists.intro _ (And.intro (s7) ?_))
 repeat (first | refine gT ?_ | refine gF ?_ | refine brT ?_ | refine brF ?_)
 first | refine Exists.intro _ (And.intro (s8) ?_) | refine Hn_by (Exists.intro _ (And.intro (s8) ?_))
 repeat (first | refine gT ?_ | refine gF ?_ | refine brT ?_ | refine brF ?_)
 exact And.intro (Or.inr rfl) rfl
end Ab
