import Derived.Test.YtinhfpljdjlomaaGreatXAt
open Go Go.Proofs
namespace Ab
set_option maxRecDepth 100000
set_option maxHeartbeats 1000000
theorem piec2_0 {froms tos : List (List AV)} {i : Nat} {re im : Int} {fn fd tn td en ed gn gd : Bool} {fl fm tl tm el em gl gm : List Int}
  (ht : tos[i]? = some [.bool tn,lim tl,.bool td,lim tm]) (hf : froms[i]? = some [.bool fn,lim fl,.bool fd,lim fm])
  (s1 : Spec Tryz.prog [] 73 [.int .i64 re,.int .i64 4096] (.tup [mkQ en el ed em,.int .i64 0])) (s2 : Spec Tryz.prog [] 73 [.int .i64 im,.int .i64 4096] (.tup [mkQ gn gl gd gm,.int .i64 0])) (s3 : Spec Tryz.prog [] 74 [mkQ tn tl td tm,mkQ fn fl fd fm] badQ)
  {tm : Nat -> AV} {hp : Nat -> Option Blk} {K : AV -> St -> Prop} (n : Nat) (h1 : hp 3 = some (.box [.sl froms])) (h2 : hp 4 = some (.box [.sl tos]))
  (hcl : ∀ k,k < 6 -> blB 6 (hp k) = true) (hK : K (.tup [bx 0 0 0 0 false,.int .i64 2]) ⟨tm,cutH 6 hp,6⟩) : Hn Tryz.prog T [] (n + 1) (.fn 72) [.int .i64 (i : Int),.agg [.int .i64 re,.int .i64 im],.bp 4 0,.bp 3 0] ⟨tm,hp,6⟩ K:=by
 obtain ⟨h0,rfl⟩:=put_known h1 h2
 have hi0 : (0 : Int) <= (i : Int):=by omega
 refine Hn_cut Tryz.f72 Tryz.func72 fn_ok72 (by kernel_rfl) ?_
 first | refine Exists.intro _ (And.intro (s1) ?_) | refine Hn_by (Exists.intro _ (And.intro (s1) ?_))
 first | refine Exists.intro _ (And.intro (s2) ?_) | refine Hn_by (Exists.intro _ (And.intro (s2) ?_))
 refine And.intro (by kernel_rfl) ?_
 refine And.intro (by kernel_rfl) ?_
 refine And.intro hi0 (Exists.intro _ (And.intro (at_nat ht) ?_))
 refine And.intro (by kernel_rfl) ?_
 refine And.intro hi0 (Exists.intro _ (And.intro (at_nat hf) ?_))
 first | refine Exists.intro _ (And.intro (s3) ?_) | refine Hn_by (Exists.intro _ (And.intro (s3) ?_))
 repeat (first | refine gT ?_ | refine gF ?_ | refine brT ?_ | refine brF ?_)
 refine And.intro (Or.inr rfl) (And.intro rfl (cut_K hcl hK ?_))
 repeat (first | exact Old.refl | refine Old.new rfl ?_ | refine Old.same rfl ?_)
theorem piec2_1 {froms tos : List (List AV)} {i : Nat} {re im : Int} {fn fd tn td en ed gn gd jn jd : Bool} {fl fm tl tm el em gl gm jl jm : List Int}
  (ht : tos[i]? = some [.bool tn,lim tl,.bool td,lim tm]) (hf : froms[i]? = some [.bool fn,lim fl,.bool fd,lim fm])
  (s1 : Spec Tryz.prog [] 73 [.int .i64 re,.int .i64 4096] (.tup [mkQ en el ed em,.int .i64 0])) (s2 : Spec Tryz.prog [] 73 [.int .i64 im,.int .i64 4096] (.tup [mkQ gn gl gd gm,.int .i64 0])) (s3 : Spec Tryz.prog [] 74 [mkQ tn tl td tm,mkQ fn fl fd fm] (.tup [mkQ jn jl jd jm,.int .i64 0])) (s4 : Spec Tryz.prog [] 65 [mkQ jn jl jd jm,mkQ en el ed em] badQ)
  {tm : Nat -> AV} {hp : Nat -> Option Blk} {K : AV -> St -> Prop} (n : Nat) (h1 : hp 3 = some (.box [.sl froms])) (h2 : hp 4 = some (.box [.sl tos]))
  (hcl : ∀ k,k < 6 -> blB 6 (hp k) = true) (hK : K (.tup [bx 0 0 0 0 false,.int .i64 2]) ⟨tm,cutH 6 hp,6⟩) : Hn Tryz.prog T [] (n + 1) (.fn 72) [.int .i64 (i : Int),.agg [.int .i64 re,.int .i64 im],.bp 4 0,.bp 3 0] ⟨tm,hp,6⟩ K:=by
 obtain ⟨h0,rfl⟩:=put_known h1 h2
 have hi0 : (0 : Int) <= (i : Int):=by omega
 refine Hn_cut Tryz.f72 Tryz.func72 fn_ok72 (by kernel_rfl) ?_
 first | refine Exists.intro _ (And.intro (s1) ?_) | refine Hn_by (Exists.intro _ (And.intro (s1) ?_))
 first | refine Exists.intro _ (And.intro (s2) ?_) | refine Hn_by (Exists.intro _ (And.intro (s2) ?_))
 refine And.intro (by kernel_rfl) ?_
 refine And.intro (by kernel_rfl) ?_
 refine And.intro hi0 (Exists.intro _ (And.intro (at_nat ht) ?_))
 refine And.intro (by kernel_rfl) ?_
 refine And.intro hi0 (Exists.intro _ (And.intro (at_nat hf) ?_))
 first | refine Exists.intro _ (And.intro (s3) ?_) | refine Hn_by (Exists.intro _ (And.intro (s3) ?_))
 repeat (first | refine gT ?_ | refine gF ?_ | refine brT ?_ | refine brF ?_)
 first | refine Exists.intro _ (And.intro (s4) ?_) | refine Hn_by (Exists.intro _ (And.intro (s4) ?_))
 repeat (first | refine gT ?_ | refine gF ?_ | refine brT ?_ | refine brF ?_)
 refine And.intro (Or.inr rfl) (And.intro rfl (cut_K hcl hK ?_))
 repeat (first | exact Old.refl | refine Old.new rfl ?_ | refine Old.same rfl ?_)
theorem piec2_2 {froms tos : List (List AV)} {i : Nat} {re im : Int} {fn fd tn td en ed gn gd jn jd ln ld : Bool} {fl fm tl tm el em gl gm jl jm ll lm : List Int}
  (ht : tos[i]? = some [.bool tn,lim tl,.bool td,lim tm]) (hf : froms[i]? = some [.bool fn,lim fl,.bool fd,lim fm])
  (s1 : Spec Tryz.prog [] 73 [.int .i64 re,.int .i64 4096] (.tup [mkQ en el ed em,.int .i64 0])) (s2 : Spec Tryz.prog [] 73 [.int .i64 im,.int .i64 4096] (.tup [mkQ gn gl gd gm,.int .i64 0])) (s3 : Spec Tryz.prog [] 74 [mkQ tn tl td tm,mkQ fn fl fd fm] (.tup [mkQ jn jl jd jm,.int .i64 0])) (s4 : Spec Tryz.prog [] 65 [mkQ jn jl jd jm,mkQ en el ed em] (.tup [mkQ ln ll ld lm,.int .i64 0])) (s5 : Spec Tryz.prog [] 75 [mkQ fn fl fd fm,mkQ ln ll ld lm] badQ)
  {tm : Nat -> AV} {hp : Nat -> Option Blk} {K : AV -> St -> Prop} (n : Nat) (h1 : hp 3 = some (.box [.sl froms])) (h2 : hp 4 = some (.box [.sl tos]))
  (hcl : ∀ k,k < 6 -> blB 6 (hp k) = true) (hK : K (.tup [bx 0 0 0 0 false,.int .i64 2]) ⟨tm,cutH 6 hp,6⟩) : Hn Tryz.prog T [] (n + 1) (.fn 72) [.int .i64 (i : Int),.agg [.int .i64 re,.int .i64 im],.bp 4 0,.bp 3 0] ⟨tm,hp,6⟩ K:=by
 obtain ⟨h0,rfl⟩:=put_known h1 h2
 have hi0 : (0 : Int) <= (i : Int):=by omega
 refine Hn_cut Tryz.f72 Tryz.func72 fn_ok72 (by kernel_rfl) ?_
 first | refine Exists.intro _ (And.intro (s1) ?_) | refine Hn_by (Exists.intro _ (And.intro (s1) ?_))
 first | refine Exists.intro _ (And.intro (s2) ?_) | refine Hn_by (Exists.intro _ (And.intro (s2) ?_))
 refine And.intro (by kernel_rfl) ?_
 refine And.intro (by kernel_rfl) ?_
 refine And.intro hi0 (Exists.intro _ (And.intro (at_nat ht) ?_))
 refine And.intro (by kernel_rfl) ?_
 refine And.intro hi0 (Exists.intro _ (And.intro (at_nat hf) ?_))
 first | refine Exists.intro _ (And.intro (s3) ?_) | refine Hn_by (Exists.intro _ (And.intro (s3) ?_))
 repeat (first | refine gT ?_ | refine gF ?_ | refine brT ?_ | refine brF ?_)
 first | refine Exists.intro _ (And.intro (s4) ?_) | refine Hn_by (Exists.intro _ (And.intro (s4) ?_))
 repeat (first | refine gT ?_ | refine gF ?_ | refine brT ?_ | refine brF ?_)
 refine And.intro (by kernel_rfl) ?_
 refine And.intro (by kernel_rfl) ?_
 refine And.intro hi0 (Exists.intro _ (And.intro (at_nat hf) ?_))
 refine And.intro (by kernel_rfl) ?_
 first | refine Exists.intro _ (And.intro (s5) ?_) | refine Hn_by (Exists.intro _ (And.intro (s5) ?_))
 repeat (first | refine gT ?_ | refine gF ?_ | refine brT ?_ | refine brF ?_)
 refine And.intro (Or.inr rfl) (And.intro rfl (cut_K hcl hK ?_))
 repeat (first | exact Old.refl | refine Old.new rfl ?_ | refine Old.same rfl ?_)
theorem piec2_3 {froms tos : List (List AV)} {i : Nat} {re im : Int} {fn fd tn td en ed gn gd jn jd ln ld pn pd : Bool} {fl fm tl tm el em gl gm jl jm ll lm pl pm : List Int}
  (ht : tos[i]? = some [.bool tn,lim tl,.bool td,lim tm]) (hf : froms[i]? = some [.bool fn,lim fl,.bool fd,lim fm])
  (s1 : Spec Tryz.prog [] 73 [.int .i64 re,.int .i64 4096] (.tup [mkQ en el ed em,.int .i64 0])) (s2 : Spec Tryz.prog [] 73 [.int .i64 im,.int .i64 4096] (.tup [mkQ gn gl gd gm,.int .i64 0])) (s3 : Spec Tryz.prog [] 74 [mkQ tn tl td tm,mkQ fn fl fd fm] (.tup [mkQ jn jl jd jm,.int .i64 0])) (s4 : Spec Tryz.prog [] 65 [mkQ jn jl jd jm,mkQ en el ed em] (.tup [mkQ ln ll ld lm,.int .i64 0])) (s5 : Spec Tryz.prog [] 75 [mkQ fn fl fd fm,mkQ ln ll ld lm] (.tup [mkQ pn pl pd pm,.int .i64 0])) (s6 : Spec Tryz.prog [] 65 [mkQ jn jl jd jm,mkQ gn gl gd gm] badQ)
  {tm : Nat -> AV} {hp : Nat -> Option Blk} {K : AV -> St -> Prop} (n : Nat) (h1 : hp 3 = some (.box [.sl froms])) (h2 : hp 4 = some (.box [.sl tos]))
  (hcl : ∀ k,k < 6 -> blB 6 (hp k) = true) (hK : K (.tup [bx 0 0 0 0 false,.int .i64 2]) ⟨tm,cutH 6 hp,6⟩) : Hn Tryz.prog T [] (n + 1) (.fn 72) [.int .i64 (i : Int),.agg [.int .i64 re,.int .i64 im],.bp 4 0,.bp 3 0] ⟨tm,hp,6⟩ K:=by
 obtain ⟨h0,rfl⟩:=put_known h1 h2
 have hi0 : (0 : Int) <= (i : Int):=by omega
 refine Hn_cut Tryz.f72 Tryz.func72 fn_ok72 (by kernel_rfl) ?_
 first | refine Exists.intro _ (And.intro (s1) ?_) | refine Hn_by (Exists.intro _ (And.intro (s1) ?_))
 first | refine Exists.intro _ (And.intro (s2) ?_) | refine Hn_by (Exists.intro _ (And.intro (s2) ?_))
 refine And.intro (by kernel_rfl) ?_
 refine And.intro (by kernel_rfl) ?_
 refine And.intro hi0 (Exists.intro _ (And.intro (at_nat ht) ?_))
 refine And.intro (by kernel_rfl) ?_
 refine And.intro hi0 (Exists.intro _ (And.intro (at_nat hf) ?_))
 first | refine Exists.intro _ (And.intro (s3) ?_) | refine Hn_by (Exists.intro _ (And.intro (s3) ?_))
 repeat (first | refine gT ?_ | refine gF ?_ | refine brT ?_ | refine brF ?_)
 first | refine Exists.intro _ (And.intro (s4) ?_) | refine Hn_by (Exists.intro _ (And.intro (s4) ?_))
 repeat (first | refine gT ?_ | refine gF ?_ | refine brT ?_ | refine brF ?_)
 refine And.intro (by kernel_rfl) ?_
 refine And.intro (by kernel_rfl) ?_
 refine And.intro hi0 (Exists.intro _ (And.intro (at_nat hf) ?_))
 refine And.intro (by kernel_rfl) ?_
 first | refine Exists.intro _ (And.intro (s5) ?_) | refine Hn_by (Exists.intro _ (And.intro (s5) ?_))
 repeat (first | refine gT ?_ | refine gF ?_ | refine brT ?_ | refine brF ?_)
 first | refine Exists.intro _ (And.intro (s6) ?_) | refine Hn_by (Exists.intro _ (And.intro (s6) ?_))
 repeat (first | refine gT ?_ | refine gF ?_ | refine brT ?_ | refine brF ?_)
 refine And.intro (Or.inr rfl) (And.intro rfl (cut_K hcl hK ?_))
 repeat (first | exact Old.refl | refine Old.new rfl ?_ | refine Old.same rfl ?_)
theorem piec2_4 {froms tos : List (List AV)} {i : Nat} {re im : Int} {fn fd tn td en ed gn gd jn jd ln ld pn pd rn rd : Bool} {fl fm tl tm el em gl gm jl jm ll lm pl pm rl rm : List Int}
  (ht : tos[i]? = some [.bool tn,lim tl,.bool td,lim tm]) (hf : froms[i]? = some [.bool fn,lim fl,.bool fd,lim fm])
  (s1 : Spec Tryz.prog [] 73 [.int .i64 re,.int .i64 4096] (.tup [mkQ en el ed em,.int .i64 0])) (s2 : Spec Tryz.prog [] 73 [.int .i64 im,.int .i64 4096] (.tup [mkQ gn gl gd gm,.int .i64 0])) (s3 : Spec Tryz.prog [] 74 [mkQ tn tl td tm,mkQ fn fl fd fm] (.tup [mkQ jn jl jd jm,.int .i64 0])) (s4 : Spec Tryz.prog [] 65 [mkQ jn jl jd jm,mkQ en el ed em] (.tup [mkQ ln ll ld lm,.int .i64 0])) (s5 : Spec Tryz.prog [] 75 [mkQ fn fl fd fm,mkQ ln ll ld lm] (.tup [mkQ pn pl pd pm,.int .i64 0])) (s6 : Spec Tryz.prog [] 65 [mkQ jn jl jd jm,mkQ gn gl gd gm] (.tup [mkQ rn rl rd rm,.int .i64 0])) (s7 : Spec Tryz.prog [] 37 [mkQ pn pl pd pm] (.tup [bx 0 0 0 0 false,.int .i64 2]))
  {tm : Nat -> AV} {hp : Nat -> Option Blk} {K : AV -> St -> Prop} (n : Nat) (h1 : hp 3 = some (.box [.sl froms])) (h2 : hp 4 = some (.box [.sl tos]))
  (hcl : ∀ k,k < 6 -> blB 6 (hp k) = true) (hK : K (.tup [bx 0 0 0 0 false,.int .i64 2]) ⟨tm,cutH 6 hp,6⟩) : Hn Tryz.prog T [] (n + 1) (.fn 72) [.int .i64 (i : Int),.agg [.int .i64 re,.int .i64 im],.bp 4 0,.bp 3 0] ⟨tm,hp,6⟩ K:=by
 obtain ⟨h0,rfl⟩:=put_known h1 h2
 have hi0 : (0 : Int) <= (i : Int):=by omega
 refine Hn_cut Tryz.f72 Tryz.func72 fn_ok72 (by kernel_rfl) ?_
 first | refine Exists.intro _ (And.intro (s1) ?_) | refine Hn_by (Exists.intro _ (And.intro (s1) ?_))
 first | refine Exists.intro _ (And.intro (s2) ?_) | refine Hn_by (Exists.intro _ (And.intro (s2) ?_))
 refine And.intro (by kernel_rfl) ?_
 refine And.intro (by kernel_rfl) ?_
 refine And.intro hi0 (Exists.intro _ (And.intro (at_nat ht) ?_))
 refine And.intro (by kernel_rfl) ?_
 refine And.intro hi0 (Exists.intro _ (And.intro (at_nat hf) ?_))
 first | refine Exists.intro _ (And.intro (s3) ?_) | refine Hn_by (Exists.intro _ (And.intro (s3) ?_))
 repeat (first | refine gT ?_ | refine gF ?_ | refine brT ?_ | refine brF ?_)
 first | refine Exists.intro _ (And.intro (s4) ?_) | refine Hn_by (Exists.intro _ (And.intro (s4) ?_))
 repeat (first | refine gT ?_ | refine gF ?_ | refine brT ?_ | refine brF ?_)
 refine And.intro (by kernel_rfl) ?_
 refine And.intro (by kernel_rfl) ?_
 refine And.intro hi0 (Exists.intro _ (And.intro (at_nat hf) ?_))
 refine And.intro (by kernel_rfl) ?_
 first | refine Exists.intro _ (And.intro (s5) ?_) | refine Hn_by (Exists.intro _ (And.intro (s5) ?_))
 repeat (first | refine gT ?_ | refine gF ?_ | refine brT ?_ | refine brF ?_)
 first | refine Exists.intro _ (And.intro (s6) ?_) | refine Hn_by (Exists.intro _ (And.intro (s6) ?_))
 repeat (first | refine gT ?_ | refine gF ?_ | refine brT ?_ | refine brF ?_)
 first | refine Exists.intro _ (And.intro (s7) ?_) | refine Hn_by (Exists.intro _ (And.intro (s7) ?_))
 repeat (first | refine gT ?_ | refine gF ?_ | refine brT ?_ | refine brF ?_)
 refine And.intro (Or.inr rfl) (And.intro rfl (cut_K hcl hK ?_))
 repeat (first | exact Old.refl | refine Old.new rfl ?_ | refine Old.same rfl ?_)
theorem piec2_5 {froms tos : List (List AV)} {i : Nat} {re im a1 a2 : Int} {fn fd tn td en ed gn gd jn jd ln ld pn pd rn rd : Bool} {fl fm tl tm el em gl gm jl jm ll lm pl pm rl rm : List Int}
  (ht : tos[i]? = some [.bool tn,lim tl,.bool td,lim tm]) (hf : froms[i]? = some [.bool fn,lim fl,.bool fd,lim fm])
  (s1 : Spec Tryz.prog [] 73 [.int .i64 re,.int .i64 4096] (.tup [mkQ en el ed em,.int .i64 0])) (s2 : Spec Tryz.prog [] 73 [.int .i64 im,.int .i64 4096] (.tup [mkQ gn gl gd gm,.int .i64 0])) (s3 : Spec Tryz.prog [] 74 [mkQ tn tl td tm,mkQ fn fl fd fm] (.tup [mkQ jn jl jd jm,.int .i64 0])) (s4 : Spec Tryz.prog [] 65 [mkQ jn jl jd jm,mkQ en el ed em] (.tup [mkQ ln ll ld lm,.int .i64 0])) (s5 : Spec Tryz.prog [] 75 [mkQ fn fl fd fm,mkQ ln ll ld lm] (.tup [mkQ pn pl pd pm,.int .i64 0])) (s6 : Spec Tryz.prog [] 65 [mkQ jn jl jd jm,mkQ gn gl gd gm] (.tup [mkQ rn rl rd rm,.int .i64 0])) (s7 : Spec Tryz.prog [] 37 [mkQ pn pl pd pm] (.tup [bx a1 a2 0 0 false,.int .i64 0])) (s8 : Spec Tryz.prog [] 37 [mkQ rn rl rd rm] (.tup [bx 0 0 0 0 false,.int .i64 2]))
  {tm : Nat -> AV} {hp : Nat -> Option Blk} {K : AV -> St -> Prop} (n : Nat) (h1 : hp 3 = some (.box [.sl froms])) (h2 : hp 4 = some (.box [.sl tos]))
  (hcl : ∀ k,k < 6 -> blB 6 (hp k) = true) (hK : K (.tup [bx 0 0 0 0 false,.int .i64 2]) ⟨tm,cutH 6 hp,6⟩) : Hn Tryz.prog T [] (n + 1) (.fn 72) [.int .i64 (i : Int),.agg [.int .i64 re,.int .i64 im],.bp 4 0,.bp 3 0] ⟨tm,hp,6⟩ K:=by
 obtain ⟨h0,rfl⟩:=put_known h1 h2
 have hi0 : (0 : Int) <= (i : Int):=by omega
 refine Hn_cut Tryz.f72 Tryz.func72 fn_ok72 (by kernel_rfl) ?_
 first | refine Exists.intro _ (And.intro (s1) ?_) | refine Hn_by (Exists.intro _ (And.intro (s1) ?_))
 first | refine Exists.intro _ (And.intro (s2) ?_) | refine Hn_by (Exists.intro _ (And.intro (s2) ?_))
 refine And.intro (by kernel_rfl) ?_
 refine And.intro (by kernel_rfl) ?_
 refine And.intro hi0 (Exists.intro _ (And.intro (at_nat ht) ?_))
 refine And.intro (by kernel_rfl) ?_
 refine And.intro hi0 (Exists.intro _ (And.intro (at_nat hf) ?_))
 first | refine Exists.intro _ (And.intro (s3) ?_) | refine Hn_by (Exists.intro _ (And.intro (s3) ?_))
 repeat (first | refine gT ?_ | refine gF ?_ | refine brT ?_ | refine brF ?_)
 first | refine Exists.intro _ (And.intro (s4) ?_) | refine Hn_by (Exists.intro _ (And.intro (s4) ?_))
 repeat (first | refine gT ?_ | refine gF ?_ | refine brT ?_ | refine brF ?_)
 refine And.intro (by kernel_rfl) ?_
 refine And.intro (by kernel_rfl) ?_
 refine And.intro hi0 (Exists.intro _ (And.intro (at_nat hf) ?_))
 refine And.intro (by kernel_rfl) ?_
 first | refine Exists.intro _ (And.intro (s5) ?_) | refine Hn_by (Exists.intro _ (And.intro (s5) ?_))
 repeat (first | refine gT ?_ | refine gF ?_ | refine brT ?_ | refine brF ?_)
 first | refine Exists.intro _ (And.intro (s6) ?_) | refine Hn_by (Exists.intro _ (And.intro (s6) ?_))
 repeat (first | refine gT ?_ | refine gF ?_ | refine brT ?_ | refine brF ?_)
 first | refine Exists.intro _ (And.intro (s7) ?_) | refine Hn_by (Exists.intro _ (And.intro (s7) ?_))
 repeat (first | refine gT ?_ | refine gF ?_ | refine brT ?_ | refine brF ?_)
 first | refine Exists.intro _ (And.intro (s8) ?_) | refine Hn_by (Exists.intro _ (And.intro (s8) ?_))
 repeat (first | refine gT ?_ | refine gF ?_ | refine brT ?_ | refine brF ?_)
 refine And.intro (Or.inr rfl) (And.intro rfl (cut_K hcl hK ?_))
 repeat (first | exact Old.refl | refine Old.new rfl ?_ | refine Old.same rfl ?_)
theorem piec2_ok {froms tos : List (List AV)} {i : Nat} {re im a1 a2 b1 b2 : Int} {fn fd tn td en ed gn gd jn jd ln ld pn pd rn rd : Bool} {fl fm tl tm el em gl gm jl jm ll lm pl pm rl rm : List Int}
  (ht : tos[i]? = some [.bool tn,lim tl,.bool td,lim tm]) (hf : froms[i]? = some [.bool fn,lim fl,.bool fd,lim fm])
  (s1 : Spec Tryz.prog [] 73 [.int .i64 re,.int .i64 4096] (.tup [mkQ en el ed em,.int .i64 0])) (s2 : Spec Tryz.prog [] 73 [.int .i64 im,.int .i64 4096] (.tup [mkQ gn gl gd gm,.int .i64 0])) (s3 : Spec Tryz.prog [] 74 [mkQ tn tl td tm,mkQ fn fl fd fm] (.tup [mkQ jn jl jd jm,.int .i64 0])) (s4 : Spec Tryz.prog [] 65 [mkQ jn jl jd jm,mkQ en el ed em] (.tup [mkQ ln ll ld lm,.int .i64 0])) (s5 : Spec Tryz.prog [] 75 [mkQ fn fl fd fm,mkQ ln ll ld lm] (.tup [mkQ pn pl pd pm,.int .i64 0])) (s6 : Spec Tryz.prog [] 65 [mkQ jn jl jd jm,mkQ gn gl gd gm] (.tup [mkQ rn rl rd rm,.int .i64 0])) (s7 : Spec Tryz.prog [] 37 [mkQ pn pl pd pm] (.tup [bx a1 a2 0 0 false,.int .i64 0])) (s8 : Spec Tryz.prog [] 37 [mkQ rn rl rd rm] (.tup [bx b1 b2 0 0 false,.int .i64 0]))
  {tm : Nat -> AV} {hp : Nat -> Option Blk} {K : AV -> St -> Prop} (n : Nat) (h1 : hp 3 = some (.box [.sl froms])) (h2 : hp 4 = some (.box [.sl tos]))
  (hcl : ∀ k,k < 6 -> blB 6 (hp k) = true) (hK : K (.tup [bx a1 a2 b1 b2 false,.int .i64 0]) ⟨tm,cutH 6 hp,6⟩) : Hn Tryz.prog T [] (n + 1) (.fn 72) [.int .i64 (i : Int),.agg [.int .i64 re,.int .i64 im],.bp 4 0,.bp 3 0] ⟨tm,hp,6⟩ K:=by
 obtain ⟨h0,rfl⟩:=put_known h1 h2
 have hi0 : (0 : Int) <= (i : Int):=by omega
 refine Hn_cut Tryz.f72 Tryz.func72 fn_ok72 (by kernel_rfl) ?_
 first | refine Exists.intro _ (And.intro (s1) ?_) | refine Hn_by (Exists.intro _ (And.intro (s1) ?_))
 first | refine Exists.intro _ (And.intro (s2) ?_) | refine Hn_by (Exists.intro _ (And.intro (s2) ?_))
 refine And.intro (by kernel_rfl) ?_
 refine And.intro (by kernel_rfl) ?_
 refine And.intro hi0 (Exists.intro _ (And.intro (at_nat ht) ?_))
 refine And.intro (by kernel_rfl) ?_
 refine And.intro hi0 (Exists.intro _ (And.intro (at_nat hf) ?_))
 first | refine Exists.intro _ (And.intro (s3) ?_) | refine Hn_by (Exists.intro _ (And.intro (s3) ?_))
 repeat (first | refine gT ?_ | refine gF ?_ | refine brT ?_ | refine brF ?_)
 first | refine Exists.intro _ (And.intro (s4) ?_) | refine Hn_by (Exists.intro _ (And.intro (s4) ?_))
 repeat (first | refine gT ?_ | refine gF ?_ | refine brT ?_ | refine brF ?_)
 refine And.intro (by kernel_rfl) ?_
 refine And.intro (by kernel_rfl) ?_
 refine And.intro hi0 (Exists.intro _ (And.intro (at_nat hf) ?_))
 refine And.intro (by kernel_rfl) ?_
 first | refine Exists.intro _ (And.intro (s5) ?_) | refine Hn_by (Exists.intro _ (And.intro (s5) ?_))
 repeat (first | refine gT ?_ | refine gF ?_ | refine brT ?_ | refine brF ?_)
 first | refine Exists.intro _ (And.intro (s6) ?_) | refine Hn_by (Exists.intro _ (And.intro (s6) ?_))
 repeat (first | refine gT ?_ | refine gF ?_ | refine brT ?_ | refine brF ?_)
 first | refine Exists.intro _ (And.intro (s7) ?_) | refine Hn_by (Exists.intro _ (And.intro (s7) ?_))
 repeat (first | refine gT ?_ | refine gF ?_ | refine brT ?_ | refine brF ?_)
 first | refine Exists.intro _ (And.intro (s8) ?_) | refine Hn_by (Exists.intro _ (And.intro (s8) ?_))
 repeat (first | refine gT ?_ | refine gF ?_ | refine brT ?_ | refine brF ?_)
 refine And.intro (Or.inr rfl) (And.intro rfl (cut_K hcl hK ?_))
 repeat (first | exact Old.refl | refine Old.new rfl ?_ | refine Old.same rfl ?_)
section
variable {x y : Int × Int} (hx : Qv x) (hy : Qv y) {re im : Int} (r0 : -9223372036854775808 <= re) (r1 : re <= 9223372036854775807) (i0 : -9223372036854775808 <= im) (i1 : im <= 9223372036854775807)
include hx hy r0 r1 i0 i1
theorem piec2_tot {froms tos : List (List AV)} {i : Nat} (ht : tos[i]? = some (qc y)) (hf : froms[i]? = some (qc x)) {tm : Nat -> AV} {hp : Nat -> Option Blk} {K : AV -> St -> Prop} (n : Nat) (h1 : hp 3 = some (.box [.sl froms])) (h2 : hp 4 = some (.box [.sl tos]))
  (hcl : ∀ k,k < 6 -> blB 6 (hp k) = true) {res : AV} (hres : bAV (ptO x y re im) = res) (hK : K res ⟨tm,cutH 6 hp,6⟩) : Hn Tryz.prog T [] (n + 1) (.fn 72) [.int .i64 (i : Int),.agg [.int .i64 re,.int .i64 im],.bp 4 0,.bp 3 0] ⟨tm,hp,6⟩ K:=by
 subst hres
 have s1:=ratof_int [] (n:=re) (d:=4096) r0 r1 (by decide) (by decide)
 have s2:=ratof_int [] (n:=im) (d:=4096) i0 i1 (by decide) (by decide)
 have s3:=ratsub_tot [] hy hx
 rw [sub_av y x] at s3
 unfold ptO at hK
 have k1:=tq_qv r0 r1
 have k2:=tq_qv i0 i1
 cases e1 : oSub y x with
 | none => rw [e1] at s3 hK; exact piec2_0 ht hf s1 s2 s3 n h1 h2 hcl hK
 | some d =>
 rw [e1] at s3 hK
 have hd:=oSub_qv hy hx e1
 have s4:=ratmul_tot [] hd k1
 rw [mul_av d (tq re)] at s4
 rw [Option.bind_some] at hK
 cases e2 : oMul d (tq re) with
 | none => rw [e2] at s4 hK; exact piec2_1 ht hf s1 s2 s3 s4 n h1 h2 hcl hK
 | some p =>
 rw [e2] at s4 hK
 have hp':=oMul_qv hd k1 e2
 have s5:=ratadd_tot [] hx hp'
 rw [add_av x p] at s5
 rw [Option.bind_some] at hK
 cases e3 : oAdd x p with
 | none => rw [e3] at s5 hK; exact piec2_2 ht hf s1 s2 s3 s4 s5 n h1 h2 hcl hK
 | some q =>
 rw [e3] at s5 hK
 have hq:=oAdd_qv hx hp' e3
 have s6:=ratmul_tot [] hd k2
 rw [mul_av d (tq im)] at s6
 rw [Option.bind_some] at hK
 cases e4 : oMul d (tq im) with
 | none => rw [e4] at s6 hK; exact piec2_3 ht hf s1 s2 s3 s4 s5 s6 n h1 h2 hcl hK
 | some r =>
 rw [e4] at s6 hK
 have hr:=oMul_qv hd k2 e4
 have s7:=(exact_tot hq).1
 have s8:=(exact_tot hr).1
 rw [Option.bind_some] at hK
 cases e5 : oEx q with
 | none => rw [e5] at s7 hK; exact piec2_4 ht hf s1 s2 s3 s4 s5 s6 s7 n h1 h2 hcl hK
 | some a =>
 rw [e5] at s7 hK
 rw [Option.bind_some] at hK
 rw [bAV_ex e5] at s7
 cases e6 : oEx r with
 | none => rw [e6] at s8 hK; exact piec2_5 ht hf s1 s2 s3 s4 s5 s6 s7 s8 n h1 h2 hcl hK
 | some b =>
  rw [e6] at s8 hK
  rw [bAV_ex e6] at s8
  exact piec2_ok ht hf s1 s2 s3 s4 s5 s6 s7 s8 n h1 h2 hcl hK
end
end Ab
