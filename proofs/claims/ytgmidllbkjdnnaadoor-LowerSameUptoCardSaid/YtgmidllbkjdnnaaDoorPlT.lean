/- The same, the other way round. -/
import Derived.Test.YtgmidllbkjdnnaaDoorPlR
namespace Go.Proofs.YtgmidllbkjdnnaaDoor.W
open Go.Proofs.YtgmidllbkjdnnaaDoor.Flat
set_option linter.unusedVariables false
set_option linter.unusedSimpArgs false
theorem zen {α:Type _} {f g:α→α→Bool}:∀{a b:List α},(∀x∈a,∀y∈b,f x y=g y x)→eqL f a b=eqL g b a
 | [],[],_=>rfl
 | [],_::_,_=>rfl
 | _::_,[],_=>rfl
 | x::xs,y::ys,h=>by
  rw[eqL,eqL,h x (List.mem_cons_self ..) y (List.mem_cons_self ..),zen fun z hz w hw=>h z (List.mem_cons_of_mem _ hz) w (List.mem_cons_of_mem _ hw)]
theorem zhY {α:Type _} [BEq α] [LawfulBEq α] (x y:α):(x==y)=(y==x):=by
 rw[Bool.eq_iff_iff,beq_iff_eq,beq_iff_eq]
 exact⟨Eq.symm,Eq.symm⟩
theorem zoK (a b:zh):(cmp a b==0)=(cmp b a==0):=by
 have:=zfA 12 a b
 rw[Bool.eq_iff_iff,beq_iff_eq,beq_iff_eq]
 unfold cmp
 omega
theorem zl2:∀(f:Nat) (a b:GPred),sameP f a b=sameP f b a
 | 0,_,_=>rfl
 | f+1,.mk k v p,.mk k' v' p'=>by
  rw[sameP,sameP,zhY k k',zen fun x _ y _=>zoK x y,zen fun x _ y _=>zl2 f x y]
end Go.Proofs.YtgmidllbkjdnnaaDoor.W
