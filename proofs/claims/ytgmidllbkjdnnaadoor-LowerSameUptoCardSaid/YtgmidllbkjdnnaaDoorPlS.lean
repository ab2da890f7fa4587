/- Are two plans the same? -/
import Derived.Test.YtgmidllbkjdnnaaDoorPlF
namespace Go.Proofs.YtgmidllbkjdnnaaDoor.W
open Go.Proofs.YtgmidllbkjdnnaaDoor.Flat
set_option linter.unusedVariables false
set_option linter.unusedSimpArgs false
theorem zl0 (a:zh):cmp a a=0:=by
 have:=zfA 12 a a
 unfold cmp
 omega
def sameP:Nat→GPred→GPred→Bool
 | 0,_,_=>true
 | f+1,.mk k v p,.mk k' v' p'=>k==k'&&eqL (fun x y=>cmp x y==0) v v'&&eqL (sameP f) p p'
def sameB (R:List GStep→List GStep→Bool):GBy→GBy→Bool
 | .mk k s t d,.mk k' s' t' d'=>k==k'&&s.toList==s'.toList&&d==d'&&R t t'
def sameS (R:List GStep→List GStep→Bool):GStep→GStep→Bool
 | .mk op S N V P Ts By As,.mk op' S' N' V' P' Ts' By' As'=>op==op'&&eqL (fun x y=>x.toList==y.toList) S S'&&eqL (fun x y=>x==y) N N'&&eqL (fun x y=>x.toList==y.toList) As As'&&cmp V V'==0&&sameP 2097152 P P'&&eqL R Ts Ts'&&eqL (sameB R) By By'
def sameL:Nat→List GStep→List GStep→Bool
 | 0,a,b=>eqL (fun _ _=>true) a b
 | f+1,a,b=>eqL (sameS (sameL f)) a b
def zmJ (a b:List GStep):Bool:=sameL 2097152 a b
theorem zem {α:Type _} {f:α→α→Bool}:∀{a:List α},(∀x∈a,f x x=true)→eqL f a a=true
 | [],_=>rfl
 | x::xs,h=>by rw[eqL,h x (List.mem_cons_self ..),zem fun y hy=>h y (List.mem_cons_of_mem _ hy)];rfl
theorem zjM:∀(f:Nat) (a:GPred),sameP f a a=true
 | 0,_=>rfl
 | f+1,.mk k v p=>by
  rw[sameP,zem (fun x _=>by rw[zl0];rfl),zem (fun x _=>zjM f x)]
  simp
end Go.Proofs.YtgmidllbkjdnnaaDoor.W
