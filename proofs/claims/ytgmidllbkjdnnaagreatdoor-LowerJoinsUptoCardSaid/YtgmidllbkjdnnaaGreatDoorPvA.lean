/- What holds from some point on; numbers; lists. -/
import Derived.Test.YtgmidllbkjdnnaaGreatDoorL5T
namespace Go.Proofs.YtgmidllbkjdnnaaGreatDoor.W
open Go.Proofs.YtgmidllbkjdnnaaGreatDoor.Flat
set_option linter.unusedVariables false
set_option linter.unusedSimpArgs false
def Ev (p:Nat→Prop):Prop:=∃N,∀n,N≤n→p n
theorem Ev.mono {p q:Nat→Prop} (h:Ev p) (f:∀n,p n→q n):Ev q:=by
 obtain⟨N,h⟩:=h
 exact⟨N,fun n hn=>f n (h n hn)⟩
theorem Ev.and {p q:Nat→Prop} (h:Ev p) (g:Ev q):Ev fun n=>p n∧q n:=by
 obtain⟨N,h⟩:=h
 obtain⟨M,g⟩:=g
 exact⟨max N M,fun n hn=>⟨h n (by omega),g n (by omega)⟩⟩
theorem Ev.ge (m:Nat):Ev fun n=>m≤n:=⟨m,fun _ h=>h⟩
theorem Ev.pure {p:Nat→Prop} (h:∀n,p n):Ev p:=⟨0,fun n _=>h n⟩
theorem Ev.step {p:Nat→Prop} (h:Ev fun n=>p (n+1)):Ev p:=by
 obtain⟨N,h⟩:=h
 refine⟨N+1,fun n hn=> ?_⟩
 obtain⟨m,rfl⟩:∃m,n=m+1:=⟨n-1,by omega⟩
 exact h m (by omega)
theorem Ev.all {α:Type _} {p:α→Nat→Prop}:∀(l:List α),(∀x∈l,Ev (p x))→Ev fun n=>∀x∈l,p x n
 | [],_=>⟨0,fun n _ x hx=>absurd hx (by simp)⟩
 | y::ys,h=>by
  have h1:=h y (by simp)
  have h2:=Ev.all ys fun x hx=>h x (by simp[hx])
  refine(h1.and h2).mono fun n hh x hx=> ?_
  rcases List.mem_cons.1 hx with rfl | hx
  ·exact hh.1
  ·exact hh.2 x hx
theorem Ev.all2 {α:Type _} {β:Type _} {p:α→β→Nat→Prop} (l:List α) (m:List β) (h:∀x∈l,∀y∈m,Ev (p x y)):Ev fun n=>∀x∈l,∀y∈m,p x y n:=
 Ev.all (p:=fun x n=>∀y∈m,p x y n) l fun x hx=>Ev.all m fun y hy=>h x hx y hy
theorem Ev.out {p:Nat→Prop} (h:Ev p):∃n,p n:=by
 obtain⟨N,h⟩:=h
 exact⟨N,h N (Nat.le_refl _)⟩
theorem wr {x:Int} (h1:-9223372036854775808≤x) (h2:x < 9223372036854775808):IntKind.wrap .i64 x=x:=by
 rw[IntKind.wrap_i64]
 omega
theorem wr1 {i L:Nat} (h:i < L) (hL:L≤140737488355328):IntKind.wrap .i64 ((i:Int)+1)=((i+1:Nat):Int):=by
 rw[wr (by omega) (by omega)]
 rfl
theorem at_ {α:Type _} {l:List α} {i:Nat} (h:i < l.length):∃x,l[i]?=some x∧x∈l∧l.drop i=x::l.drop (i+1):=
 ⟨l[i],by simp[h],by simp,by rw[List.drop_eq_getElem_cons h]⟩
def allN (ok:Nat→Bool):Nat→Nat→Bool
 | 0,_=>true
 | d+1,i=>ok i&&allN ok d (i+1)
theorem zh4 {ok:Nat→Bool}:∀(d i:Nat),allN ok d i=true↔∀j,i≤j→j < i+d→ok j=true
 | 0,i=>⟨fun _ j h1 h2=>by omega,fun _=>rfl⟩
 | d+1,i=>by
  rw[allN,Bool.and_eq_true,zh4 d (i+1)]
  constructor
  ·intro ⟨h1,h2⟩ j h3 h4
   rcases Nat.eq_or_lt_of_le h3 with rfl | h5
   ·exact h1
   ·exact h2 j h5 (by omega)
  ·intro h
   exact⟨h i (Nat.le_refl _) (by omega),fun j h1 h2=>h j (by omega) (by omega)⟩
end Go.Proofs.YtgmidllbkjdnnaaGreatDoor.W
