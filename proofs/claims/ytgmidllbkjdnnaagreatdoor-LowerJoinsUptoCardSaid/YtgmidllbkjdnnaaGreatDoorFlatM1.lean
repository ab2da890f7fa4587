/- The functions of a program over trees of data: the words, and how a frame stands for memory. -/
import Derived.Deep.AppendSrc
import Derived.Below
import Derived.WalkKit
import Derived.KernelRfl
import Derived.Laws.StructEq
namespace Go.Proofs.YtgmidllbkjdnnaaGreatDoor.Flat
set_option linter.unusedVariables false
set_option linter.unusedSimpArgs false
set_option linter.unusedSectionVars false
inductive T where
 | v (x:Value)
 | st (fs:List T)
 | sl (own:Bool) (sz:Nat) (xs:List T)
 | xl (sz:Nat) (xs:List T)
 | op
instance:Inhabited T:=⟨.st []⟩
class Glob where
 gl:Nat→Option T
def okv:Value→Bool
 | .int _ _ | .bool _ | .string _ | .nilFunc=>true
 | _=>false
mutual
def T.size:T→Nat
 | .v _=>1
 | .st fs=>sizes fs
 | .sl _ _ _=>1
 | .xl _ _=>1
 | .op=>1
def sizes:List T→Nat
 | []=>0
 | f::fs=>f.size+sizes fs
end
mutual
def T.sh:T→T
 | .v x=>.v x
 | .st fs=>.st (shs fs)
 | .sl _ sz xs=>.sl false sz xs
 | .xl _ _=>.op
 | .op=>.op
def shs:List T→List T
 | []=>[]
 | f::fs=>f.sh::shs fs
end
mutual
theorem T.ze8:∀x:T,x.sh.size=x.size
 | .v _=>rfl
 | .st fs=>by simp only[T.sh,T.size];exact zkD fs
 | .sl _ _ _=>rfl
 | .xl _ _=>rfl
 | .op=>rfl
theorem zkD:∀fs:List T,sizes (shs fs)=sizes fs
 | []=>rfl
 | f::fs=>by simp only[shs,sizes];rw[T.ze8 f,zkD fs]
end
mutual
def Rep (w:World) (E:Nat→Nat):T→List Value→List Nat→Prop
 | .v x,cs,B=>cs=[x]∧okv x=true∧B=[]
 | .st fs,cs,B=>RepS w E fs cs B
 | .sl own sz xs,cs,B=>∃A c,cs=[.slice A xs.length c]∧xs.length≤c∧0 < sz∧
   match A with
   | none=>xs=[]∧c=0∧B=[]
   | some ad=>RepA w E sz ad 0 xs∧∃tk:Bool,((tk=true→own=true)∧(own=true→tk=false→c=xs.length))∧B=(if tk=true then [ad.block]else [])∧
     (tk=true→ad.spot=none∧E ad.block=ad.off+xs.length * sz∧∃cells ty,w.heap[ad.block]?=some (.cells cells ty (0,0))∧ad.off+c * sz≤cells.size∧c≤9223372036854775807)
 | .xl sz xs,cs,B=>∃A c,cs=[.slice A xs.length c]∧xs.length≤c∧0 < sz∧((xs=[]∧c=0∧B=[])∨∃ad B',A=some ad∧ad.spot=none∧B=ad.block::B'∧E ad.block=ad.off∧
   (∃cells ty,w.heap[ad.block]?=some (.cells cells ty (0,0))∧ad.off+c * sz≤cells.size∧c≤9223372036854775807)∧RepX w E sz ad.block ad.off xs B')
 | .op,cs,B=>(∃A n c,cs=[.slice A n c])∧B=[]
def RepS (w:World) (E:Nat→Nat):List T→List Value→List Nat→Prop
 | [],cs,B=>cs=[]∧B=[]
 | f::fs,cs,B=>∃c1 c2 B1 B2,cs=c1++c2∧B=B1++B2∧Rep w E f c1 B1∧RepS w E fs c2 B2
def RepA (w:World) (E:Nat→Nat) (sz:Nat) (ad:Addr):Nat→List T→Prop
 | _,[]=>True
 | o,x::xs=>(ad.off+o+sz≤E ad.block∧∃cs,cs.length=sz∧(∀j u,cs[j]?=some u→w.cell? (ad.add (o+j))=some u)∧Rep w E x cs [])∧RepA w E sz ad (o+sz) xs
def RepX (w:World) (E:Nat→Nat) (sz k:Nat):Nat→List T→List Nat→Prop
 | _,[],B=>B=[]
 | o,x::xs,B=>∃cs B1 B2,B=B1++B2∧cs.length=sz∧(∀j u,cs[j]?=some u→w.cell? ⟨k,o+j,none⟩=some u)∧Rep w E x cs B1∧RepX w E sz k (o+sz) xs B2
end
mutual
theorem Rep.len {w:World} {E:Nat→Nat}:∀{x:T} {cs:List Value} {B:List Nat},Rep w E x cs B→cs.length=x.size
 | .v _,cs,B,h=>by rw[Rep]at h;rw[h.1];rfl
 | .st fs,cs,B,h=>by rw[Rep]at h;exact RepS.len h
 | .sl _ _ _,cs,B,h=>by rw[Rep]at h;obtain⟨A,c,e,_⟩:=h;rw[e];rfl
 | .xl _ _,cs,B,h=>by rw[Rep]at h;obtain⟨A,c,e,_⟩:=h;rw[e];rfl
 | .op,cs,B,h=>by rw[Rep]at h;obtain⟨⟨A,n,c,e⟩,_⟩:=h;rw[e];rfl
theorem RepS.len {w:World} {E:Nat→Nat}:∀{fs:List T} {cs:List Value} {B:List Nat},RepS w E fs cs B→cs.length=sizes fs
 | [],cs,B,h=>by rw[RepS]at h;rw[h.1];rfl
 | f::fs,cs,B,h=>by
  rw[RepS]at h
  obtain⟨c1,c2,B1,B2,e,_,h1,h2⟩:=h
  rw[e,List.length_append,Rep.len h1,RepS.len h2]
  rfl
end
mutual
theorem Rep.one {w:World} {E:Nat→Nat}:∀{x:T} {cs:List Value} {B:List Nat},Rep w E x cs B→∀u∈cs,u.oneCell'=true
 | .v x,cs,B,h=>by
  rw[Rep]at h
  obtain⟨rfl,h2,_⟩:=h
  intro u hu
  rw[List.mem_singleton.1 hu]
  cases x<;>first | rfl | cases h2
 | .st fs,cs,B,h=>by rw[Rep]at h;exact RepS.one h
 | .sl _ _ _,cs,B,h=>by
  rw[Rep]at h
  obtain⟨A,c,rfl,_⟩:=h
  intro u hu
  rw[List.mem_singleton.1 hu]
  rfl
 | .xl _ _,cs,B,h=>by
  rw[Rep]at h
  obtain⟨A,c,rfl,_⟩:=h
  intro u hu
  rw[List.mem_singleton.1 hu]
  rfl
 | .op,cs,B,h=>by
  rw[Rep]at h
  obtain⟨⟨A,n,c,rfl⟩,_⟩:=h
  intro u hu
  rw[List.mem_singleton.1 hu]
  rfl
theorem RepS.one {w:World} {E:Nat→Nat}:∀{fs:List T} {cs:List Value} {B:List Nat},RepS w E fs cs B→∀u∈cs,u.oneCell'=true
 | [],cs,B,h=>by rw[RepS]at h;rw[h.1];intro u hu;cases hu
 | f::fs,cs,B,h=>by
  rw[RepS]at h
  obtain⟨c1,c2,B1,B2,rfl,_,h1,h2⟩:=h
  intro u hu
  rcases List.mem_append.1 hu with hu | hu
  ·exact Rep.one h1 u hu
  ·exact RepS.one h2 u hu
end
structure Mv (w:World) (E:Nat→Nat) (w':World) (E':Nat→Nat) (B:List Nat):Prop where
 pub:∀k i,i < E k→i < E' k∧w'.cell? ⟨k,i,none⟩=w.cell? ⟨k,i,none⟩
 tok:∀k∈B,E' k=E k∧w'.heap[k]?=w.heap[k]?
theorem Mv.sub {w:World} {E:Nat→Nat} {w':World} {E':Nat→Nat} {B B':List Nat} (h:Mv w E w' E' B) (hs:∀k∈B',k∈B):Mv w E w' E' B':=
 ⟨h.pub,fun k hk=>h.tok k (hs k hk)⟩
theorem Mv.refl (w:World) (E:Nat→Nat) (B:List Nat):Mv w E w E B:=⟨fun _ _ h=>⟨h,rfl⟩,fun _ _=>⟨rfl,rfl⟩⟩
theorem cell_spot {w:World} {a:Addr} {u:Value} (h:w.cell? a=some u):a.spot=none:=by
 unfold World.cell? at h
 cases hs:a.spot with
 | none=>rfl
 | some s=>
  split at h
  ·rw[hs]at h;simp at h
  ·cases h
theorem Mv.cell {w:World} {E:Nat→Nat} {w':World} {E':Nat→Nat} {B:List Nat} (h:Mv w E w' E' B) {a:Addr} {u:Value} (hc:w.cell? a=some u) (hlt:a.off < E a.block):w'.cell? a=some u:=by
 have hs:=cell_spot hc
 obtain⟨k,i,s⟩:=a
 dsimp only at hs hlt
 subst hs
 rw[(h.pub k i hlt).2,hc]
theorem add_block (a:Addr) (n:Nat):(a.add n).block=a.block:=by unfold Addr.add;split<;>rfl
theorem zgb (a:Addr) (n:Nat):(a.add n).off=a.off+n:=by
 unfold Addr.add
 split
 ·rename_i h;rw[h];rfl
 ·rfl
mutual
theorem Rep.mv {w:World} {E:Nat→Nat} {w':World} {E':Nat→Nat}:∀{x:T} {cs:List Value} {B:List Nat},Mv w E w' E' B→Rep w E x cs B→Rep w' E' x cs B
 | .v x,cs,B,hm,h=>by rw[Rep]at h⊢;exact h
 | .st fs,cs,B,hm,h=>by rw[Rep]at h⊢;exact RepS.mv hm h
 | .sl own sz xs,cs,B,hm,h=>by
  rw[Rep]at h⊢
  obtain⟨A,c,e,hl,hz,h⟩:=h
  refine⟨A,c,e,hl,hz, ?_⟩
  cases A with
  | none=>exact h
  | some ad=>
   obtain⟨h1,tk,htk,h2,h3⟩:=h
   refine⟨RepA.mv (hm.sub (B':=[]) (by simp)) h1,tk,htk,h2,fun ho=> ?_⟩
   obtain⟨hs,he,cells,ty,hc,hsz⟩:=h3 ho
   have hb:ad.block∈B:=by rw[h2,if_pos ho];exact List.mem_singleton.2 rfl
   obtain⟨t1,t2⟩:=hm.tok _ hb
   exact⟨hs,by rw[t1];exact he,cells,ty,by rw[t2];exact hc,hsz⟩
 | .xl sz xs,cs,B,hm,h=>by
  rw[Rep]at h⊢
  obtain⟨A,c,e,hl,hz,h⟩:=h
  refine⟨A,c,e,hl,hz, ?_⟩
  rcases h with h | ⟨ad,B',ha,hp,hB,hE,⟨cells,ty,hc,hs⟩,hx⟩
  ·exact .inl h
  obtain⟨t1,t2⟩:=hm.tok ad.block (by rw[hB];exact List.mem_cons_self ..)
  exact .inr ⟨ad,B',ha,hp,hB,by rw[t1];exact hE,⟨cells,ty,by rw[t2];exact hc,hs⟩,RepX.mv (hm.sub (by rw[hB];exact fun k hk=>List.mem_cons_of_mem _ hk)) t2 hx⟩
 | .op,cs,B,hm,h=>by rw[Rep]at h⊢;exact h
theorem RepS.mv {w:World} {E:Nat→Nat} {w':World} {E':Nat→Nat}:∀{fs:List T} {cs:List Value} {B:List Nat},Mv w E w' E' B→RepS w E fs cs B→RepS w' E' fs cs B
 | [],cs,B,hm,h=>by rw[RepS]at h⊢;exact h
 | f::fs,cs,B,hm,h=>by
  rw[RepS]at h⊢
  obtain⟨c1,c2,B1,B2,e,eb,h1,h2⟩:=h
  exact⟨c1,c2,B1,B2,e,eb,Rep.mv (hm.sub (by rw[eb];exact fun k hk=>List.mem_append_left _ hk)) h1,RepS.mv (hm.sub (by rw[eb];exact fun k hk=>List.mem_append_right _ hk)) h2⟩
theorem RepA.mv {w:World} {E:Nat→Nat} {w':World} {E':Nat→Nat} {sz:Nat} {ad:Addr}:∀{xs:List T} {o:Nat},Mv w E w' E' []→RepA w E sz ad o xs→RepA w' E' sz ad o xs
 | [],o,hm,h=>by rw[RepA];trivial
 | x::xs,o,hm,h=>by
  rw[RepA]at h⊢
  obtain⟨⟨he,cs,hl,hc,hr⟩,h2⟩:=h
  refine⟨⟨?_,cs,hl,fun j u hj=> ?_,Rep.mv hm hr⟩,RepA.mv hm h2⟩
  ·by_cases hz:sz=0
   ·subst hz
    by_cases ho:ad.off+o=0
    ·omega
    ·have:=(hm.pub ad.block (ad.off+o-1) (by omega)).1;omega
   ·have:=(hm.pub ad.block (ad.off+o+sz-1) (by omega)).1;omega
  ·have hj2:=(List.getElem?_eq_some_iff.1 hj).1
   exact hm.cell (hc j u hj) (by rw[add_block,zgb];omega)
theorem RepX.mv {w:World} {E:Nat→Nat} {w':World} {E':Nat→Nat} {sz k:Nat}:∀{xs:List T} {o:Nat} {B:List Nat},Mv w E w' E' B→w'.heap[k]?=w.heap[k]?→RepX w E sz k o xs B→RepX w' E' sz k o xs B
 | [],o,B,hm,hk,h=>by rw[RepX]at h⊢;exact h
 | x::xs,o,B,hm,hk,h=>by
  rw[RepX]at h⊢
  obtain⟨cs,B1,B2,eb,hl,hc,h1,h2⟩:=h
  refine⟨cs,B1,B2,eb,hl,fun j u hj=> ?_,Rep.mv (hm.sub (by rw[eb];exact fun k hk=>List.mem_append_left _ hk)) h1,RepX.mv (hm.sub (by rw[eb];exact fun k hk=>List.mem_append_right _ hk)) hk h2⟩
  rw[←hc j u hj]
  unfold World.cell?
  dsimp only
  rw[hk]
end
mutual
theorem Rep.sh {w:World} {E:Nat→Nat}:∀{x:T} {cs:List Value} {B:List Nat},Rep w E x cs B→Rep w E x.sh cs []
 | .v x,cs,B,h=>by rw[Rep]at h;rw[T.sh,Rep];exact⟨h.1,h.2.1,rfl⟩
 | .st fs,cs,B,h=>by rw[Rep]at h;rw[T.sh,Rep];exact RepS.sh h
 | .sl own sz xs,cs,B,h=>by
  rw[Rep]at h
  rw[T.sh,Rep]
  obtain⟨A,c,e,hl,hz,h⟩:=h
  refine⟨A,c,e,hl,hz, ?_⟩
  cases A with
  | none=>exact⟨h.1,h.2.1,rfl⟩
  | some ad=>exact⟨h.1,false,⟨fun h=>(by cases h),fun h=>(by cases h)⟩,rfl,fun h=>by cases h⟩
 | .xl sz xs,cs,B,h=>by
  rw[Rep]at h
  rw[T.sh,Rep]
  obtain⟨A,c,e,_⟩:=h
  exact⟨⟨_,_,_,e⟩,rfl⟩
 | .op,cs,B,h=>by rw[Rep]at h;rw[T.sh,Rep];exact⟨h.1,rfl⟩
theorem RepS.sh {w:World} {E:Nat→Nat}:∀{fs:List T} {cs:List Value} {B:List Nat},RepS w E fs cs B→RepS w E (shs fs) cs []
 | [],cs,B,h=>by rw[RepS]at h;rw[shs,RepS];exact⟨h.1,rfl⟩
 | f::fs,cs,B,h=>by
  rw[RepS]at h
  rw[shs,RepS]
  obtain⟨c1,c2,B1,B2,e,eb,h1,h2⟩:=h
  exact⟨c1,c2,[],[],e,rfl,Rep.sh h1,RepS.sh h2⟩
end
def GlOk [Glob] (w:World) (Ba M:List Nat):Prop:=∀g x,Glob.gl g=some x→(g < w.heap.size∧g∉Ba∧g∉M)∧∃cs,(∀w' E',Rep w' E' x cs [])∧∀j u,cs[j]?=some u→w.cell? ⟨g,j,none⟩=some u
end Go.Proofs.YtgmidllbkjdnnaaGreatDoor.Flat
namespace Go.Proofs.YtgmidllbkjdnnaaGreatDoor.Flat
set_option linter.unusedVariables false
set_option linter.unusedSimpArgs false
set_option linter.unusedSectionVars false
variable [Glob]
inductive Loc where
 | tm (i:Nat)
 | bx (i:Nat)
deriving DecidableEq
inductive AV where
 | t (x:T)
 | tup (xs:List T)
 | ptr (b g:Nat) (p:List Nat) (o:Nat)
 | ref (x:T)
 | fref (f:FuncId) (caps:List AV)
 | fn (f:FuncId) (caps:List AV)
 | io (x:AV)
 | xr (k:Bool) (l:Loc) (p:List Nat) (n:Nat)
 | un
 | nd
instance:Inhabited AV:=⟨.un⟩
structure Cell where
 val:AV
 og:Option (Loc × List Nat × Nat)
 ver:Nat
 gen:Nat
instance:Inhabited Cell:=⟨⟨.un,none,0,0⟩⟩
structure St where
 tm:List Cell
 bx:List Cell
def St.get (s:St):Loc→Option Cell
 | .tm i=>s.tm[i]?
 | .bx i=>s.bx[i]?
def St.put (s:St):Loc→Cell→St
 | .tm i,c=>{s with tm:=s.tm.set i c}
 | .bx i,c=>{s with bx:=s.bx.set i c}
structure Ent where
 w:World
 E:Nat→Nat
 Ba:List Nat
 M:List Nat
 fx:Nat→Option Nat
 gok:GlOk w Ba M
def Ent.F (e:Ent) (k:Nat):Prop:=k < e.w.heap.size∧k∉e.Ba∧k∉e.M
structure Bm where
 m:Nat→Nat→Nat
 G:Nat→Nat
instance:CoeFun Bm fun _=>Nat→Nat→Nat:=⟨Bm.m⟩
def valOf:T→List Value→Value
 | .st _,cs=>.agg cs.toArray
 | _,cs=>cs.headD undef
def RepT (w:World) (E:Nat→Nat) (x:T) (v:Value) (B:List Nat):Prop:=∃cs,Rep w E x cs B∧v=valOf x cs
def RepTs (w:World) (E:Nat→Nat):List T→List Value→List Nat→Prop
 | [],vs,B=>vs=[]∧B=[]
 | x::xs,vs,B=>∃v vr B1 B2,vs=v::vr∧B=B1++B2∧RepT w E x v B1∧RepTs w E xs vr B2
def Stable (E:Nat→Nat) (F:Nat→Prop) (ad:Addr) (n:Nat):Prop:=ad.off+n≤E ad.block∨F ad.block
def zfU (w:World) (E:Nat→Nat) (F:Nat→Prop) (x:T) (ad:Addr):Prop:=
 ∃cs,Rep w E x cs []∧Stable E F ad cs.length∧∀j u,cs[j]?=some u→w.cell? (ad.add j)=some u
mutual
def RepV (w:World) (E:Nat→Nat) (F:Nat→Prop) (β:Bm):AV→Value→List Nat→Prop
 | .t x,v,B=>RepT w E x v B
 | .tup xs,v,B=>∃vs,v=.tuple vs.toArray∧RepTs w E xs vs B
 | .ptr b g p o,v,B=>v=.pointer (some ⟨β b g,o,none⟩)∧B=[]∧g≤β.G b
 | .ref x,v,B=>B=[]∧∃ad,v=.pointer (some ad)∧zfU w E F x ad
 | .fref f caps,v,B=>B=[]∧∃ad cv,v=.pointer (some ad)∧Stable E F ad 1∧w.cell? ad=some (.func (.func f) #[] cv.toArray)∧RepVs w E F β caps cv
 | .fn f caps,v,B=>B=[]∧∃cv,v=.func (.func f) #[] cv.toArray∧RepVs w E F β caps cv
 | .io _,v,B=>False
 | .xr _ _ _ _,v,B=>B=[]
 | .un,v,B=>B=[]
 | .nd,v,B=>v=undef∧B=[]
def RepVs (w:World) (E:Nat→Nat) (F:Nat→Prop) (β:Bm):List AV→List Value→Prop
 | [],vs=>vs=[]
 | x::xs,vs=>∃v vr,vs=v::vr∧RepV w E F β x v []∧RepVs w E F β xs vr
end
def RepC (w:World) (E:Nat→Nat) (F:Nat→Prop) (β:Bm):AV→List Value→List Nat→Prop
 | .t x,cs,B=>Rep w E x cs B
 | .fn f caps,cs,B=>∃v,cs=[v]∧RepV w E F β (.fn f caps) v B
 | _,_,_=>False
structure Fr (w:World) (E:Nat→Nat) (w':World) (E':Nat→Nat) (Ba M:List Nat):Prop where
 size:w.heap.size≤w'.heap.size
 same:∀k,k < w.heap.size→k∉Ba→k∉M→w'.heap[k]?=w.heap[k]?∧E' k=E k
 ba:∀k∈Ba,k < w.heap.size→E k≤E' k∧(∀i,i < E k→w'.cell? ⟨k,i,none⟩=w.cell? ⟨k,i,none⟩)∧∀cells ty,w.heap[k]?=some (.cells cells ty (0,0))→∃cells',w'.heap[k]?=some (.cells cells' ty (0,0))∧cells'.size=cells.size
 m:∀k∈M,k < w.heap.size→k∉Ba→E k=0→E' k=0∧∀cells ty,w.heap[k]?=some (.cells cells ty (0,0))→∃cells',w'.heap[k]?=some (.cells cells' ty (0,0))∧cells'.size=cells.size
 ext:w'.os=w.os∧w'.tape=w.tape∧w'.output=w.output
theorem zeP {w w':World} {k i:Nat} (h:w'.heap[k]?=w.heap[k]?):w'.cell? ⟨k,i,none⟩=w.cell? ⟨k,i,none⟩:=by
 unfold World.cell?
 dsimp only
 rw[h]
theorem Fr.refl (w:World) (E:Nat→Nat) (Ba M:List Nat):Fr w E w E Ba M:=
 ⟨Nat.le_refl _,fun _ _ _ _=>⟨rfl,rfl⟩,fun _ _ _=>⟨Nat.le_refl _,fun _ _=>rfl,fun cells ty h=>⟨cells,h,rfl⟩⟩,fun _ _ _ _ h=>⟨h,fun cells ty h=>⟨cells,h,rfl⟩⟩,rfl,rfl,rfl⟩
theorem Fr.mv {w:World} {E:Nat→Nat} {w':World} {E':Nat→Nat} {Ba M B:List Nat} (h:Fr w E w' E' Ba M) (hz:∀k,w.heap.size≤k→E k=0) (hM:∀k∈M,E k=0) (hB:∀k∈B,k < w.heap.size∧k∉Ba∧k∉M):Mv w E w' E' B:=by
 refine⟨fun k i hi=> ?_,fun k hk=> ?_⟩
 ·have hk:k < w.heap.size:=by
   apply Nat.lt_of_not_le
   intro hle
   have:=hz k hle
   omega
  by_cases h1:k∈Ba
  ·obtain⟨a,b,_⟩:=h.ba k h1 hk
   exact⟨by omega,b i hi⟩
  ·have h2:k∉M:=fun h2=>by have:=hM k h2;omega
   obtain⟨a,b⟩:=h.same k hk h1 h2
   exact⟨by omega,zeP a⟩
 ·obtain⟨h1,h2,h3⟩:=hB k hk
  obtain⟨a,b⟩:=h.same k h1 h2 h3
  exact⟨b,a⟩
structure Pres (w:World) (E:Nat→Nat) (w':World) (E':Nat→Nat) (F:Nat→Prop) (B:List Nat):Prop extends Mv w E w' E' B where
 far:∀k,F k→w'.heap[k]?=w.heap[k]?
theorem Pres.sub {w:World} {E:Nat→Nat} {w':World} {E':Nat→Nat} {F:Nat→Prop} {B B':List Nat} (h:Pres w E w' E' F B) (hs:∀k∈B',k∈B):Pres w E w' E' F B':=⟨h.toMv.sub hs,h.far⟩
theorem RepT.mv {w:World} {E:Nat→Nat} {w':World} {E':Nat→Nat} {x:T} {v:Value} {B:List Nat} (hm:Mv w E w' E' B) (h:RepT w E x v B):RepT w' E' x v B:=by
 obtain⟨cs,h1,h2⟩:=h
 exact⟨cs,Rep.mv hm h1,h2⟩
theorem RepTs.mv {w:World} {E:Nat→Nat} {w':World} {E':Nat→Nat}:∀{xs:List T} {vs:List Value} {B:List Nat},Mv w E w' E' B→RepTs w E xs vs B→RepTs w' E' xs vs B
 | [],vs,B,hm,h=>h
 | x::xs,vs,B,hm,h=>by
  obtain⟨v,vr,B1,B2,e,eb,h1,h2⟩:=h
  exact⟨v,vr,B1,B2,e,eb,RepT.mv (hm.sub (by rw[eb];exact fun k hk=>List.mem_append_left _ hk)) h1,RepTs.mv (hm.sub (by rw[eb];exact fun k hk=>List.mem_append_right _ hk)) h2⟩
theorem Stable.mv {w:World} {E:Nat→Nat} {w':World} {E':Nat→Nat} {F:Nat→Prop} {ad:Addr} {n:Nat} {B:List Nat} (hm:Mv w E w' E' B) (h:Stable E F ad n):Stable E' F ad n:=by
 rcases h with h | h
 ·left
  by_cases hz:ad.off+n=0
  ·omega
  ·have:=(hm.pub ad.block (ad.off+n-1) (by omega)).1
   omega
 ·exact .inr h
theorem Stable.cell {w:World} {E:Nat→Nat} {w':World} {E':Nat→Nat} {F:Nat→Prop} {ad:Addr} {n j:Nat} {B:List Nat} {u:Value} (hm:Pres w E w' E' F B) (h:Stable E F ad n) (hj:j < n) (hc:w.cell? (ad.add j)=some u):w'.cell? (ad.add j)=some u:=by
 rcases h with h | h
 ·exact hm.toMv.cell hc (by rw[add_block,zgb];omega)
 ·have hs:=cell_spot hc
  have e:ad.add j=⟨(ad.add j).block,(ad.add j).off,none⟩:=by cases hq:ad.add j;rw[hq]at hs;dsimp only at hs;rw[hs]
  rw[e]at hc⊢
  rw[zeP (w:=w) (hm.far _ (by rw[add_block];exact h))]
  exact hc
theorem zfU.mv {w:World} {E:Nat→Nat} {w':World} {E':Nat→Nat} {F:Nat→Prop} {x:T} {ad:Addr} {B:List Nat} (hm:Pres w E w' E' F B) (h:zfU w E F x ad):zfU w' E' F x ad:=by
 obtain⟨cs,h1,h2,h3⟩:=h
 exact⟨cs,Rep.mv (hm.toMv.sub (by simp)) h1,h2.mv hm.toMv,fun j u hj=>h2.cell hm (List.getElem?_eq_some_iff.1 hj).1 (h3 j u hj)⟩
mutual
theorem RepV.mv {w:World} {E:Nat→Nat} {w':World} {E':Nat→Nat} {F:Nat→Prop} {β:Bm}:∀{x:AV} {v:Value} {B:List Nat},Pres w E w' E' F B→RepV w E F β x v B→RepV w' E' F β x v B
 | .t x,v,B,hm,h=>by rw[RepV]at h⊢;exact RepT.mv hm.toMv h
 | .tup xs,v,B,hm,h=>by
  rw[RepV]at h⊢
  obtain⟨vs,e,h⟩:=h
  exact⟨vs,e,RepTs.mv hm.toMv h⟩
 | .ptr b g p o,v,B,hm,h=>by rw[RepV]at h⊢;exact h
 | .ref x,v,B,hm,h=>by
  rw[RepV]at h⊢
  obtain⟨hb,ad,e,h⟩:=h
  exact⟨hb,ad,e,zfU.mv hm h⟩
 | .fref f caps,v,B,hm,h=>by
  rw[RepV]at h⊢
  obtain⟨hb,ad,cv,e,hs,hc,h⟩:=h
  have hc':=hs.cell hm (j:=0) (by decide) (u:=.func (.func f) #[] cv.toArray) hc
  exact⟨hb,ad,cv,e,hs.mv hm.toMv,hc',RepVs.mv (hm.sub (B':=[]) (by simp)) h⟩
 | .fn f caps,v,B,hm,h=>by
  rw[RepV]at h⊢
  obtain⟨hb,cv,e,h⟩:=h
  exact⟨hb,cv,e,RepVs.mv (hm.sub (B':=[]) (by simp)) h⟩
 | .io _,v,B,hm,h=>by rw[RepV]at h;exact h.elim
 | .xr _ _ _ _,v,B,hm,h=>by rw[RepV]at h⊢;exact h
 | .un,v,B,hm,h=>by rw[RepV]at h⊢;exact h
 | .nd,v,B,hm,h=>by rw[RepV]at h⊢;exact h
theorem RepVs.mv {w:World} {E:Nat→Nat} {w':World} {E':Nat→Nat} {F:Nat→Prop} {β:Bm}:∀{xs:List AV} {vs:List Value},Pres w E w' E' F []→RepVs w E F β xs vs→RepVs w' E' F β xs vs
 | [],vs,hm,h=>by rw[RepVs]at h⊢;exact h
 | x::xs,vs,hm,h=>by
  rw[RepVs]at h⊢
  obtain⟨v,vr,e,h1,h2⟩:=h
  exact⟨v,vr,e,RepV.mv hm h1,RepVs.mv hm h2⟩
end
theorem RepC.mv {w:World} {E:Nat→Nat} {w':World} {E':Nat→Nat} {F:Nat→Prop} {β:Bm} {x:AV} {cs:List Value} {B:List Nat} (hm:Pres w E w' E' F B) (h:RepC w E F β x cs B):RepC w' E' F β x cs B:=by
 cases x with
 | t x=>exact Rep.mv hm.toMv h
 | fn f caps=>
  obtain⟨v,e,h⟩:=h
  exact⟨v,e,RepV.mv hm h⟩
 | _=>exact h
end Go.Proofs.YtgmidllbkjdnnaaGreatDoor.Flat
namespace Go.Proofs.YtgmidllbkjdnnaaGreatDoor.Flat
set_option linter.unusedVariables false
set_option linter.unusedSimpArgs false
set_option linter.unusedSectionVars false
variable [Glob]
theorem RepX.mvc {w:World} {E:Nat→Nat} {w':World} {E':Nat→Nat} {sz k:Nat}:∀{xs:List T} {o:Nat} {B:List Nat},Mv w E w' E' B→(∀j,o≤j→j < o+xs.length * sz→w'.cell? ⟨k,j,none⟩=w.cell? ⟨k,j,none⟩)→RepX w E sz k o xs B→RepX w' E' sz k o xs B
 | [],o,B,hm,hk,h=>by rw[RepX]at h⊢;exact h
 | x::xs,o,B,hm,hk,h=>by
  rw[RepX]at h⊢
  obtain⟨cs,B1,B2,eb,hl,hc,h1,h2⟩:=h
  have hlen:(x::xs).length * sz=xs.length * sz+sz:=by rw[List.length_cons,Nat.add_mul];omega
  refine⟨cs,B1,B2,eb,hl,fun j u hj=> ?_,Rep.mv (hm.sub (by rw[eb];exact fun k hk=>List.mem_append_left _ hk)) h1,RepX.mvc (hm.sub (by rw[eb];exact fun k hk=>List.mem_append_right _ hk)) (fun j h3 h4=>hk j (by omega) (by omega)) h2⟩
  have hj2:=(List.getElem?_eq_some_iff.1 hj).1
  rw[hk (o+j) (by omega) (by omega)]
  exact hc j u hj
theorem RepX.set {w:World} {E:Nat→Nat} {sz k:Nat}:∀{xs:List T} {o i:Nat} {y:T} {B:List Nat},RepX w E sz k o xs B→xs[i]?=some y→
  ∃cs B1 B2 B3,B=B1++B2++B3∧cs.length=sz∧(∀j u,cs[j]?=some u→w.cell? ⟨k,o+i * sz+j,none⟩=some u)∧Rep w E y cs B2∧
   ∀(w':World) (E':Nat→Nat) (y':T) (cs':List Value) (B2':List Nat),Mv w E w' E' (B1++B3)→(∀j,j < o+i * sz∨o+i * sz+sz≤j→w'.cell? ⟨k,j,none⟩=w.cell? ⟨k,j,none⟩)→
    cs'.length=sz→(∀j u,cs'[j]?=some u→w'.cell? ⟨k,o+i * sz+j,none⟩=some u)→Rep w' E' y' cs' B2'→RepX w' E' sz k o (xs.set i y') (B1++B2'++B3)
 | [],o,i,y,B,h,hi=>by cases hi
 | x::xs,o,0,y,B,h,hi=>by
  rw[RepX]at h
  obtain⟨cs,B1,B2,eb,hl,hc,h1,h2⟩:=h
  cases hi
  refine⟨cs,[],B1,B2,eb,hl,fun j u hj=>by rw[Nat.zero_mul,Nat.add_zero];exact hc j u hj,h1,fun w' E' y' cs' B2' hm hf hl' hc' hr=> ?_⟩
  show RepX w' E' sz k o (y'::xs) _
  rw[RepX]
  exact⟨cs',B2',B2,rfl,hl',fun j u hj=>by have:=hc' j u hj;rwa[Nat.zero_mul,Nat.add_zero]at this,hr,RepX.mvc hm (fun j h3 h4=>hf j (.inr (by omega))) h2⟩
 | x::xs,o,i+1,y,B,h,hi=>by
  rw[RepX]at h
  obtain⟨cs,C1,C2,eb,hl,hc,h1,h2⟩:=h
  obtain⟨ds,B1,B2,B3,e1,e2,e3,e4,e5⟩:=RepX.set h2 (show xs[i]?=some y from hi)
  have em:o+(i+1) * sz=o+sz+i * sz:=by rw[Nat.add_mul];omega
  refine⟨ds,C1++B1,B2,B3,by rw[eb,e1];simp[List.append_assoc],e2,fun j u hj=>by rw[em];exact e3 j u hj,e4,fun w' E' y' cs' B2' hm hf hl' hc' hr=> ?_⟩
  rw[em]at hf hc'
  show RepX w' E' sz k o (x::xs.set i y') _
  rw[RepX]
  refine⟨cs,C1,B1++B2'++B3,by simp[List.append_assoc],hl,fun j u hj=> ?_,Rep.mv (hm.sub (fun k hk=>by simp[hk])) h1,e5 w' E' y' cs' B2' (hm.sub (fun k hk=> ?_)) hf hl' hc' hr⟩
  ·have hj2:=(List.getElem?_eq_some_iff.1 hj).1
   rw[hf (o+j) (.inl (by omega))]
   exact hc j u hj
  ·rcases List.mem_append.1 hk with hk | hk<;>simp[hk]
theorem RepS.cut {w:World} {E:Nat→Nat}:∀{fs:List T} {f:Nat} {y:T} {cs:List Value} {B:List Nat},RepS w E fs cs B→fs[f]?=some y→
  ∃c1 c2 c3 B1 B2 B3,cs=c1++c2++c3∧B=B1++B2++B3∧c1.length=sizes (fs.take f)∧Rep w E y c2 B2∧
   ∀(w':World) (E':Nat→Nat) (y':T) (c2':List Value) (B2':List Nat),Mv w E w' E' (B1++B3)→Rep w' E' y' c2' B2'→RepS w' E' (fs.set f y') (c1++c2'++c3) (B1++B2'++B3)∧(y'.size=y.size→sizes (fs.set f y')=sizes fs)
 | [],f,y,cs,B,h,hf=>by cases hf
 | g::fs,0,y,cs,B,h,hf=>by
  rw[RepS]at h
  obtain⟨c1,c2,B1,B2,e1,e2,h1,h2⟩:=h
  cases hf
  refine⟨[],c1,c2,[],B1,B2,e1,e2,rfl,h1,fun w' E' y' c2' B2' hm hy=>⟨?_,fun hs=> ?_⟩⟩
  ·show RepS w' E' (y'::fs) _ _
   rw[RepS]
   exact⟨c2',c2,B2',B2,rfl,rfl,hy,RepS.mv hm h2⟩
  ·show sizes (y'::fs)=_
   rw[sizes,sizes,hs]
 | g::fs,f+1,y,cs,B,h,hf=>by
  rw[RepS]at h
  obtain⟨c1,c2,B1,B2,e1,e2,h1,h2⟩:=h
  obtain⟨d1,d2,d3,C1,C2,C3,k1,k2,k3,k4,k5⟩:=RepS.cut h2 (show fs[f]?=some y from hf)
  refine⟨c1++d1,d2,d3,B1++C1,C2,C3,by rw[e1,k1];simp,by rw[e2,k2];simp, ?_,k4,fun w' E' y' c2' B2' hm hy=> ?_⟩
  ·rw[List.length_append,Rep.len h1,k3,List.take_succ_cons,sizes]
  ·obtain⟨m1,m2⟩:=k5 w' E' y' c2' B2' (hm.sub (fun k hk=>by rcases List.mem_append.1 hk with hk | hk<;>simp[hk])) hy
   refine⟨?_,fun hs=> ?_⟩
   ·show RepS w' E' (g::fs.set f y') _ _
    rw[RepS]
    exact⟨c1,d1++c2'++d3,B1,C1++B2'++C3,by simp,by simp,Rep.mv (hm.sub (fun k hk=>by simp[hk])) h1,m1⟩
   ·show sizes (g::fs.set f y')=_
    rw[sizes,sizes,m2 hs]
mutual
def T.off:List Nat→T→Option Nat
 | [],_=>some 0
 | i::p,.st fs=>offs i p fs
 | _::_,_=>none
def offs:Nat→List Nat→List T→Option Nat
 | _,_,[]=>none
 | 0,p,f::_=>f.off p
 | i+1,p,f::fs=>(offs i p fs).map (f.size+·)
end
theorem zne:∀{i:Nat} {p:List Nat} {fs:List T},offs i p fs=(fs[i]?).bind fun f=>(f.off p).map (sizes (fs.take i)+·)
 | i,p,[]=>by rw[offs];rfl
 | 0,p,f::fs=>by
  rw[offs]
  show f.off p=(f.off p).map (0+·)
  cases f.off p<;>simp
 | i+1,p,f::fs=>by
  rw[offs,zne]
  show((fs[i]?).bind fun f=>(f.off p).map (sizes (fs.take i)+·)).map (f.size+·)=(fs[i]?).bind fun g=>(g.off p).map (sizes ((f::fs).take (i+1))+·)
  rw[List.take_succ_cons,sizes]
  cases fs[i]? with
  | none=>rfl
  | some g=>cases hq:g.off p<;>simp[hq,Nat.add_assoc]
def T.get:List Nat→T→Option T
 | [],x=>some x
 | i::p,.st fs=>match fs[i]? with
  | some y=>y.get p
  | none=>none
 | i::p,.xl _ xs=>match xs[i]? with
  | some y=>y.get p
  | none=>none
 | _::_,_=>none
def T.rep:List Nat→T→T→Option T
 | [],_,y=>some y
 | i::p,.st fs,y=>match fs[i]? with
  | some z=>(z.rep p y).map fun z'=>.st (fs.set i z')
  | none=>none
 | i::p,.xl sz xs,y=>match xs[i]? with
  | some z=>(z.rep p y).map fun z'=>.xl sz (xs.set i z')
  | none=>none
 | _::_,_,_=>none
def T.far:List Nat→T→Bool
 | [],_=>false
 | i::p,.st fs=>match fs[i]? with
  | some y=>y.far p
  | none=>false
 | _::_,.xl _ _=>true
 | _::_,_=>false
def rowAt (w:World) (sz i:Nat):List Value→Option (Addr × List Value)
 | [.slice (some ad) _ _]=>match w.heap[ad.block]? with
  | some (.cells cells _ _)=>some (⟨ad.block,ad.off+i * sz,none⟩,(cells.toList.drop (ad.off+i * sz)).take sz)
  | _=>none
 | _=>none
def look (w:World):List Nat→T→List Value→Option Addr→Option (T × Option Addr × List Value)
 | [],x,cs,ad=>some (x,ad,cs)
 | i::p,.st fs,cs,ad=>match fs[i]? with
  | some y=>look w p y ((cs.drop (sizes (fs.take i))).take y.size) (ad.map fun a=>⟨a.block,a.off+sizes (fs.take i),none⟩)
  | none=>none
 | i::p,.xl sz xs,cs,_=>match xs[i]?,rowAt w sz i cs with
  | some y,some (a,es)=>look w p y es (some a)
  | _,_=>none
 | _::_,_,_,_=>none
theorem zhB {α:Type} {c1 c2 c3:List α} {m n:Nat} (h1:c1.length=m) (h2:c2.length=n):((c1++c2++c3).drop m).take n=c2:=by
 rw[List.append_assoc,←h1,List.drop_left,←h2,List.take_left]
theorem znS {w : World} {k o : Nat} {es : List Value} {cells : Array Value} {ty : TypeId} {fr : Nat × Nat} (hk : w.heap[k]? = some (.cells cells ty fr)) (hc : ∀ j u, es[j]? = some u → w.cell? ⟨k, o + j, none⟩ = some u) (h0 : 0 < es.length) :
  ∃l1 l3,cells.toList=l1++es++l3∧l1.length=o:=by
 have hc':∀(j:Nat) u,es[j]?=some u→cells.toList[o+j]?=some u:=by
  intro j u hj
  have:=hc j u hj
  unfold World.cell? at this
  rw[hk]at this
  simpa using this
 have hlt:o+es.length≤cells.toList.length:=by
  have h:=hc' (es.length-1) (es[es.length-1]'(by omega)) (List.getElem?_eq_getElem _)
  have:=(List.getElem?_eq_some_iff.1 h).1
  omega
 refine⟨cells.toList.take o,cells.toList.drop (o+es.length), ?_,by rw[List.length_take];omega⟩
 have hm:(cells.toList.drop o).take es.length=es:=by
  apply List.ext_getElem?
  intro j
  by_cases hj:j < es.length
  ·rw[List.getElem?_take,if_pos hj,List.getElem?_drop,hc' j es[j] (List.getElem?_eq_getElem hj),List.getElem?_eq_getElem hj]
  ·rw[List.getElem?_eq_none (by rw[List.length_take];omega),List.getElem?_eq_none (by omega)]
 have h2:cells.toList.drop o=es++cells.toList.drop (o+es.length):=by
  have:=List.take_append_drop es.length (cells.toList.drop o)
  rw[hm,List.drop_drop]at this
  exact this.symm
 rw[List.append_assoc,←h2,List.take_append_drop]
theorem zhC {w:World} {k:Nat} {l1 es l3:List Value} {cells:Array Value} {ty:TypeId} {fr:Nat × Nat} (hk:w.heap[k]?=some (.cells cells ty fr)) (hl:cells.toList=l1++es++l3):∀j u,es[j]?=some u→w.cell? ⟨k,l1.length+j,none⟩=some u:=by
 intro j u hj
 unfold World.cell?
 rw[hk]
 have:cells.toList[l1.length+j]?=some u:=by
  rw[hl,List.append_assoc,List.getElem?_append_right (by omega),Nat.add_sub_cancel_left,List.getElem?_append_left (List.getElem?_eq_some_iff.1 hj).1]
  exact hj
 simpa using this
theorem zhD {w:World}:∀{p:List Nat} {x:T} {cs:List Value} {ad:Option Addr} {y:T} {ad2:Option Addr} {c2:List Value},look w p x cs ad=some (y,ad2,c2)→x.get p=some y
 | [],x,cs,ad,y,ad2,c2,h=>by rw[look]at h;cases h;rw[T.get]
 | i::p,.st fs,cs,ad,y,ad2,c2,h=>by
  rw[look]at h
  rw[T.get]
  cases hf:fs[i]? with
  | none=>rw[hf]at h;cases h
  | some z=>rw[hf]at h;exact zhD h
 | i::p,.xl sz xs,cs,ad,y,ad2,c2,h=>by
  rw[look]at h
  rw[T.get]
  cases hf:xs[i]? with
  | none=>rw[hf]at h;cases h
  | some z=>
   rw[hf]at h
   cases hr:rowAt w sz i cs with
   | none=>rw[hr]at h;cases h
   | some q=>rw[hr]at h;exact zhD h
 | i::p,.v _,cs,ad,y,ad2,c2,h=>by simp[look]at h
 | i::p,.sl _ _ _,cs,ad,y,ad2,c2,h=>by simp[look]at h
 | i::p,.op,cs,ad,y,ad2,c2,h=>by simp[look]at h
theorem Rep.elem {w : World} {E : Nat → Nat} {sz : Nat} {xs : List T} {cs : List Value} {B : List Nat} (h : Rep w E (.xl sz xs) cs B) {i : Nat} {z : T} (hi : xs[i]? = some z) :
  ∃ad c cells ty l1 es l3 B1 B2 B3,cs=[.slice (some ad) xs.length c]∧xs.length≤c∧0 < sz∧ad.spot=none∧B=ad.block::(B1++B2++B3)∧E ad.block=ad.off∧w.heap[ad.block]?=some (.cells cells ty (0,0))∧ad.off+c * sz≤cells.size∧c≤9223372036854775807∧
   cells.toList=l1++es++l3∧l1.length=ad.off+i * sz∧es.length=sz∧Rep w E z es B2∧
   ∀(w':World) (E':Nat→Nat) (y':T) (cs':List Value) (B2':List Nat),Mv w E w' E' (B1++B3)→(∀j,j < ad.off+i * sz∨ad.off+i * sz+sz≤j→w'.cell? ⟨ad.block,j,none⟩=w.cell? ⟨ad.block,j,none⟩)→
    cs'.length=sz→(∀j u,cs'[j]?=some u→w'.cell? ⟨ad.block,ad.off+i * sz+j,none⟩=some u)→Rep w' E' y' cs' B2'→E' ad.block=ad.off→(∃cells',w'.heap[ad.block]?=some (.cells cells' ty (0,0))∧cells'.size=cells.size)→Rep w' E' (.xl sz (xs.set i y')) cs (ad.block::(B1++B2'++B3)):=by
 rw[Rep]at h
 obtain⟨A,c,e,hl,hz,h⟩:=h
 rcases h with ⟨h,_⟩ | ⟨ad,B',rfl,hp,hB,hE,⟨cells,ty,hc,hs,hcc⟩,hx⟩
 ·subst h;cases hi
 obtain⟨es,B1,B2,B3,e1,e2,e3,e4,e5⟩:=RepX.set hx hi
 obtain⟨l1,l3,k1,k2⟩:=znS hc e3 (by omega)
 refine⟨ad,c,cells,ty,l1,es,l3,B1,B2,B3,e,hl,hz,hp,by rw[hB,e1],hE,hc,hs,hcc,k1,k2,e2,e4,fun w' E' y' cs' B2' hm hf hl' hc' hr hE' hh=> ?_⟩
 obtain⟨cells',h1,h2⟩:=hh
 rw[Rep]
 exact⟨some ad,c,by rw[List.length_set];exact e,by rw[List.length_set];exact hl,hz,.inr ⟨ad,_,rfl,hp,rfl,hE',⟨cells',ty,h1,by rw[h2];exact hs,hcc⟩,e5 w' E' y' cs' B2' hm hf hl' hc' hr⟩⟩
theorem zfy {w : World} {i sz : Nat} {p : List Nat} {xs : List T} {n c : Nat} {ad : Addr} {cells : Array Value} {ty : TypeId} {fr : Nat × Nat} {l1 es l3 : List Value} {z : T} {a0 : Option Addr} (hi : xs[i]? = some z) (hc : w.heap[ad.block]? = some (.cells cells ty fr)) (hl : cells.toList = l1 ++ es ++ l3) (h1 : l1.length = ad.off + i * sz) (h2 : es.length = sz) :
  look w (i::p) (.xl sz xs) [.slice (some ad) n c] a0=look w p z es (some ⟨ad.block,ad.off+i * sz,none⟩):=by
 have hr:rowAt w sz i [.slice (some ad) n c]=some (⟨ad.block,ad.off+i * sz,none⟩,es):=by
  rw[rowAt,hc]
  dsimp only
  rw[hl,zhB h1 h2]
 rw[look,hi,hr]
theorem zk4 {w : World} {i : Nat} {p : List Nat} {fs : List T} {c1 c2 c3 : List Value} {z : T} {a0 : Option Addr} (hi : fs[i]? = some z) (h1 : c1.length = sizes (fs.take i)) (h2 : c2.length = z.size) :
  look w (i::p) (.st fs) (c1++c2++c3) a0=look w p z c2 (a0.map fun a=>⟨a.block,a.off+sizes (fs.take i),none⟩):=by
 rw[look,hi]
 dsimp only
 rw[zhB h1 h2]
theorem Rep.part {w:World} {E:Nat→Nat}:∀{p:List Nat} {x y:T} {cs:List Value} {B:List Nat} (ad:Option Addr),Rep w E x cs B→x.get p=some y→
  ∃ad2 c2 B1 B2 B3,look w p x cs ad=some (y,ad2,c2)∧B=B1++B2++B3∧Rep w E y c2 B2∧(x.far p=true→∃k o cells ty,ad2=some ⟨k,o,none⟩∧w.heap[k]?=some (.cells cells ty (0,0))∧k∈B1∧∀j u,c2[j]?=some u→w.cell? ⟨k,o+j,none⟩=some u)∧
   (x.far p=false→∃c1 c3,cs=c1++c2++c3∧x.off p=some c1.length∧∀k o,ad=some ⟨k,o,none⟩→ad2=some ⟨k,o+c1.length,none⟩)∧
   ∀(y':T) (B2':List Nat),Rep w E y' c2 B2'→y'.size=y.size→∃x',x.rep p y'=some x'∧x'.size=x.size∧Rep w E x' cs (B1++B2'++B3)
 | [],x,y,cs,B,ad,h,hy=>by
  rw[T.get]at hy
  cases hy
  refine⟨ad,cs,[],B,[],by rw[look],by simp,h,fun hf=>(by simp[T.far]at hf),fun _=>⟨[],[],by simp,by rw[T.off];rfl,fun k o ha=>ha⟩,fun y' B2' hr hs=>⟨y',by rw[T.rep],hs,by simpa using hr⟩⟩
 | i::p,.st fs,y,cs,B,ad,h,hy=>by
  rw[Rep]at h
  rw[T.get]at hy
  cases hf:fs[i]? with
  | none=>rw[hf]at hy;cases hy
  | some z=>
   rw[hf]at hy
   obtain⟨c1,c2,c3,B1,B2,B3,e1,e2,e3,e4,e5⟩:=RepS.cut h hf
   obtain⟨ad2,d2,C1,C2,C3,k1,k2,k3,k4,k6,k5⟩:=Rep.part (ad.map fun a=>⟨a.block,a.off+sizes (fs.take i),none⟩) e4 hy
   refine⟨ad2,d2,B1++C1,C2,C3++B3,by rw[e1,zk4 hf e3 (Rep.len e4)];exact k1,by rw[e2,k2];simp,k3,fun hfar=> ?_,fun hfar=> ?_,fun y' B2' hr hs=> ?_⟩
   ·rw[T.far,hf]at hfar
    obtain⟨k,o,cells,ty,m1,m2,m3,m4⟩:=k4 hfar
    exact⟨k,o,cells,ty,m1,m2,List.mem_append_right _ m3,m4⟩
   ·rw[T.far,hf]at hfar
    obtain⟨f1,f3,g1,g0,g2⟩:=k6 hfar
    refine⟨c1++f1,f3++c3,by rw[e1,g1];simp, ?_,fun k o ha=> ?_⟩
    ·rw[T.off,zne,hf]
     simp[g0,e3]
    ·rw[g2 k (o+sizes (fs.take i)) (by rw[ha];rfl),List.length_append,e3,Nat.add_assoc]
   ·obtain⟨z',m1,m2,m3⟩:=k5 y' B2' hr hs
    obtain⟨n1,n2⟩:=e5 w E z' c2 _ (Mv.refl w E _) m3
    refine⟨.st (fs.set i z'),by rw[T.rep,hf];dsimp only;rw[m1];rfl,by simp only[T.size];exact n2 m2, ?_⟩
    rw[Rep,e1]
    have:B1++C1++B2'++(C3++B3)=B1++(C1++B2'++C3)++B3:=by simp
    rw[this]
    exact n1
 | i::p,.xl sz xs,y,cs,B,ad,h,hy=>by
  rw[T.get]at hy
  cases hf:xs[i]? with
  | none=>rw[hf]at hy;cases hy
  | some z=>
   rw[hf]at hy
   obtain⟨a0,c,cells,ty,l1,es,l3,B1,B2,B3,e1,e2,e3,e4,e5,e6,e7,e8,e9,f1,f2,f3,f4,f5⟩:=Rep.elem h hf
   obtain⟨ad2,d2,C1,C2,C3,k1,k2,k3,k4,k6,k5⟩:=Rep.part (some ⟨a0.block,a0.off+i * sz,none⟩) f4 hy
   refine⟨ad2,d2,a0.block::(B1++C1),C2,C3++B3,by rw[e1,zfy hf e7 f1 f2 f3];exact k1,by rw[e5,k2];simp,k3,fun hfar=> ?_,fun hfar=>(by rw[T.far]at hfar;cases hfar),fun y' B2' hr hs=> ?_⟩
   ·cases hzf:z.far p with
    | true=>
     obtain⟨k,o,cells',ty',m1,m2,m3,m4⟩:=k4 hzf
     exact⟨k,o,cells',ty',m1,m2,by simp[m3],m4⟩
    | false=>
     obtain⟨g1,g3,g4,_,g5⟩:=k6 hzf
     have g5:=g5 _ _ rfl
     refine⟨a0.block,a0.off+i * sz+g1.length,cells,ty,g5,e7,by simp,fun j u hj=> ?_⟩
     ·have:=zhC (es:=d2) (l1:=l1++g1) (l3:=g3++l3) e7 (by rw[f1,g4];simp) j u hj
      rw[List.length_append,f2]at this
      exact this
   ·obtain⟨z',m1,m2,m3⟩:=k5 y' B2' hr hs
    have n1:=f5 w E z' es _ (Mv.refl w E _) (fun _ _=>rfl) f3 (fun j u hj=>by rw[←f2];exact zhC e7 f1 j u hj) m3 e6 ⟨cells,e7,rfl⟩
    refine⟨.xl sz (xs.set i z'),by rw[T.rep,hf];dsimp only;rw[m1];rfl,rfl, ?_⟩
    have:a0.block::(B1++C1)++B2'++(C3++B3)=a0.block::(B1++(C1++B2'++C3)++B3):=by simp
    rw[this]
    exact n1
 | i::p,.v _,y,cs,B,ad,h,hy=>by simp[T.get]at hy
 | i::p,.sl _ _ _,y,cs,B,ad,h,hy=>by simp[T.get]at hy
 | i::p,.op,y,cs,B,ad,h,hy=>by simp[T.get]at hy
theorem ziE {w:World} {E:Nat→Nat} {x:T} {cs:List Value} {B:List Nat} (h:Rep w E x cs B):(valOf x cs).cells.toList=cs:=by
 cases x with
 | st fs=>simp[valOf,Value.cells]
 | v u=>
  rw[Rep]at h
  obtain⟨rfl,hu,_⟩:=h
  cases u<;>first | rfl | cases hu
 | sl o sz xs=>
  rw[Rep]at h
  obtain⟨A,c,rfl,_⟩:=h
  rfl
 | xl sz xs=>
  rw[Rep]at h
  obtain⟨k,c,rfl,_⟩:=h
  rfl
 | op=>
  rw[Rep]at h
  obtain⟨⟨A,n,c,rfl⟩,_⟩:=h
  rfl
theorem zmI {α:Type} {l1 m m' l3:List α} {j:Nat} (hl:m'.length=m.length) (hj:j < l1.length∨l1.length+m.length≤j):(l1++m'++l3)[j]?=(l1++m++l3)[j]?:=by
 rcases hj with hj | hj
 ·rw[List.append_assoc,List.append_assoc,List.getElem?_append_left hj,List.getElem?_append_left hj]
 ·rw[List.getElem?_append_right (by rw[List.length_append];omega),List.getElem?_append_right (by rw[List.length_append];omega),List.length_append,List.length_append,hl]
theorem znT {p:List Nat} {x y x':T} (h:x.rep p y=some x') (hp:x.far p=true) (c:List Value):valOf x' c=valOf x c:=by
 cases p with
 | nil=>rw[T.far]at hp;cases hp
 | cons i p=>
  cases x with
  | st fs=>
   rw[T.rep]at h
   cases hf:fs[i]? with
   | none=>rw[hf]at h;cases h
   | some z=>
    rw[hf]at h
    dsimp only at h
    cases hz:z.rep p y with
    | none=>rw[hz]at h;cases h
    | some z'=>rw[hz]at h;cases h;rfl
  | xl sz xs=>
   rw[T.rep]at h
   cases hf:xs[i]? with
   | none=>rw[hf]at h;cases h
   | some z=>
    rw[hf]at h
    dsimp only at h
    cases hz:z.rep p y with
    | none=>rw[hz]at h;cases h
    | some z'=>rw[hz]at h;cases h;rfl
  | v _=>simp[T.rep]at h
  | sl _ _ _=>simp[T.rep]at h
  | op=>simp[T.rep]at h
theorem zgE {w w' : World} {E : Nat → Nat} {k : Nat} {cells : Array Value} {ty : TypeId} {l1 c2 c2' l3 : List Value} {Bs : List Nat} (ho : ∀ k', k' ≠ k → w'.heap[k']? = w.heap[k']?) (hk : w.heap[k]? = some (.cells cells ty (0, 0))) (hl : cells.toList = l1 ++ c2 ++ l3)
  (hk':w'.heap[k]?=some (.cells (l1++c2'++l3).toArray ty (0,0))) (hE:E k≤l1.length) (hB:k∉Bs):Mv w E w' E Bs:=by
 refine⟨fun k' i hi=>⟨hi, ?_⟩,fun k' hk'=>⟨rfl,ho k' (fun e=>hB (e ▸ hk'))⟩⟩
 by_cases hkk:k'=k
 ·subst hkk
  have e1:cells=(l1++c2++l3).toArray:=by apply Array.ext';simpa using hl
  unfold World.cell?
  rw[hk,hk',e1]
  have hi':i < l1.length:=by omega
  simp[List.getElem?_append_left hi']
 ·exact zeP (ho k' hkk)
theorem Rep.near {w:World} {E:Nat→Nat}:∀{p:List Nat} {x y:T} {cs:List Value} {B:List Nat} (k o:Nat),Rep w E x cs B→x.get p=some y→x.far p=false→
  ∃c1 c2 c3 B1 B2 B3,look w p x cs (some ⟨k,o,none⟩)=some (y,some ⟨k,o+c1.length,none⟩,c2)∧cs=c1++c2++c3∧B=B1++B2++B3∧Rep w E y c2 B2∧
   ∀(w':World) (y':T) (c2':List Value) (B2':List Nat),Mv w E w' E (B1++B3)→Rep w' E y' c2' B2'→y'.size=y.size→∃x',x.rep p y'=some x'∧x'.size=x.size∧Rep w' E x' (c1++c2'++c3) (B1++B2'++B3)
 | [],x,y,cs,B,k,o,h,hy,hf=>by
  rw[T.get]at hy
  cases hy
  exact⟨[],cs,[],[],B,[],by rw[look];rfl,by simp,by simp,h,fun w' y' c2' B2' hm hr hs=>⟨y',by rw[T.rep],hs,by simpa using hr⟩⟩
 | i::p,.st fs,y,cs,B,k,o,h,hy,hf=>by
  rw[Rep]at h
  rw[T.get]at hy
  rw[T.far]at hf
  cases hi:fs[i]? with
  | none=>rw[hi]at hy;cases hy
  | some z=>
   rw[hi]at hy hf
   obtain⟨c1,c2,c3,B1,B2,B3,e1,e2,e3,e4,e5⟩:=RepS.cut h hi
   obtain⟨d1,d2,d3,C1,C2,C3,k1,k2,k3,k4,k5⟩:=Rep.near k (o+sizes (fs.take i)) e4 hy hf
   refine⟨c1++d1,d2,d3++c3,B1++C1,C2,C3++B3, ?_,by rw[e1,k2];simp,by rw[e2,k3];simp,k4,fun w' y' c2' B2' hm hr hs=> ?_⟩
   ·rw[e1,zk4 hi e3 (Rep.len e4)]
    have:o+(c1++d1).length=o+sizes (fs.take i)+d1.length:=by rw[List.length_append,e3];omega
    rw[this]
    exact k1
   ·obtain⟨z',m1,m2,m3⟩:=k5 w' y' c2' B2' (hm.sub (fun k hk=>by rcases List.mem_append.1 hk with hk | hk<;>simp[hk])) hr hs
    obtain⟨n1,n2⟩:=e5 w' E z' _ _ (hm.sub (fun k hk=>by rcases List.mem_append.1 hk with hk | hk<;>simp[hk])) m3
    refine⟨.st (fs.set i z'),by rw[T.rep,hi];dsimp only;rw[m1];rfl,by simp only[T.size];exact n2 m2, ?_⟩
    rw[Rep]
    have e6:c1++d1++c2'++(d3++c3)=c1++(d1++c2'++d3)++c3:=by simp
    have e7:B1++C1++B2'++(C3++B3)=B1++(C1++B2'++C3)++B3:=by simp
    rw[e6,e7]
    exact n1
 | i::p,.xl sz xs,y,cs,B,k,o,h,hy,hf=>by rw[T.far]at hf;cases hf
 | i::p,.v _,y,cs,B,k,o,h,hy,hf=>by simp[T.get]at hy
 | i::p,.sl _ _ _,y,cs,B,k,o,h,hy,hf=>by simp[T.get]at hy
 | i::p,.op,y,cs,B,k,o,h,hy,hf=>by simp[T.get]at hy
theorem Rep.write {w:World} {E:Nat→Nat}:∀{p:List Nat} {x y:T} {cs:List Value} {B:List Nat} (ad:Option Addr),Rep w E x cs B→B.Nodup→x.get p=some y→x.far p=true→
  ∃k o c2 B1 B2 B3 cells ty l1 l3,look w p x cs ad=some (y,some ⟨k,o,none⟩,c2)∧B=B1++B2++B3∧k∈B1∧E k≤o∧Rep w E y c2 B2∧w.heap[k]?=some (.cells cells ty (0,0))∧cells.toList=l1++c2++l3∧l1.length=o∧
   ∀(w':World) (y':T) (c2':List Value) (B2':List Nat),(∀k',k'≠k→w'.heap[k']?=w.heap[k']?)→w'.heap[k]?=some (.cells (l1++c2'++l3).toArray ty (0,0))→c2'.length=c2.length→y'.size=y.size→Rep w' E y' c2' B2'→
    ∃x',x.rep p y'=some x'∧x'.size=x.size∧Rep w' E x' cs (B1++B2'++B3)
 | [],x,y,cs,B,ad,h,hn,hy,hf=>by rw[T.far]at hf;cases hf
 | i::p,.st fs,y,cs,B,ad,h,hn,hy,hf=>by
  rw[Rep]at h
  rw[T.get]at hy
  rw[T.far]at hf
  cases hi:fs[i]? with
  | none=>rw[hi]at hy;cases hy
  | some z=>
   rw[hi]at hy hf
   obtain⟨c1,c2,c3,B1,B2,B3,e1,e2,e3,e4,e5⟩:=RepS.cut h hi
   rw[e2,List.append_assoc,List.nodup_append]at hn
   obtain⟨q1,q2,q3⟩:=hn
   rw[List.nodup_append]at q2
   obtain⟨k,o,d2,C1,C2,C3,cells,ty,l1,l3,k1,k2,k3,k4,k5,k6,k7,k8,k9⟩:=Rep.write (ad.map fun a=>⟨a.block,a.off+sizes (fs.take i),none⟩) e4 q2.1 hy hf
   have hk2:k∈B2:=by rw[k2];simp[k3]
   refine⟨k,o,d2,B1++C1,C2,C3++B3,cells,ty,l1,l3,by rw[e1,zk4 hi e3 (Rep.len e4)];exact k1,by rw[e2,k2];simp,by simp[k3],k4,k5,k6,k7,k8,fun w' y' c2' B2' ho hw hl hs hr=> ?_⟩
   obtain⟨z',m1,m2,m3⟩:=k9 w' y' c2' B2' ho hw hl hs hr
   have hm:Mv w E w' E (B1++B3):=zgE ho k6 k7 hw (by omega) (fun hb=>by
    rcases List.mem_append.1 hb with hb | hb
    ·exact q3 k hb k (List.mem_append_left _ hk2) rfl
    ·exact q2.2.2 k hk2 k hb rfl)
   obtain⟨n1,n2⟩:=e5 w' E z' c2 _ hm m3
   refine⟨.st (fs.set i z'),by rw[T.rep,hi];dsimp only;rw[m1];rfl,by simp only[T.size];exact n2 m2, ?_⟩
   rw[Rep,e1]
   have e7:B1++C1++B2'++(C3++B3)=B1++(C1++B2'++C3)++B3:=by simp
   rw[e7]
   exact n1
 | i::p,.xl sz xs,y,cs,B,ad,h,hn,hy,hf=>by
  rw[T.get]at hy
  cases hi:xs[i]? with
  | none=>rw[hi]at hy;cases hy
  | some z=>
   rw[hi]at hy
   obtain⟨a0,c,cells,ty,l1,es,l3,B1,B2,B3,e1,e2,e3,e4,e5,e6,e7,e8,e9,f1,f2,f3,f4,f5⟩:=Rep.elem h hi
   rw[e5,List.nodup_cons,List.append_assoc,List.nodup_append]at hn
   obtain⟨q0,q1,q2,q3⟩:=hn
   rw[List.nodup_append]at q2
   have in_:∀{k},k∈B1∨k∈B2∨k∈B3→k≠a0.block:=fun hk e=>q0 (by rw[←e];simpa using hk)
   cases hzf:z.far p with
   | true=>
    obtain⟨k,o,d2,C1,C2,C3,cells2,ty2,m1,m3,k1,k2,k3,k4,k5,k6,k7,k8,k9⟩:=Rep.write (some ⟨a0.block,a0.off+i * sz,none⟩) f4 q2.1 hy hzf
    have hk2:k∈B2:=by rw[k2];simp[k3]
    refine⟨k,o,d2,a0.block::(B1++C1),C2,C3++B3,cells2,ty2,m1,m3,by rw[e1,zfy hi e7 f1 f2 f3];exact k1,by rw[e5,k2];simp,by simp[k3],k4,k5,k6,k7,k8,fun w' y' c2' B2' ho hw hl hs hr=> ?_⟩
    obtain⟨z',n1,n2,n3⟩:=k9 w' y' c2' B2' ho hw hl hs hr
    have hm:Mv w E w' E (B1++B3):=zgE ho k6 k7 hw (by omega) (fun hb=>by
     rcases List.mem_append.1 hb with hb | hb
     ·exact q3 k hb k (List.mem_append_left _ hk2) rfl
     ·exact q2.2.2 k hk2 k hb rfl)
    have hsame:w'.heap[a0.block]?=w.heap[a0.block]?:=ho _ (fun e=>in_ (.inr (.inl hk2)) e.symm)
    have r1:=f5 w' E z' es _ hm (fun j _=>zeP hsame) f3 (fun j u hj=>by rw[zeP hsame,←f2];exact zhC e7 f1 j u hj) n3 e6 ⟨cells,by rw[hsame];exact e7,rfl⟩
    refine⟨.xl sz (xs.set i z'),by rw[T.rep,hi];dsimp only;rw[n1];rfl,rfl, ?_⟩
    have:a0.block::(B1++C1)++B2'++(C3++B3)=a0.block::(B1++(C1++B2'++C3)++B3):=by simp
    rw[this]
    exact r1
   | false=>
    obtain⟨d1,d2,d3,C1,C2,C3,k1,k2,k3,k4,k5⟩:=Rep.near a0.block (a0.off+i * sz) f4 hy hzf
    refine⟨a0.block,a0.off+i * sz+d1.length,d2,a0.block::(B1++C1),C2,C3++B3,cells,ty,l1++d1,d3++l3,by rw[e1,zfy hi e7 f1 f2 f3];exact k1,by rw[e5,k3];simp,by simp,by rw[e6];omega,k4,e7,by rw[f1,k2];simp,by rw[List.length_append,f2],fun w' y' c2' B2' ho hw hl hs hr=> ?_⟩
    have hmv:∀Bs,a0.block∉Bs→Mv w E w' E Bs:=fun Bs hb=>zgE (l1:=l1++d1) (c2:=d2) (l3:=d3++l3) ho e7 (by rw[f1,k2];simp) hw (by rw[e6,List.length_append];omega) hb
    obtain⟨z',n1,n2,n3⟩:=k5 w' y' c2' B2' (hmv _ (fun hb=>by
     refine in_ (.inr (.inl ?_)) rfl
     rw[k3]
     rcases List.mem_append.1 hb with hb | hb<;>simp[hb])) hr hs
    have hsplit:(l1++d1++c2'++(d3++l3))=l1++(d1++c2'++d3)++l3:=by simp
    rw[hsplit]at hw
    have hlen:(d1++c2'++d3).length=sz:=by
     have:es.length=d1.length+d2.length+d3.length:=by rw[k2];simp[Nat.add_assoc]
     simp
     omega
    have r1:=f5 w' E z' (d1++c2'++d3) _ (hmv _ (fun hb=>by
      rcases List.mem_append.1 hb with hb | hb
      ·exact in_ (.inl hb) rfl
      ·exact in_ (.inr (.inr hb)) rfl)) (fun j hj=>by
      have e1:cells=(l1++es++l3).toArray:=by apply Array.ext';simpa using f1
      unfold World.cell?
      rw[e7,hw,e1]
      have:(l1++(d1++c2'++d3)++l3)[j]?=(l1++es++l3)[j]?:=by
       exact zmI (by omega) (by omega)
      simpa using this) hlen (fun j u hj=>by rw[←f2];exact zhC (es:=d1++c2'++d3) (l3:=l3) hw (by simp) j u hj) n3 e6 ⟨_,hw,by
       have e1:cells.size=(l1++es++l3).length:=by rw[←f1];simp
       rw[e1,List.size_toArray,List.length_append,List.length_append,hlen,List.length_append,List.length_append,f3]⟩
    refine⟨.xl sz (xs.set i z'),by rw[T.rep,hi];dsimp only;rw[n1];rfl,rfl, ?_⟩
    have:a0.block::(B1++C1)++B2'++(C3++B3)=a0.block::(B1++(C1++B2'++C3)++B3):=by simp
    rw[this]
    exact r1
 | i::p,.v _,y,cs,B,ad,h,hn,hy,hf=>by simp[T.get]at hy
 | i::p,.sl _ _ _,y,cs,B,ad,h,hn,hy,hf=>by simp[T.get]at hy
 | i::p,.op,y,cs,B,ad,h,hn,hy,hf=>by simp[T.get]at hy
theorem zjb:∀{p:List Nat} {x z:T} {i:Nat},x.get p=some z→x.get (p++[i])=z.get [i]
 | [],x,z,i,h=>by rw[T.get]at h;cases h;rfl
 | j::p,.st fs,z,i,h=>by
  rw[T.get]at h
  rw[List.cons_append,T.get]
  cases hf:fs[j]? with
  | none=>rw[hf]at h;cases h
  | some y=>rw[hf]at h;exact zjb h
 | j::p,.xl sz xs,z,i,h=>by
  rw[T.get]at h
  rw[List.cons_append,T.get]
  cases hf:xs[j]? with
  | none=>rw[hf]at h;cases h
  | some y=>rw[hf]at h;exact zjb h
 | j::p,.v _,z,i,h=>by simp[T.get]at h
 | j::p,.sl _ _ _,z,i,h=>by simp[T.get]at h
 | j::p,.op,z,i,h=>by simp[T.get]at h
theorem zjc {w:World}:∀{p q:List Nat} {x:T} {cs:List Value} {ad:Option Addr} {z:T} {ad2:Option Addr} {c2:List Value},look w p x cs ad=some (z,ad2,c2)→look w (p++q) x cs ad=look w q z c2 ad2
 | [],q,x,cs,ad,z,ad2,c2,h=>by rw[look]at h;cases h;rfl
 | j::p,q,.st fs,cs,ad,z,ad2,c2,h=>by
  rw[look]at h
  rw[List.cons_append,look]
  cases hf:fs[j]? with
  | none=>rw[hf]at h;cases h
  | some y=>rw[hf]at h;exact zjc h
 | j::p,q,.xl sz xs,cs,ad,z,ad2,c2,h=>by
  rw[look]at h
  rw[List.cons_append,look]
  cases hf:xs[j]? with
  | none=>rw[hf]at h;cases h
  | some y=>
   rw[hf]at h
   cases hr:rowAt w sz j cs with
   | none=>rw[hr]at h;cases h
   | some g=>rw[hr]at h;exact zjc h
 | j::p,q,.v _,cs,ad,z,ad2,c2,h=>by simp[look]at h
 | j::p,q,.sl _ _ _,cs,ad,z,ad2,c2,h=>by simp[look]at h
 | j::p,q,.op,cs,ad,z,ad2,c2,h=>by simp[look]at h
theorem zic {w:World}:∀{p:List Nat} {x:T} {cs:List Value} {ad:Option Addr} {z:T} {ad2:Option Addr} {c2:List Value},look w p x cs ad=some (z,ad2,c2)→(∀b,ad=some b→b.spot=none)→∀b,ad2=some b→b.spot=none
 | [],x,cs,ad,z,ad2,c2,h,h0=>by rw[look]at h;cases h;exact h0
 | j::p,.st fs,cs,ad,z,ad2,c2,h,h0=>by
  rw[look]at h
  cases hf:fs[j]? with
  | none=>rw[hf]at h;cases h
  | some y=>
   rw[hf]at h
   refine zic h (fun b hb=> ?_)
   cases ad with
   | none=>cases hb
   | some a=>cases hb;rfl
 | j::p,.xl sz xs,cs,ad,z,ad2,c2,h,h0=>by
  rw[look]at h
  cases hf:xs[j]? with
  | none=>rw[hf]at h;cases h
  | some y=>
   rw[hf]at h
   cases hr:rowAt w sz j cs with
   | none=>rw[hr]at h;cases h
   | some g=>
    rw[hr]at h
    refine zic h (fun b hb=> ?_)
    cases hb
    unfold rowAt at hr
    split at hr
    ·split at hr
     ·cases hr;rfl
     ·cases hr
    ·cases hr
 | j::p,.v _,cs,ad,z,ad2,c2,h,h0=>by simp[look]at h
 | j::p,.sl _ _ _,cs,ad,z,ad2,c2,h,h0=>by simp[look]at h
 | j::p,.op,cs,ad,z,ad2,c2,h,h0=>by simp[look]at h
theorem zk5 {w w':World} {E:Nat→Nat}:∀{p:List Nat} {x:T} {cs:List Value} {B:List Nat} {ad:Option Addr},Rep w E x cs B→(∀k∈B,w'.heap[k]?=w.heap[k]?)→look w' p x cs ad=look w p x cs ad
 | [],x,cs,B,ad,h,hm=>by rw[look,look]
 | i::p,.st fs,cs,B,ad,h,hm=>by
  rw[Rep]at h
  rw[look,look]
  cases hf:fs[i]? with
  | none=>rfl
  | some z=>
   obtain⟨c1,c2,c3,B1,B2,B3,e1,e2,e3,e4,e5⟩:=RepS.cut h hf
   dsimp only
   rw[e1,zhB e3 (Rep.len e4)]
   exact zk5 e4 (fun k hk=>hm k (by rw[e2];simp[hk]))
 | i::p,.xl sz xs,cs,B,ad,h,hm=>by
  cases hf:xs[i]? with
  | none=>rw[look,look,hf]
  | some z=>
   obtain⟨a0,c,cells,ty,l1,es,l3,B1,B2,B3,e1,e2,e3,e4,e5,e6,e7,e8,e9,f1,f2,f3,f4,f5⟩:=Rep.elem h hf
   rw[e1,zfy hf e7 f1 f2 f3,zfy hf (by rw[hm a0.block (by rw[e5];simp)];exact e7) f1 f2 f3]
   exact zk5 f4 (fun k hk=>hm k (by rw[e5];simp[hk]))
 | i::p,.v _,cs,B,ad,h,hm=>by simp[look]
 | i::p,.sl _ _ _,cs,B,ad,h,hm=>by simp[look]
 | i::p,.op,cs,B,ad,h,hm=>by simp[look]
def Finer (x' x:T):Prop:=x'.size=x.size∧∀w p cs ad y' ad2 c2,look w p x' cs ad=some (y',ad2,c2)→∃y,look w p x cs ad=some (y,ad2,c2)∧∀c,valOf y' c=valOf y c
theorem Finer.refl (x:T):Finer x x:=⟨rfl,fun w p cs ad y' ad2 c2 h=>⟨y',h,fun _=>rfl⟩⟩
theorem zjd (x:T) (c:List Value):valOf x.sh c=valOf x c:=by cases x<;>rfl
theorem zk6:∀{fs:List T} {i:Nat},(shs fs)[i]?=fs[i]?.map T.sh
 | [],i=>rfl
 | f::fs,0=>rfl
 | f::fs,i+1=>by rw[shs,List.getElem?_cons_succ,List.getElem?_cons_succ];exact zk6
theorem zfC:∀{fs:List T} {i:Nat},sizes ((shs fs).take i)=sizes (fs.take i)
 | [],i=>by rw[shs]
 | f::fs,0=>by simp
 | f::fs,i+1=>by rw[shs,List.take_succ_cons,List.take_succ_cons,sizes,sizes,T.ze8,zfC]
theorem znf {w:World}:∀{p:List Nat} {x:T} {cs:List Value} {ad:Option Addr} {y':T} {ad2:Option Addr} {c2:List Value},look w p x.sh cs ad=some (y',ad2,c2)→∃y,look w p x cs ad=some (y,ad2,c2)∧∀c,valOf y' c=valOf y c
 | [],x,cs,ad,y',ad2,c2,h=>by rw[look]at h;cases h;exact⟨x,by rw[look],zjd x⟩
 | i::p,.st fs,cs,ad,y',ad2,c2,h=>by
  rw[T.sh,look,zk6,zfC]at h
  rw[look]
  cases hf:fs[i]? with
  | none=>rw[hf]at h;cases h
  | some z=>rw[hf]at h;simp only[Option.map_some,T.ze8]at h;exact znf h
 | i::p,.xl sz xs,cs,ad,y',ad2,c2,h=>by simp[T.sh,look]at h
 | i::p,.v _,cs,ad,y',ad2,c2,h=>by simp[T.sh,look]at h
 | i::p,.sl _ _ _,cs,ad,y',ad2,c2,h=>by simp[T.sh,look]at h
 | i::p,.op,cs,ad,y',ad2,c2,h=>by simp[T.sh,look]at h
theorem Finer.sh (x:T):Finer x.sh x:=⟨T.ze8 x,fun w p cs ad y' ad2 c2 h=>znf h⟩
theorem zfD:∀{fs:List T} {i j:Nat} {z z':T},fs[i]?=some z→z'.size=z.size→sizes ((fs.set i z').take j)=sizes (fs.take j)
 | [],i,j,z,z',h,hs=>by cases h
 | f::fs,0,0,z,z',h,hs=>by simp
 | f::fs,0,j+1,z,z',h,hs=>by cases h;simp[sizes,hs]
 | f::fs,i+1,0,z,z',h,hs=>by simp
 | f::fs,i+1,j+1,z,z',h,hs=>by
  have:=zfD (j:=j) (show fs[i]?=some z from h) hs
  simp[sizes,this]
theorem Finer.rep:∀{p:List Nat} {x y y' x':T},x.get p=some y→Finer y' y→x.rep p y'=some x'→Finer x' x
 | [],x,y,y',x',h,hf,hr=>by rw[T.get]at h;rw[T.rep]at hr;cases h;cases hr;exact hf
 | i::p,.st fs,y,y',x',h,hf,hr=>by
  rw[T.get]at h
  rw[T.rep]at hr
  cases hi:fs[i]? with
  | none=>rw[hi]at h;cases h
  | some z=>
   rw[hi]at h hr
   dsimp only at h hr
   cases hz:z.rep p y' with
   | none=>rw[hz]at hr;cases hr
   | some z'=>
    rw[hz]at hr
    cases hr
    have ih:=Finer.rep h hf hz
    refine⟨?_,fun w q cs ad y1 ad2 c2 hl=> ?_⟩
    ·simp only[T.size]
     have:=zfD (j:=fs.length) hi ih.1
     rw[List.take_length,List.take_of_length_le (by simp)]at this
     exact this
    ·cases q with
     | nil=>rw[look]at hl;cases hl;exact⟨.st fs,by rw[look],fun _=>rfl⟩
     | cons j q=>
      rw[look]at hl⊢
      rw[zfD hi ih.1,List.getElem?_set]at hl
      by_cases hj:i=j
      ·subst hj
       have hlt:=(List.getElem?_eq_some_iff.1 hi).1
       rw[if_pos rfl,if_pos hlt]at hl
       rw[hi]
       dsimp only at hl⊢
       rw[ih.1]at hl
       exact ih.2 _ _ _ _ _ _ _ hl
      ·rw[if_neg hj]at hl
       cases hjj:fs[j]? with
       | none=>rw[hjj]at hl;cases hl
       | some g=>rw[hjj]at hl;exact⟨y1,hl,fun _=>rfl⟩
 | i::p,.xl sz xs,y,y',x',h,hf,hr=>by
  rw[T.get]at h
  rw[T.rep]at hr
  cases hi:xs[i]? with
  | none=>rw[hi]at h;cases h
  | some z=>
   rw[hi]at h hr
   dsimp only at h hr
   cases hz:z.rep p y' with
   | none=>rw[hz]at hr;cases hr
   | some z'=>
    rw[hz]at hr
    cases hr
    have ih:=Finer.rep h hf hz
    refine⟨rfl,fun w q cs ad y1 ad2 c2 hl=> ?_⟩
    cases q with
    | nil=>rw[look]at hl;cases hl;exact⟨.xl sz xs,by rw[look],fun _=>rfl⟩
    | cons j q=>
     rw[look]at hl⊢
     rw[List.getElem?_set]at hl
     by_cases hj:i=j
     ·subst hj
      have hlt:=(List.getElem?_eq_some_iff.1 hi).1
      rw[if_pos rfl,if_pos hlt]at hl
      rw[hi]
      cases hw:rowAt w sz i cs with
      | none=>rw[hw]at hl;cases hl
      | some g=>rw[hw]at hl;exact ih.2 _ _ _ _ _ _ _ hl
     ·rw[if_neg hj]at hl
      cases hjj:xs[j]? with
      | none=>rw[hjj]at hl;cases hl
      | some g=>rw[hjj]at hl;exact⟨y1,hl,fun _=>rfl⟩
 | i::p,.v _,y,y',x',h,hf,hr=>by simp[T.get]at h
 | i::p,.sl _ _ _,y,y',x',h,hf,hr=>by simp[T.get]at h
 | i::p,.op,y,y',x',h,hf,hr=>by simp[T.get]at h
end Go.Proofs.YtgmidllbkjdnnaaGreatDoor.Flat
namespace Go.Proofs.YtgmidllbkjdnnaaGreatDoor.Flat
set_option linter.unusedVariables false
set_option linter.unusedSimpArgs false
set_option linter.unusedSectionVars false
variable [Glob]
def zdb (w:World) (β:Bm) (a:Act) (s:St):Loc→List Value
 | .tm i=>(a.tmps.getD i undef).cells.toList
 | .bx i=>match s.bx[i]? with
  | some c=>match w.heap[β i c.gen]? with
   | some (.cells cells _ _)=>cells.toList
   | _=>[]
  | none=>[]
def OgX (w:World) (β:Bm) (a:Act) (s:St) (k:Bool) (l:Loc) (p:List Nat) (n:Nat) (v:Value):Prop:=
 ∀d,s.get l=some d→n≤d.ver∧∀x y ad c2,d.ver=n→d.val=.t x→look w p x (zdb w β a s l) none=some (y,ad,c2)→if k=true then∃A,ad=some A∧v=.pointer (some A)else v=valOf y c2
def Cell.told (c:Cell) (k:Bool) (l:Loc) (p:List Nat) (n:Nat):Prop:=c.val=.xr k l p n∨(k=false∧c.og=some (l,p,n))
structure Sim (e:Ent) (w:World) (E:Nat→Nat) (β:Bm) (τ:Loc→List Nat) (a:Act) (s:St):Prop where
 dfr:a.defers=[]
 len:a.tmps.size=s.tm.length
 tm:∀i c,s.tm[i]?=some c→RepV w E e.F β c.val (a.tmps.getD i undef) (τ (.tm i))
 bx:∀i c,s.bx[i]?=some c→c.val≠ .un→∃cells ty,w.heap[β i c.gen]?=some (.cells cells ty (0,0))∧RepC w E e.F β c.val cells.toList (τ (.bx i))∧E (β i c.gen)=0∧(e.w.heap.size≤β i c.gen∨β i c.gen∈e.M)
 tok:∀l k,k∈τ l→k < w.heap.size∧(e.w.heap.size≤k∨k∈e.Ba)
 one:∀l l' k,k∈τ l→k∈τ l'→l=l'
 nod:∀l,(τ l).Nodup
 tb:∀l k i c,k∈τ l→s.bx[i]?=some c→c.val≠ .un→k≠β i c.gen
 bb:∀i j c d,s.bx[i]?=some c→s.bx[j]?=some d→c.val≠ .un→d.val≠ .un→β i c.gen=β j d.gen→i=j
 og:∀i c k l p n,s.tm[i]?=some c→c.told k l p n→OgX w β a s k l p n (a.tmps.getD i undef)
 z:∀k,w.heap.size≤k→E k=0
 mz:∀k∈e.M,E k=0
 mlt:∀k∈e.M,k < e.w.heap.size
 blt:∀k∈e.Ba,k < e.w.heap.size
 dis:∀k∈e.Ba,k∉e.M
 gn:∀b c,s.bx[b]?=some c→c.gen=β.G b
 fr:Fr e.w e.E w E e.Ba e.M
 fx:∀i k,e.fx i=some k→s.tm.length≤i∧β i (β.G i)=k
theorem Fr.trans {w0 : World} {E0 : Nat → Nat} {w : World} {E : Nat → Nat} {w' : World} {E' : Nat → Nat} {Ba0 M0 Ba M : List Nat} (h : Fr w0 E0 w E Ba0 M0) (h' : Fr w E w' E' Ba M)
  (hBa:∀k∈Ba,(w0.heap.size≤k∨k∈Ba0)∧k∉M0) (hM:∀k∈M,(w0.heap.size≤k∨k∈M0)∧k∉Ba0∧E k=0∧k∉Ba) (hd:∀k∈Ba0,k∉M0):Fr w0 E0 w' E' Ba0 M0:=by
 have lt:∀k,k < w0.heap.size→k < w.heap.size:=fun k hk=>Nat.lt_of_lt_of_le hk h.size
 refine⟨Nat.le_trans h.size h'.size,fun k hk h1 h2=> ?_,fun k hk hkw=> ?_,fun k hk hkw hnb he=> ?_,h'.ext.1.trans h.ext.1,h'.ext.2.1.trans h.ext.2.1,h'.ext.2.2.trans h.ext.2.2⟩
 ·obtain⟨a,b⟩:=h.same k hk h1 h2
  obtain⟨a',b'⟩:=h'.same k (lt k hk) (fun hb=>by rcases(hBa k hb).1 with h3 | h3;omega;exact h1 h3) (fun hb=>by rcases(hM k hb).1 with h3 | h3;omega;exact h2 h3)
  exact⟨a'.trans a,b'.trans b⟩
 ·obtain⟨a,b,c⟩:=h.ba k hk hkw
  by_cases h1:k∈Ba
  ·obtain⟨a',b',c'⟩:=h'.ba k h1 (lt k hkw)
   refine⟨by omega,fun i hi=>(b' i (by omega)).trans (b i hi),fun cells ty hc=> ?_⟩
   obtain⟨cells2,hc2,hs2⟩:=c cells ty hc
   obtain⟨cells3,hc3,hs3⟩:=c' cells2 ty hc2
   exact⟨cells3,hc3,hs3.trans hs2⟩
  ·have h2:k∉M:=fun h2=>(hM k h2).2.1 hk
   obtain⟨a',b'⟩:=h'.same k (lt k hkw) h1 h2
   refine⟨by omega,fun i hi=>(zeP a').trans (b i hi),fun cells ty hc=> ?_⟩
   obtain⟨cells2,hc2,hs2⟩:=c cells ty hc
   exact⟨cells2,by rw[a'];exact hc2,hs2⟩
 ·obtain⟨a,b⟩:=h.m k hk hkw hnb he
  have h1:k∉Ba:=fun h1=>(hBa k h1).2 hk
  by_cases h2:k∈M
  ·obtain⟨a',b'⟩:=h'.m k h2 (lt k hkw) h1 a
   refine⟨a',fun cells ty hc=> ?_⟩
   obtain⟨cells2,hc2,hs2⟩:=b cells ty hc
   obtain⟨cells3,hc3,hs3⟩:=b' cells2 ty hc2
   exact⟨cells3,hc3,hs3.trans hs2⟩
  ·obtain⟨a',b'⟩:=h'.same k (lt k hkw) h1 h2
   refine⟨by rw[b'];exact a,fun cells ty hc=> ?_⟩
   obtain⟨cells2,hc2,hs2⟩:=b cells ty hc
   exact⟨cells2,by rw[a'];exact hc2,hs2⟩
theorem Sim.place {e : Ent} {w : World} {E : Nat → Nat} {β : Bm} {τ : Loc → List Nat} {a : Act} {s : St} (h : Sim e w E β τ a s) {l : Loc} {d : Cell} {x : T} (hd : s.get l = some d) (hx : d.val = .t x) :
  Rep w E x (zdb w β a s l) (τ l)∧(∀j,l=.tm j→a.tmps.getD j undef=valOf x (zdb w β a s l))∧∀j,l=.bx j→∃cells ty,w.heap[β j d.gen]?=some (.cells cells ty (0,0))∧zdb w β a s l=cells.toList:=by
 cases l with
 | tm j=>
  have:=h.tm j d hd
  rw[hx,RepV]at this
  obtain⟨cs,k1,k2⟩:=this
  have e1:zdb w β a s (.tm j)=cs:=by
   show(a.tmps.getD j undef).cells.toList=cs
   rw[k2,ziE k1]
  rw[e1]
  exact⟨k1,fun j' hj=>(by cases hj;exact k2),fun j' hj=>by cases hj⟩
 | bx j=>
  obtain⟨cells,ty,k1,k2,_⟩:=h.bx j d hd (by rw[hx];exact fun h=>(by cases h))
  rw[hx]at k2
  have h4:s.bx[j]?=some d:=hd
  have e1:zdb w β a s (.bx j)=cells.toList:=by simp only[zdb,h4,k1]
  rw[e1]
  exact⟨k2,fun j' hj=>(by cases hj),fun j' hj=>by cases hj;exact⟨cells,ty,k1,rfl⟩⟩
theorem Sim.glob {e:Ent} {w:World} {E:Nat→Nat} {β:Bm} {τ:Loc→List Nat} {a:Act} {s:St} (h:Sim e w E β τ a s) {g:Nat} {x:T} (hx:Glob.gl g=some x):e.F g∧∃cs,(∀w' E',Rep w' E' x cs [])∧∀j u,cs[j]?=some u→w.cell? ⟨g,j,none⟩=some u:=by
 obtain⟨h1,cs,h2,h3⟩:=e.gok g x hx
 exact⟨h1,cs,h2,fun j u hj=>(zeP (h.fr.same g h1.1 h1.2.1 h1.2.2).1).trans (h3 j u hj)⟩
theorem Sim.move {e : Ent} {w : World} {E : Nat → Nat} {β : Bm} {τ : Loc → List Nat} {a : Act} {s : St} (h : Sim e w E β τ a s) {w' : World} {E' : Nat → Nat} {Ba M : List Nat} (hf : Fr w E w' E' Ba M) (hz : ∀ k, w'.heap.size ≤ k → E' k = 0)
  (hBa:∀k∈Ba,k < w.heap.size∧(e.w.heap.size≤k∨k∈e.Ba)∧k∉e.M∧(∀l,k∉τ l)∧∀i c,s.bx[i]?=some c→c.val≠ .un→k≠β i c.gen)
  (hM:∀k∈M,k < w.heap.size∧(e.w.heap.size≤k∨k∈e.M)∧k∉e.Ba∧E k=0∧k∉Ba∧(∀l,k∉τ l)∧∀i c,s.bx[i]?=some c→c.val≠ .un→k≠β i c.gen):Sim e w' E' β τ a s:=by
 have hM0:∀k∈M,E k=0:=fun k hk=>(hM k hk).2.2.2.1
 have far:∀k,e.F k→w'.heap[k]?=w.heap[k]?:=by
  rintro k ⟨h1,h2,h3⟩
  refine(hf.same k (Nat.lt_of_lt_of_le h1 h.fr.size) (fun hk=> ?_) (fun hk=> ?_)).1
  ·rcases(hBa k hk).2.1 with h4 | h4
   ·omega
   ·exact h2 h4
  ·rcases(hM k hk).2.1 with h4 | h4
   ·omega
   ·exact h3 h4
 have pres:∀l,Pres w E w' E' e.F (τ l):=fun l=>
  ⟨hf.mv h.z hM0 (fun k hk=>⟨(h.tok l k hk).1,fun hb=>(hBa k hb).2.2.2.1 l hk,fun hb=>(hM k hb).2.2.2.2.2.1 l hk⟩),far⟩
 have box:∀i c,s.bx[i]?=some c→c.val≠ .un→w'.heap[β i c.gen]?=w.heap[β i c.gen]?∧E' (β i c.gen)=E (β i c.gen):=by
  intro i c hc hv
  obtain⟨cells,ty,h1,_⟩:=h.bx i c hc hv
  exact hf.same _ (Array.getElem?_eq_some_iff.1 h1).1 (fun hb=>(hBa _ hb).2.2.2.2 i c hc hv rfl) (fun hb=>(hM _ hb).2.2.2.2.2.2 i c hc hv rfl)
 refine⟨h.dfr,h.len,fun i c hc=>RepV.mv (pres _) (h.tm i c hc),fun i c hc hv=> ?_,fun l k hk=>⟨Nat.lt_of_lt_of_le (h.tok l k hk).1 hf.size,(h.tok l k hk).2⟩,h.one,h.nod,h.tb,h.bb,fun i c kk l p n hc ho=> ?_,hz,fun k hk=> ?_,h.mlt,h.blt,h.dis,h.gn, ?_,h.fx⟩
 ·obtain⟨cells,ty,h1,h2,h3,h4⟩:=h.bx i c hc hv
  obtain⟨b1,b2⟩:=box i c hc hv
  exact⟨cells,ty,by rw[b1];exact h1,RepC.mv (pres _) h2,by rw[b2];exact h3,h4⟩
 ·intro d hd
  obtain⟨hle,hq⟩:=h.og i c kk l p n hc ho d hd
  refine⟨hle,fun x y ad c2 hn hx hl=> ?_⟩
  have hc:zdb w' β a s l=zdb w β a s l:=by
   cases l with
   | tm j=>rfl
   | bx j=>
    have hd':s.bx[j]?=some d:=hd
    obtain⟨b1,_⟩:=box j d hd' (by rw[hx];exact fun h=>by cases h)
    simp only[zdb,hd',b1]
  rw[hc,zk5 (h.place hd hx).1 (fun k hk=>((pres l).tok k hk).2)]at hl
  exact hq x y ad c2 hn hx hl
 ·have hkw:k < w.heap.size:=Nat.lt_of_lt_of_le (h.mlt k hk) h.fr.size
  by_cases h1:k∈Ba
  ·exact absurd hk (hBa k h1).2.2.1
  ·by_cases h2:k∈M
   ·exact(hf.m k h2 hkw h1 (h.mz k hk)).1
   ·rw[(hf.same k hkw h1 h2).2];exact h.mz k hk
 ·exact h.fr.trans hf (fun k hk=>⟨(hBa k hk).2.1,(hBa k hk).2.2.1⟩) (fun k hk=>⟨(hM k hk).2.1,(hM k hk).2.2.1,(hM k hk).2.2.2.1,(hM k hk).2.2.2.2.1⟩) h.dis
theorem zlF (a:Act) (i:Nat) (v:Value) (h:i < a.tmps.size):(a.put (some i) v).tmps.getD i undef=v:=by
 simp[Act.put,h]
theorem zid (a:Act) (i j:Nat) (v:Value) (h:j≠i):(a.put (some i) v).tmps.getD j undef=a.tmps.getD j undef:=by
 simp[Act.put,Array.getElem?_setIfInBounds,Ne.symm h]
theorem St.zfp (s:St) (i:Nat) (c:Cell) (l:Loc) (h:l≠ .tm i):(s.put (.tm i) c).get l=s.get l:=by
 cases l with
 | tm j=>
  have:i≠j:=fun e=>h (by rw[e])
  simp[St.put,St.get,List.getElem?_set,this]
 | bx j=>rfl
theorem St.zd2 (s:St) (i:Nat) (c:Cell) (l:Loc) (h:l≠ .bx i):(s.put (.bx i) c).get l=s.get l:=by
 cases l with
 | bx j=>
  have:i≠j:=fun e=>h (by rw[e])
  simp[St.put,St.get,List.getElem?_set,this]
 | tm j=>rfl
theorem St.get_put (s:St) (l:Loc) (c d:Cell) (h:s.get l=some d):(s.put l c).get l=some c:=by
 cases l with
 | tm i=>
  have:=(List.getElem?_eq_some_iff.1 h).1
  simp[St.put,St.get,this]
 | bx i=>
  have:=(List.getElem?_eq_some_iff.1 h).1
  simp[St.put,St.get,this]
def upT (τ:Loc→List Nat) (l0:Loc) (B:List Nat):Loc→List Nat:=fun l=>if l=l0 then B else τ l
theorem zbG (τ:Loc→List Nat) (l0:Loc) (B:List Nat):upT τ l0 B l0=B:=if_pos rfl
theorem zaE (τ:Loc→List Nat) {l0 l:Loc} (B:List Nat) (h:l≠l0):upT τ l0 B l=τ l:=if_neg h
theorem Sim.setT {e : Ent} {w : World} {E : Nat → Nat} {β : Bm} {τ : Loc → List Nat} {a : Act} {s : St} (h : Sim e w E β τ a s) {i : Nat} {c0 : Cell} (hi : s.tm[i]? = some c0) {x : AV} {v : Value} {B : List Nat} (hr : RepV w E e.F β x v B)
  (hB:∀k∈B,k < w.heap.size∧(e.w.heap.size≤k∨k∈e.Ba)∧(∀l,l≠ .tm i→k∉τ l)∧∀j c,s.bx[j]?=some c→c.val≠ .un→k≠β j c.gen) (hn:B.Nodup)
  (og:Option (Loc × List Nat × Nat)) (hog:∀k l p n,(Cell.mk x og (c0.ver+1) c0.gen).told k l p n→l≠ .tm i∧OgX w β a s k l p n v):
  Sim e w E β (upT τ (.tm i) B) (a.put (some i) v) (s.put (.tm i) ⟨x,og,c0.ver+1,c0.gen⟩):=by
 have hlt:i < s.tm.length:=(List.getElem?_eq_some_iff.1 hi).1
 have hla:i < a.tmps.size:=by rw[h.len];exact hlt
 have gt:∀j c,(s.put (.tm i) ⟨x,og,c0.ver+1,c0.gen⟩).tm[j]?=some c→(j=i∧c=⟨x,og,c0.ver+1,c0.gen⟩)∨(j≠i∧s.tm[j]?=some c):=by
  intro j c hc
  by_cases hj:j=i
  ·subst hj
   rw[show(s.put (.tm j) ⟨x,og,c0.ver+1,c0.gen⟩).tm[j]?=some ⟨x,og,c0.ver+1,c0.gen⟩ from St.get_put s (.tm j) _ c0 hi]at hc
   exact .inl ⟨rfl,(Option.some.inj hc).symm⟩
  ·exact .inr ⟨hj,by rw[←hc];exact(St.zfp s i _ (.tm j) (fun e=>hj (by injection e))).symm⟩
 have cells_other:∀l,l≠ .tm i→zdb w β (a.put (some i) v) (s.put (.tm i) ⟨x,og,c0.ver+1,c0.gen⟩) l=zdb w β a s l:=by
  intro l hl
  cases l with
  | tm j=>
   show((a.put (some i) v).tmps.getD j undef).cells.toList=_
   rw[zid a i j v (fun e=>hl (by rw[e]))]
   rfl
  | bx j=>rfl
 refine⟨h.dfr, ?_,fun j c hc=> ?_,h.bx,fun l k hk=> ?_,fun l l' k hk hk'=> ?_,fun l=> ?_,fun l k j c hk hc hv=> ?_,h.bb,fun j c kk l p n hc ho=> ?_,h.z,h.mz,h.mlt,h.blt,h.dis,h.gn,h.fr,fun i' k hk=>by have:=h.fx i' k hk;simpa [St.put] using this⟩
 ·show(a.tmps.setIfInBounds i v).size=(s.tm.set i _).length
  rw[Array.size_setIfInBounds,List.length_set]
  exact h.len
 ·rcases gt j c hc with ⟨rfl,rfl⟩ | ⟨hj,hc'⟩
  ·rw[zlF a j v hla,zbG]
   exact hr
  ·rw[zid a i j v hj,zaE τ B (fun e=>hj (by injection e))]
   exact h.tm j c hc'
 ·by_cases hl:l=.tm i
  ·subst hl
   rw[zbG]at hk
   exact⟨(hB k hk).1,(hB k hk).2.1⟩
  ·rw[zaE τ B hl]at hk
   exact h.tok l k hk
 ·by_cases hl:l=.tm i<;>by_cases hl':l'=.tm i
  ·rw[hl,hl']
  ·subst hl
   rw[zbG]at hk
   rw[zaE τ B hl']at hk'
   exact absurd hk' ((hB k hk).2.2.1 l' hl')
  ·subst hl'
   rw[zbG]at hk'
   rw[zaE τ B hl]at hk
   exact absurd hk ((hB k hk').2.2.1 l hl)
  ·rw[zaE τ B hl]at hk
   rw[zaE τ B hl']at hk'
   exact h.one l l' k hk hk'
 ·by_cases hl:l=.tm i
  ·rw[hl,zbG];exact hn
  ·rw[zaE τ B hl];exact h.nod l
 ·by_cases hl:l=.tm i
  ·subst hl
   rw[zbG]at hk
   exact(hB k hk).2.2.2 j c hc hv
  ·rw[zaE τ B hl]at hk
   exact h.tb l k j c hk hc hv
 ·rcases gt j c hc with ⟨rfl,rfl⟩ | ⟨hj,hc'⟩
  ·obtain⟨h1,h2⟩:=hog kk l p n ho
   intro d hd
   rw[St.zfp s j _ l h1]at hd
   rw[cells_other l h1,zlF a j v hla]
   exact h2 d hd
  ·have hq:=h.og j c kk l p n hc' ho
   intro d hd
   rw[zid a i j v hj]
   by_cases hl:l=.tm i
   ·subst hl
    rw[St.get_put s (.tm i) _ c0 hi]at hd
    have hd':=(Option.some.inj hd).symm
    subst hd'
    obtain⟨h1,_⟩:=hq c0 hi
    exact⟨by show n≤c0.ver+1;omega,fun x y ad c2 hv=>by have:c0.ver+1=n:=hv;omega⟩
   ·rw[St.zfp s i _ l hl]at hd
    rw[cells_other l hl]
    exact hq d hd
end Go.Proofs.YtgmidllbkjdnnaaGreatDoor.Flat
namespace Go.Proofs.YtgmidllbkjdnnaaGreatDoor.Flat
set_option linter.unusedVariables false
set_option linter.unusedSimpArgs false
set_option linter.unusedSectionVars false
variable [Glob]
def ev {α:Type} (P:Program):Sem α→Option α
 | .pure a=>some a
 | .program k=>ev P (k P)
 | _=>none
theorem zow {α:Type} {P:Program}:∀{m:Sem α} {a:α},ev P m=some a→∀w,m.run P w=.ok a w
 | .pure b,a,h,w=>by rw[ev]at h;cases h;rfl
 | .program k,a,h,w=>by rw[ev]at h;exact zow h w
 | .load ..,_,h,_=>by simp[ev]at h
 | .store ..,_,h,_=>by simp[ev]at h
 | .new ..,_,h,_=>by simp[ev]at h
 | .shape ..,_,h,_=>by simp[ev]at h
 | .freeze ..,_,h,_=>by simp[ev]at h
 | .frozen ..,_,h,_=>by simp[ev]at h
 | .getObj ..,_,h,_=>by simp[ev]at h
 | .setObj ..,_,h,_=>by simp[ev]at h
 | .choose ..,_,h,_=>by simp[ev]at h
 | .sys ..,_,h,_=>by simp[ev]at h
 | .mark ..,_,h,_=>by simp[ev]at h
 | .halt ..,_,h,_=>by simp[ev]at h
mutual
def T.skel:T→T
 | .v x=>.v x
 | .st fs=>.st (skels fs)
 | .sl o sz xs=>.sl o sz xs
 | .xl sz _=>.xl sz []
 | .op=>.op
def skels:List T→List T
 | []=>[]
 | f::fs=>f.skel::skels fs
end
def Cell.skel (c:Cell):Cell:=match c.val with
 | .t x=>{c with val:=.t x.skel}
 | _=>c
inductive FL where
 | l (l:Loc)
 | sk (b:Nat)
deriving DecidableEq
def Loc.fl:Loc→List FL
 | .tm i=>[.l (.tm i)]
 | .bx i=>[.l (.bx i),.sk i]
def St.getF (s:St):FL→Option Cell
 | .l l=>s.get l
 | .sk b=>(s.get (.bx b)).map Cell.skel
def M (α:Type):=St→Option (α × St × List FL × List FL)
namespace M
def pure {α:Type} (a:α):M α:=fun s=>some (a,s,[],[])
def bind {α β:Type} (m:M α) (f:α→M β):M β:=fun s=>
 match m s with
 | none=>none
 | some (a,s1,r,w)=>match f a s1 with
  | none=>none
  | some (b,s2,r',w')=>some (b,s2,r++r',w++w')
def fail {α:Type}:M α:=fun _=>none
def get (l:Loc):M Cell:=fun s=>(s.get l).map (·,s,[.l l],[])
def getS (b:Nat):M Cell:=fun s=>(s.get (.bx b)).map fun c=>(c.skel,s,[.sk b],[])
def put (l:Loc) (c:Cell):M Unit:=fun s=>(s.get l).map fun _=>((),s.put l c,[],l.fl)
def putK (k:Bool) (l:Loc) (c:Cell):M Unit:=fun s=>(s.get l).map fun _=>((),s.put l c,[],if k=true then [.l l]else l.fl)
def lift {α:Type} (o:Option α):M α:=fun s=>o.map (·,s,[],[])
def when (b:Bool):M Unit:=fun s=>if b=true then some ((),s,[],[])else none
end M
instance:Monad M where
 pure:=M.pure
 bind:=M.bind
mutual
def T.at:List Nat→T→Option T
 | [],x=>some x
 | i::p,.st fs=>ats i p fs
 | _::_,_=>none
def ats:Nat→List Nat→List T→Option T
 | _,_,[]=>none
 | 0,p,f::_=>f.at p
 | i+1,p,_::fs=>ats i p fs
end
mutual
def T.put:List Nat→T→T→Option T
 | [],_,y=>some y
 | i::p,.st fs,y=>(puts i p fs y).map .st
 | _::_,_,_=>none
def puts:Nat→List Nat→List T→T→Option (List T)
 | _,_,[],_=>none
 | 0,p,f::fs,y=>(f.put p y).map (·::fs)
 | i+1,p,f::fs,y=>(puts i p fs y).map (f::·)
end
mutual
def T.flat:T→Option (List Value)
 | .v x=>some [x]
 | .st fs=>flats fs
 | .sl _ _ _=>none
 | .xl _ _=>none
 | .op=>none
def flats:List T→Option (List Value)
 | []=>some []
 | f::fs=>match f.flat,flats fs with
  | some a,some b=>some (a++b)
  | _,_=>none
end
mutual
def T.hasX:T→Bool
 | .st fs=>hasXs fs
 | .xl _ _=>true
 | _=>false
def hasXs:List T→Bool
 | []=>false
 | f::fs=>f.hasX||hasXs fs
end
mutual
def T.shX (b:Bool):T→T
 | .v x=>.v x
 | .st fs=>.st (shXs b fs)
 | .sl o sz xs=>if b=true∧o=true∧xs.isEmpty=true then .xl sz []else .sl false sz xs
 | .xl sz xs=>.xl sz xs
 | .op=>.op
def shXs (b:Bool):List T→List T
 | []=>[]
 | f::fs=>f.shX b::shXs b fs
end
mutual
def T.pub:T→T
 | .v x=>.v x
 | .st fs=>.st (pubs fs)
 | .sl _ sz xs=>.sl false sz xs
 | .xl sz xs=>.sl false sz (pubs xs)
 | .op=>.op
def pubs:List T→List T
 | []=>[]
 | f::fs=>f.pub::pubs fs
end
mutual
def T.owned:T→Bool
 | .v _=>true
 | .st fs=>zfE fs
 | .sl _ _ _=>false
 | .xl _ xs=>zfE xs
 | .op=>false
def zfE:List T→Bool
 | []=>true
 | f::fs=>f.owned&&zfE fs
end
def AV.cp:AV→AV
 | .t x=>.t x.sh
 | .tup xs=>.tup (shs xs)
 | .xr _ _ _ _=>.un
 | x=>x
def AV.deX:AV→AV
 | .xr _ _ _ _=>.un
 | x=>x
def zgc (g:TypeId→List Value→Option (T × List Value)):List TypeId→List Value→Option (List T × List Value)
 | [],cs=>some ([],cs)
 | t::ts,cs=>match g t cs with
  | none=>none
  | some (x,r)=>match zgc g ts r with
   | none=>none
   | some (xs,r')=>some (x::xs,r')
def ofVal (P:Program):Nat→TypeId→List Value→Option (T × List Value)
 | 0,_,_=>none
 | n+1,t,cs=>match P.underlying t with
  | some (.struct fields)=>(zgc (ofVal P n) (fields.toList.map (·.type)) cs).map fun p=>(.st p.1,p.2)
  | some (.array len e)=>(zgc (ofVal P n) (List.replicate len e) cs).map fun p=>(.st p.1,p.2)
  | some (.slice e)=>match cs,P.info? e with
   | .slice none 0 0::r,some i=>if 0 < i.size then some (.sl true i.size [],r)else none
   | _,_=>none
  | some _=>match cs with
   | x::r=>if okv x=true then some (.v x,r)else none
   | []=>none
  | none=>none
def zje (P:Program) (t:TypeId) (v:Value):Option T:=
 if okv v=true then some (.v v)else match ofVal P 9 t v.cells.toList with
  | some (x,[])=>(match x,v with
   | .st _,.agg _=>some x
   | .sl ..,.slice ..=>some x
   | _,_=>none)
  | _=>none
def zeroT (P:Program) (t:TypeId):Option T:=match P.info? t with
 | some i=>match i.zero with
  | some z=>zje P t z
  | none=>none
 | none=>none
def sizeT (P:Program) (t:TypeId):Option Nat:=(P.info? t).map (·.size)
def fits (P:Program) (t:TypeId) (x:T):Bool:=
 sizeT P t==some x.size&&(match P.underlying t,x with
  | some (.struct _),.st _ | some (.array _ _),.st _=>true
  | some (.struct _),_ | some (.array _ _),_=>false
  | some _,.st _=>false
  | some _,_=>true
  | none,_=>false)
def zgd (P:Program) (el:TypeId) (fs:List T):Bool:=fs.all fun y=>fits P el y
def arrOf (P:Program) (t:TypeId):Option (Nat × TypeId):=match P.underlying t with
 | some (.array len el)=>some (len,el)
 | _=>none
def fnT (P:Program) (t:TypeId):Bool:=match P.underlying t with
 | some (.func ..)=>true
 | _=>false
mutual
def AV.ptrs:AV→List (Nat × Nat)
 | .ptr b g _ _=>[(b,g)]
 | .fref _ cs | .fn _ cs=>ptrss cs
 | _=>[]
def ptrss:List AV→List (Nat × Nat)
 | []=>[]
 | x::xs=>x.ptrs++ptrss xs
end
mutual
def AV.ren (ρ:Nat→Nat):AV→AV
 | .ptr b _ p o=>.ptr (ρ b) 0 p o
 | .fref f cs=>.fref f (rens ρ cs)
 | .fn f cs=>.fn f (rens ρ cs)
 | x=>x
def rens (ρ:Nat→Nat):List AV→List AV
 | []=>[]
 | x::xs=>x.ren ρ::rens ρ xs
end
def AV.handed:AV→Bool
 | .t _ | .ref _ | .fref _ _ | .fn _ _ | .ptr _ _ _ _=>true
 | _=>false
def AV.plain:AV→Bool
 | .t _ | .tup _=>true
 | _=>false
def uniq:List Nat→List Nat
 | []=>[]
 | b::bs=>if b∈uniq bs then uniq bs else b::uniq bs
def posOf:List Nat→Nat→Nat
 | [],_=>0
 | c::cs,b=>if b=c then 0 else posOf cs b+1
structure Env where
 P:Program
 call:FuncId→List AV→List AV→Option (AV × List AV)
 own:FuncId→Nat→Bool
 fin:List Loc
 keep:Nat→Option (List Nat × List Nat)
 mkx:Nat→Bool
section
variable (e:Env)
def rdO (t:TypeId):Operand→M AV
 | .tmp i=>do
  let c←M.get (.tm i)
  match c.val with
  | .un | .nd=>M.fail
  | x=>M.pure x.cp
 | .const v=>M.lift ((zje e.P t v).map .t)
 | .func f=>M.pure (.fn f [])
 | .global _=>M.fail
def rdS (x:Operand):M (Option (List T)):=match x with
 | .tmp i=>do
  let c←M.get (.tm i)
  match c.val with
  | .t (.st fs)=>M.pure (some fs)
  | _=>M.pure none
 | _=>M.pure none
def zmJ (P:Program) (t:TypeId):Value→Value→Option Bool
 | .int k a,.int k' b=>(match P.underlying t with
  | some (.int _)=>if k=k' then some (a==b)else none
  | _=>none)
 | .bool a,.bool b=>(match P.underlying t with
  | some .bool=>some (a==b)
  | _=>none)
 | .string a,.string b=>(match P.underlying t with
  | some .string=>some (a.toList==b.toList)
  | _=>none)
 | _,_=>none
def zd3 (P:Program):Nat→List Field→List T→List T→Option Bool
 | _,[],[],[]=>some true
 | i,f::fs,.v a::xs,.v b::ys=>if f.name≠ "_"∧f.offset=i then(match zmJ P f.type a b,zd3 P (i+1) fs xs ys with
  | some r,some q=>some (r&&q)
  | _,_=>none)else none
 | _,_,_,_=>none
def stEq (P:Program) (t:TypeId) (xs ys:List T):Option Bool:=match P.underlying t with
 | some (.struct fs)=>if P.stoodInHeld t=false∧P.eqGuardType P.depth t=false then zd3 P 0 fs.toList xs ys else none
 | _=>none
def rdV (x:Operand):M Value:=do
 match x with
 | .const v=>if okv v=true then M.pure v else M.fail
 | .tmp i=>do
  let c←M.get (.tm i)
  match c.val with
  | .t (.v u)=>M.pure u
  | _=>M.fail
 | _=>M.fail
def rdI (x:Operand):M Int:=do
 match (←rdV x)with
 | .int _ n=>M.pure n
 | _=>M.fail
def ogOf (i:Nat) (c:Cell):Option (Loc × List Nat × Nat):=match c.val with
 | .t (.sl true _ _)=>some (.tm i,[],c.ver)
 | .t (.sl false _ _)=>(match c.og with
  | some g=>some g
  | none=>some (.tm i,[],c.ver))
 | _=>none
def rdAt (l:Loc) (n:Nat):M T:=do
 let d←M.get l
 M.when (d.ver==n)
 match d.val with
 | .t x=>M.pure x
 | _=>M.fail
def rdX (l:Loc) (p:List Nat) (n:Nat):M T:=do
 let x←rdAt l n
 M.lift (x.get p)
def takeX (l:Loc) (p:List Nat) (n:Nat):M AV:=do
 let d←M.get l
 M.when (d.ver==n)
 match d.val with
 | .t x=>do
  let z←M.lift (x.get p)
  let x'←M.lift (x.rep p z.sh)
  M.putK (x.far p) l {d with val:=.t x'}
  M.pure (.t z)
 | _=>M.fail
def wrX (dst:Option Nat) (k:Bool) (l:Loc) (p:List Nat) (n:Nat):M Unit:=match dst with
 | none=>M.pure ()
 | some d=>do
  M.when (decide (l≠ .tm d))
  let c←M.get (.tm d)
  M.put (.tm d) ⟨.xr k l p n,none,c.ver+1,c.gen⟩
def takeO (i:Nat):M AV:=do
 let c←M.get (.tm i)
 match c.val with
 | .t (.sl true sz xs)=>do
  M.put (.tm i) {c with val:=.t (.sl false sz xs)}
  M.pure (.t (.sl true sz xs))
 | .t (.xl sz xs)=>do
  M.put (.tm i) {c with val:=.t .op}
  M.pure (.t (.xl sz xs))
 | .xr false l p n=>takeX l p n
 | .t (.sl false _ _)=>(match c.og with
  | some (l,p,n)=>takeX l p n
  | none=>M.fail)
 | _=>M.fail
def mvO (t:TypeId):Operand→M AV
 | .tmp i=>do
  let c←M.get (.tm i)
  match c.val with
  | .un | .nd=>M.fail
  | .xr false l p n=>takeX l p n
  | x=>do
   M.put (.tm i) {c with val:=x.cp}
   M.pure x
 | x=>rdO e t x
def mvTup (t:TypeId):Operand→M AV
 | .tmp i=>do
  let c←M.get (.tm i)
  match c.val with
  | .tup _=>mvO e t (.tmp i)
  | _=>rdO e t (.tmp i)
 | x=>rdO e t x
def mvFin (b:Bool) (t:TypeId) (x:Operand):M AV:=
 match b,x with
 | true,.tmp i=>do
  let c←M.get (.tm i)
  match c.val,c.og with
  | .t (.sl false _ _),some (l,p,n)=>do
   let d←M.get l
   match d.val with
   | .t y=>(match y.get p with
    | some (.sl true _ _)=>if d.ver==n then takeO i else mvO e t x
    | _=>mvO e t x)
   | _=>mvO e t x
  | _,_=>mvO e t x
 | _,x=>mvO e t x
def wr (dst:Option Nat) (x:AV) (og:Option (Loc × List Nat × Nat)):M Unit:=match dst with
 | none=>M.pure ()
 | some d=>do
  let c←M.get (.tm d)
  M.put (.tm d) ⟨x.deX,(match og with | some (.tm j,p,n)=>if j==d then none else some (.tm j,p,n) | g=>g),c.ver+1,c.gen⟩
inductive Pl where
 | vr (b:Nat) (p:List Nat) (o:Nat) (c:Cell)
 | rf (x:T)
 | ff (f:FuncId) (caps:List AV)
 | xp (l:Loc) (p:List Nat) (n:Nat)
def rdP:Operand→M Pl
 | .tmp i=>do
  let c←M.get (.tm i)
  match c.val with
  | .ptr b g p o=>do
   let d←M.get (.bx b)
   if d.gen==g then M.pure (.vr b p o d)else M.fail
  | .ref x=>M.pure (.rf x)
  | .fref f caps=>M.pure (.ff f caps)
  | .xr true l p n=>M.pure (.xp l p n)
  | _=>M.fail
 | _=>M.fail
def rdPS:Operand→M Pl
 | .tmp i=>do
  let c←M.get (.tm i)
  match c.val with
  | .ptr b g p o=>do
   let d←M.getS b
   if d.gen==g then M.pure (.vr b p o d)else M.fail
  | .ref x=>M.pure (.rf x)
  | .fref f caps=>M.pure (.ff f caps)
  | .xr true l p n=>M.pure (.xp l p n)
  | _=>M.fail
 | _=>M.fail
def zfM (t:TypeId) (f:Nat):Option (TypeId × Nat):=match e.P.underlying t with
 | some (.struct fs)=>(match fs[f]? with
  | some d=>(match sizeT e.P d.type with
   | some n=>if 0 < n then some (d.type,d.offset)else none
   | none=>none)
  | none=>none)
 | _=>none
def elemOf (t:TypeId):Option (TypeId × Nat):=match e.P.underlying t with
 | some (.slice el)=>(sizeT e.P el).map fun n=>(el,n)
 | _=>none
def seal1 (wri:Bool):AV→M (AV × List Nat)
 | .ptr b g p o=>if wri=true then M.pure (.ptr b g p o,[])else do
  let d←M.get (.bx b)
  if d.gen==g then
   match p,o,d.val with
   | [],0,.t x=>M.pure (.ref x.sh,[b])
   | [],0,.fn f caps=>M.pure (.fref f caps,[b])
   | _,_,_=>M.fail
  else M.fail
 | x=>M.pure (x,[])
def seals (h:FuncId):Nat→List AV→M (List AV × List Nat)
 | _,[]=>M.pure ([],[])
 | i,x::xs=>do
  let (y,b1)←seal1 (e.own h (1000+i)) x
  let (ys,b2)←seals h (i+1) xs
  M.pure (y::ys,b1++b2)
def rdArg (f:FuncId) (i:Nat) (x:Operand) (t:TypeId):M (AV × List Nat):=match x with
 | .tmp j=>do
  let c←M.get (.tm j)
  match c.val with
  | .fn h caps=>do
   let (cs,b)←seals e h 0 caps
   M.pure (AV.fn h cs,b)
  | _=>if e.own f i=true then(do
    let y←takeO j
    M.pure (y,[]))else(do
    let y←rdO e t x
    M.pure (y,[]))
 | x=>do
  let y←rdO e t x
  M.pure (y,[])
def zie (f:FuncId):Nat→List (Operand × TypeId)→M (List AV × List Nat)
 | _,[]=>M.pure ([],[])
 | i,(x,t)::r=>do
  let (y,b1)←rdArg e f i x t
  let (ys,b2)←zie f (i+1) r
  M.pure (y::ys,b1++b2)
def handOver (ps:List (Nat × Nat)):List Nat→M (List AV)
 | []=>M.pure []
 | b::bs=>do
  let d←M.get (.bx b)
  M.when (ps.all fun q=>q.1 !=b||q.2==d.gen)
  match d.val with
  | .t x=>do
   M.put (.bx b) {d with val:=.un}
   let ys←handOver ps bs
   M.pure (AV.t x::ys)
  | _=>M.fail
def zjf:List Nat→List AV→M Unit
 | [],[]=>M.pure ()
 | b::bs,.t x::xs=>do
  let d←M.get (.bx b)
  M.put (.bx b) {d with val:=.t x,ver:=d.ver+1}
  zjf bs xs
 | _,_=>M.fail
def held:List Nat→M Unit
 | []=>M.pure ()
 | b::bs=>do
  let d←M.get (.bx b)
  match d.val with
  | .un=>M.fail
  | _=>held bs
def zho (o:Oper) (f:FuncId) (xs:List (Operand × TypeId)) (more:List AV) (sb0:List Nat):M Unit:=do
 let (ys,sb)←zie e f 0 xs
 let zs:=ys++more
 M.when (zs.all AV.handed)
 let ps:=ptrss zs
 let bs:=uniq (ps.map (·.1))
 let fb←handOver ps bs
 held (sb0++sb)
 let (r,outs)←M.lift (e.call f (rens (posOf bs) zs) fb)
 M.when r.plain
 zjf bs outs
 wr o.dst r none
def zeR (ts:List TypeId):List (Nat × Operand)→List T→M (List T)
 | [],fs=>M.pure fs
 | (i,x)::r,fs=>do
  let t←M.lift ts[i]?
  let old←M.lift fs[i]?
  let y←mvO e t x
  match y with
  | .t y=>do
   M.when (y.size==old.size)
   zeR ts r (fs.set i y)
  | _=>M.fail
def zfb (t:TypeId):List (Nat × Operand)→List T→M (List T)
 | [],fs=>M.pure fs
 | (i,x)::r,fs=>do
  let old←M.lift fs[i]?
  let y←rdO e t x
  match y with
  | .t y=>do
   M.when (y.size==old.size)
   zfb t r (fs.set i y.sh)
  | _=>M.fail
def zhE (P:Program):List Field→List T→Nat→Bool
 | [],[],_=>true
 | f::fs,z::zs,o=>f.offset==o&&sizeT P f.type==some z.size&&zhE P fs zs (o+z.size)
 | _,_,_=>false
def rdVs:List Operand→M (List Value)
 | []=>M.pure []
 | x::xs=>do
  let v←rdV x
  let vs←rdVs xs
  M.pure (v::vs)
def rdCap:Operand→M AV
 | .tmp j=>do
  let c←M.get (.tm j)
  match c.val with
  | .ptr b g p q=>M.pure (AV.ptr b g p q)
  | .ref x=>M.pure (AV.ref x)
  | .fref f caps=>M.pure (AV.fref f caps)
  | _=>M.fail
 | _=>M.fail
def zjg:List Operand→M (List AV)
 | []=>M.pure []
 | x::xs=>do
  let v←rdCap x
  let vs←zjg xs
  M.pure (v::vs)
def rdL:Operand→M (Option (Loc × List Nat × Nat))
 | .tmp j=>do
  let c←M.get (.tm j)
  match c.val with
  | .t x=>if x.hasX=true then M.pure (some (.tm j,[],c.ver))else M.pure none
  | .xr false l p n=>M.pure (some (l,p,n))
  | _=>M.pure none
 | _=>M.pure none
def rdM:Operand→M (Option (Loc × List Nat × Nat))
 | .tmp j=>do
  let c←M.get (.tm j)
  match c.val with
  | .t (.xl _ _)=>M.pure (some (.tm j,[],c.ver))
  | .xr false l p n=>M.pure (some (l,p,n))
  | _=>M.pure none
 | _=>M.pure none
def idxX (dst:Option Nat) (n:Nat) (i:Int) (l:Loc) (p:List Nat) (m:Nat):M Unit:=do
 let z←rdX l p m
 match z with
 | .xl sz xs=>do
  M.when (sz==n&&decide (0≤i))
  let _←M.lift xs[i.toNat]?
  wrX dst true l (p++[i.toNat]) m
 | .sl _ sz xs=>do
  M.when (sz==n&&decide (0≤i))
  let y←M.lift xs[i.toNat]?
  wr dst (.ref y) none
 | _=>M.fail
def lenX (dst:Option Nat) (l:Loc) (p:List Nat) (m:Nat):M Unit:=do
 let z←rdX l p m
 match z with
 | .xl _ xs=>wr dst (.t (.v (.int .i64 xs.length))) none
 | .sl _ _ xs=>wr dst (.t (.v (.int .i64 xs.length))) none
 | _=>M.fail
def appX (el:TypeId) (n bytes:Nat) (dst:Option Nat) (sz:Nat) (xs:List T) (u:TypeId) (y:Operand):M Unit:=do
 let z←M.lift (zeroT e.P el)
 M.when (sz==n&&z.size==n&&decide (0 < n)&&decide (0 < bytes))
 let b←mvO e u y
 match b with
 | .t (.xl sz' ys)=>do
  let _←M.lift (elemOf e u)
  M.when (sz'==n&&decide ((xs.length+ys.length) * bytes≤140737488355328))
  wr dst (.t (.xl sz (xs++ys))) none
 | .t (.sl _ sz' ys)=>do
  let _←M.lift (elemOf e u)
  M.when (sz'==n&&decide ((xs.length+ys.length) * bytes≤140737488355328))
  wr dst (.t (.xl sz (xs++ys))) none
 | _=>M.fail
def mkD (dst:Option Nat) (k:Nat):Bool:=match dst with
 | some d=>e.mkx (d+k)
 | none=>false
def lent:List (Operand × TypeId)→M (List AV)
 | []=>M.pure []
 | (x,t)::r=>do
  let q←rdL x
  let y←(match q with
   | some (l,p,n)=>do
    let z←rdX l p n
    M.pure (AV.t z.pub)
   | none=>rdO e t x)
  match y with
  | .t y=>do
   let ys←lent r
   M.pure (AV.t y::ys)
  | _=>M.fail
def zjh (o:Oper) (f:FuncId) (xs:List (Operand × TypeId)):M Unit:=do
 let ys←lent e xs
 let (r,outs)←M.lift (e.call f ys [])
 match r,outs with
 | .t y,[]=>do
  M.when y.owned
  wr o.dst (.t y) none
 | .tup ys,[]=>do
  M.when (zfE ys)
  wr o.dst (.tup ys) none
 | _,_=>M.fail
def T.mkA (b:Bool) (x:T):T:=if b=true then x.shX true else x
def AV.mkA (b:Bool):AV→AV
 | .t x=>.t (x.mkA b)
 | x=>x
def isSl:T→Bool
 | .sl ..=>true
 | _=>false
def binS (o:Oper) (op:BinOp) (t:TypeId) (y:Operand) (fs:List T):M Unit:=do
 match (←rdS y)with
 | some gs=>(match op with
  | .eql=>do
   let r←M.lift (stEq e.P t fs gs)
   wr o.dst (.t (.v (.bool r))) none
  | .neq=>do
   let r←M.lift (stEq e.P t fs gs)
   wr o.dst (.t (.v (.bool (!r)))) none
  | _=>M.fail)
 | none=>M.fail
def loadP (o:Oper) (t:TypeId) (pl:Pl):M Unit:=match pl with
 | .vr b p off c=>(match c.val with
  | .t x=>(match x.at p,x.off p with
   | some y,some q=>do
    M.when (q==off&&fits e.P t y)
    if y.hasX=true then wrX o.dst false (.bx b) p c.ver else wr o.dst (.t y.sh) (if isSl y=true then some (.bx b,p,c.ver)else none)
   | _,_=>M.fail)
  | .fn f caps=>(match p,off with
   | [],0=>do
    M.when (fnT e.P t)
    wr o.dst (.fn f caps) none
   | _,_=>M.fail)
  | _=>M.fail)
 | .rf x=>do
  M.when (fits e.P t x)
  wr o.dst (.t x.sh) none
 | .ff f caps=>do
  M.when (fnT e.P t)
  wr o.dst (.fn f caps) none
 | .xp l p n=>do
  let x←rdAt l n
  let y←M.lift (x.get p)
  M.when (x.far p&&fits e.P t y)
  if y.hasX=true then wrX o.dst false l p n else wr o.dst (.t y.sh) none
def zji (o:Oper) (t:TypeId) (a x:Operand) (pl:Pl):M Unit:=match pl with
 | .vr b p off _=>do
  let y0←mvFin e (decide (Loc.bx b∈e.fin)) t x
  let y←M.pure (y0.mkA (e.mkx (b+2000000)))
  let c←M.get (.bx b)
  match c.val,y with
  | .t old,.t y=>(match old.at p,old.off p,old.put p y with
   | some y0,some q,some new=>do
    M.when (q==off&&fits e.P t y0&&y.size==y0.size)
    M.put (.bx b) {c with val:=.t new,ver:=c.ver+1}
    wr o.dst .nd none
   | _,_,_=>M.fail)
  | _,_=>M.fail
 | .xp _ _ _=>do
  let y←mvO e t x
  match (←rdP a)with
  | .xp l p n=>do
   let c←M.get l
   M.when (c.ver==n)
   match c.val,y with
   | .t old,.t y=>do
    let y0←M.lift (old.get p)
    let new←M.lift (old.rep p (y.shX false))
    M.when (old.far p&&fits e.P t y0&&y.size==y0.size)
    M.put l {c with val:=.t new,og:=none,ver:=c.ver+1}
    wr o.dst .nd none
   | _,_=>M.fail
  | _=>M.fail
 | _=>M.fail
def zif (o:Oper) (f q:Nat) (c:Cell):M Unit:=match c.val with
 | .ptr b g p off=>wr o.dst (.ptr b g (p++[f]) (off+q)) none
 | .ref (.st fs)=>(match fs[f]? with
  | some y=>do
   M.when (sizes (fs.take f)==q)
   wr o.dst (.ref y) none
  | none=>M.fail)
 | .xr true l p n=>do
  let z←rdX l p n
  match z with
  | .st fs=>do
   M.when (sizes (fs.take f)==q&&decide (f < fs.length))
   wrX o.dst true l (p++[f]) n
  | _=>M.fail
 | _=>M.fail
def zjj (el:TypeId) (len:Nat) (dst:Option Nat) (fs:List T) (i:Int):M Unit:=do
 M.when (zgd e.P el fs&&decide (0≤i∧i < (len:Int)))
 let y←M.lift fs[i.toNat]?
 wr dst (.ref y) none
def fire (o:Oper):M Unit:=match o.op with
 | .move x=>do
  match (←rdM x)with
  | some (l,p,n)=>wrX o.dst false l p n
  | none=>do
  let y←mvTup e o.type x
  let og←(match x with
   | .tmp j=>do
    let c←M.get (.tm j)
    M.pure (ogOf j c)
   | _=>M.pure none)
  wr o.dst y og
 | .assign x=>do
  let y←mvFin e (match o.dst with | some d=>decide (Loc.tm d∈e.fin) | none=>false) o.type x
  wr o.dst (y.mkA (mkD e o.dst 0)) none
 | .pick c a b=>do
  match (←rdV c)with
  | .bool q=>do
   let y←rdO e o.type (if q=true then a else b)
   wr o.dst y none
  | _=>M.fail
 | .alloc t=>do
  let z←M.lift (zeroT e.P t)
  match o.dst with
  | some d=>do
   let c←M.get (.bx d)
   M.put (.bx d) ⟨.t (z.mkA (mkD e o.dst 0)),none,c.ver+1,c.gen+1⟩
   wr o.dst (.ptr d (c.gen+1) [] 0) none
  | none=>M.fail
 | .box t x=>do
  let y←mvO e t x
  match o.dst,y with
  | some d,.t y=>do
   M.when (fits e.P t y)
   let c←M.get (.bx d)
   M.put (.bx d) ⟨.t y,none,c.ver+1,c.gen+1⟩
   wr o.dst (.ptr d (c.gen+1) [] 0) none
  | some d,.fn f caps=>do
   let c←M.get (.bx d)
   M.put (.bx d) ⟨.fn f caps,none,c.ver+1,c.gen+1⟩
   wr o.dst (.ptr d (c.gen+1) [] 0) none
  | _,_=>M.fail
 | .load t a=>do
  let pl←rdPS a
  loadP e o t pl
 | .store t a x=>do
  let pl←rdP a
  zji e o t a x pl
 | .fieldAddr t x f=>do
  let (ft,q)←M.lift (zfM e t f)
  match x with
  | .tmp i=>do
   let c←M.get (.tm i)
   zif o f q c
  | _=>M.fail
 | .field t x f=>do
  let (ft,q)←M.lift (zfM e t f)
  match (←rdL x)with
  | some (l,p,n)=>do
   let z←rdX l p n
   match z with
   | .st fs=>(match fs[f]? with
    | some y=>do
     M.when (sizes (fs.take f)==q&&fits e.P ft y)
     if y.hasX=true then wrX o.dst false l (p++[f]) n else wr o.dst (.t y.sh) none
    | none=>M.fail)
   | _=>M.fail
  | none=>do
   match (←rdO e t x)with
   | .t (.st fs)=>(match fs[f]? with
    | some y=>do
     M.when (sizes (fs.take f)==q&&fits e.P ft y)
     wr o.dst (.t y) none
    | none=>M.fail)
   | _=>M.fail
 | .indexAddr t x ix=>(match arrOf e.P t with
  | some (len,el)=>do
   let i←rdI ix
   let n←M.lift (sizeT e.P el)
   match x with
   | .tmp j=>do
    let c←M.get (.tm j)
    match c.val with
    | .ptr b g p off=>do
     M.when (decide (0≤i∧i < (len:Int)))
     wr o.dst (.ptr b g (p++[i.toNat]) (off+i.toNat * n)) none
    | .ref (.st fs)=>zjj e el len o.dst fs i
    | _=>M.fail
   | .global g=>(match Glob.gl g with
    | some (.st fs)=>zjj e el len o.dst fs i
    | _=>M.fail)
   | _=>M.fail
  | none=>do
   let i←rdI ix
   let (el,n)←M.lift (elemOf e t)
   match (←rdL x)with
   | some (l,p,m)=>idxX o.dst n i l p m
   | none=>do
    match (←rdO e t x)with
    | .t (.sl _ sz xs)=>do
     M.when (sz==n&&decide (0≤i))
     let y←M.lift xs[i.toNat]?
     wr o.dst (.ref y) none
    | _=>M.fail)
 | .index t x ix=>(match arrOf e.P t with
  | some (len,el)=>do
   let i←rdI ix
   match (←rdO e t x)with
   | .t (.st fs)=>do
    M.when (zgd e.P el fs&&decide (0≤i∧i < (len:Int)))
    let y←M.lift fs[i.toNat]?
    wr o.dst (.t y) none
   | _=>M.fail
  | none=>do
   let i←rdV ix
   let s←rdV x
   let v←M.lift (ev e.P (Instr.index t s i))
   M.when (okv v)
   wr o.dst (.t (.v v)) none)
 | .binOp op t x y _=>do
  match (←rdS x)with
  | some fs=>binS e o op t y fs
  | none=>do
   let a←rdV x
   let b←rdV y
   let v←M.lift (ev e.P (do eqGuard op t x y a b;binOp op t a b))
   M.when (okv v)
   wr o.dst (.t (.v v)) none
 | .nilCheck x=>(match x with
  | .tmp i=>do
   let c←M.get (.tm i)
   match c.val with
   | .ptr b g p q=>wr o.dst (.ptr b g p q) none
   | .ref y=>wr o.dst (.ref y) none
   | .fn f caps=>wr o.dst (.fn f caps) none
   | _=>M.fail
  | _=>M.fail)
 | .unOp op _ x=>do
  let a←rdV x
  let v←M.lift (ev e.P (Op.unary op a))
  M.when (okv v)
  wr o.dst (.t (.v v)) none
 | .convert src dst x=>do
  let a←rdV x
  let v←M.lift (ev e.P (convert src dst a))
  M.when (okv v)
  wr o.dst (.t (.v v)) none
 | .build t parts=>do
  match e.P.underlying t,zeroT e.P t with
  | some (.struct fs),some (.st zs)=>do
   M.when (zhE e.P fs.toList zs 0)
   let ys←zeR e (fs.toList.map (·.type)) parts.toList zs
   wr o.dst (.t ((T.st ys).mkA (mkD e o.dst 0))) none
  | some (.array _ el),some (.st zs)=>do
   let n←M.lift (sizeT e.P el)
   M.when (zs.all fun z=>z.size==n)
   let ys←zeR e (List.replicate zs.length el) parts.toList zs
   wr o.dst (.t (.st ys)) none
  | _,_=>M.fail
 | .buildSlice t len parts=>do
  let (el,n)←M.lift (elemOf e t)
  let z←M.lift (zeroT e.P el)
  M.when (decide (0 < n)&&decide (len * n≤16777216)&&z.size==n)
  if mkD e o.dst 0=true then do
   let ys←zeR e (List.replicate len el) parts.toList (List.replicate len z.sh)
   wr o.dst (.t (.xl n (shXs (mkD e o.dst 1000000) ys))) none
  else do
   let ys←zfb e el parts.toList (List.replicate len z.sh)
   wr o.dst (.t (.sl true n ys)) none
 | .makeSlice t l c=>do
  let (el,n)←M.lift (elemOf e t)
  let i←M.lift (e.P.info? el)
  let z←M.lift (zeroT e.P el)
  let a←rdI l
  let b←rdI c
  M.when (z.size==n&&decide (0 < n))
  M.when (decide (0≤a∧a≤b∧(i.bytes:Int) * b≤281474976710656∧b≤9223372036854775807))
  wr o.dst (.t (if mkD e o.dst 0=true then .xl n (List.replicate a.toNat (z.sh.shX false))else .sl true n (List.replicate a.toNat (z.sh.shX false)))) none
 | .slice t x lo hi none=>do
  let y←rdO e t x
  match y with
  | .t (.sl _ sz xs)=>do
   let (el,n)←M.lift (elemOf e t)
   let l←(match lo with | some v=>rdI v | none=>M.pure 0)
   let h←(match hi with | some v=>rdI v | none=>M.pure (xs.length:Int))
   M.when (sz==n&&decide (0≤l∧l≤h∧h≤(xs.length:Int)))
   wr o.dst (.t (.sl false sz ((xs.take h.toNat).drop l.toNat))) none
  | .t (.v s)=>do
   let l←(match lo with | some v=>(rdV v) >>=fun u=>M.pure (some u) | none=>M.pure none)
   let h←(match hi with | some v=>(rdV v) >>=fun u=>M.pure (some u) | none=>M.pure none)
   let v←M.lift (ev e.P (Instr.sliceAt t s l h none))
   M.when (okv v)
   wr o.dst (.t (.v v)) none
  | _=>M.fail
 | .slice t x lo (some hi) (some mx)=>do
  match (←rdO e t x)with
  | .t (.sl _ sz xs)=>do
   let (el,n)←M.lift (elemOf e t)
   let l←(match lo with | some v=>rdI v | none=>M.pure 0)
   let h←rdI hi
   let m←rdI mx
   M.when (sz==n&&decide (l=0∧h=0∧m=0))
   wr o.dst (.t (.sl true sz [])) none
  | _=>M.fail
 | .extract x i=>(match x with
  | .tmp j=>do
   let c←M.get (.tm j)
   match c.val with
   | .tup xs=>(match xs[i]? with
    | some y=>do
     M.put (.tm j) {c with val:=.tup (xs.set i y.sh)}
     wr o.dst (.t y) none
    | none=>M.fail)
   | _=>M.fail
  | _=>M.fail)
 | .makeFunc fn first captured=>(match fn,first.toList with
  | .func f,[]=>do
   let caps←zjg captured.toList
   wr o.dst (.fn f caps) none
  | _,_=>M.fail)
 | .call c=>(match c.callee with
  | .builtin .len=>(match c.args.toList,c.argTypes.toList with
   | [x],[t]=>do
    match (←rdL x)with
    | some (l,p,m)=>do
    let _←M.lift (elemOf e t)
    lenX o.dst l p m
    | none=>do
    match (←rdO e t x)with
    | .t (.sl _ _ xs)=>do
     let _←M.lift (elemOf e t)
     wr o.dst (.t (.v (.int .i64 xs.length))) none
    | .t (.v s)=>do
     let v←M.lift (ev e.P (Builtin.len_ c.argTypes o.type #[s]))
     M.when (okv v)
     wr o.dst (.t (.v v)) none
    | _=>M.fail
   | _,_=>M.fail)
  | .builtin .append=>(match c.args.toList,c.argTypes.toList with
   | [x,y],[t,u]=>do
    let (el,n)←M.lift (elemOf e t)
    let i←M.lift (e.P.info? el)
    let a←(match x with
     | .tmp j=>takeO j
     | x=>rdO e t x)
    match a with
    | .t (.xl sz xs)=>appX e el n i.bytes o.dst sz xs u y
    | .t (.sl true sz xs)=>if (mkD e o.dst 0&&xs.isEmpty)=true then appX e el n i.bytes o.dst sz [] u y else do
     let z←M.lift (zeroT e.P el)
     M.when (sz==n&&z.size==n&&decide (0 < n)&&decide (0 < i.bytes))
     let b←rdO e u y
     match b with
     | .t (.sl _ sz' ys)=>do
      let _←M.lift (elemOf e u)
      M.when (sz'==n&&decide ((xs.length+ys.length) * i.bytes≤140737488355328))
      wr o.dst (.t (.sl true sz (xs++ys))) none
     | .t (.v (.string b))=>do
      M.when ((match e.P.underlying u with | some .string=>true | _=>false)&&n==1&&decide ((xs.length+b.size) * i.bytes≤140737488355328))
      wr o.dst (.t (.sl true sz (xs++(byteCells b).map .v))) none
     | _=>M.fail
    | _=>M.fail
   | _,_=>M.fail)
  | .builtin .min=>do
   let vs←rdVs c.args.toList
   let v←M.lift (ev e.P (Builtin.min_ c.argTypes o.type vs.toArray))
   M.when (okv v)
   wr o.dst (.t (.v v)) none
  | .builtin .max=>do
   let vs←rdVs c.args.toList
   let v←M.lift (ev e.P (Builtin.max_ c.argTypes o.type vs.toArray))
   M.when (okv v)
   wr o.dst (.t (.v v)) none
  | .value (.func f)=>do
   M.when (decide (c.args.size≤c.argTypes.size))
   if e.own f 2001=true then zjh e o f (c.args.toList.zip c.argTypes.toList)else zho e o f (c.args.toList.zip c.argTypes.toList) [] []
  | .value (.tmp j)=>do
   let d←M.get (.tm j)
   match d.val with
   | .fn f caps=>do
    let (more,sb)←seals e f 0 caps
    M.when (decide (c.args.size≤c.argTypes.size))
    zho e o f (c.args.toList.zip c.argTypes.toList) more sb
   | _=>M.fail
  | _=>M.fail)
 | _=>M.fail
end
end Go.Proofs.YtgmidllbkjdnnaaGreatDoor.Flat
namespace Go.Proofs.YtgmidllbkjdnnaaGreatDoor.Flat
set_option linter.unusedVariables false
set_option linter.unusedSimpArgs false
set_option linter.unusedSectionVars false
variable [Glob]
def wants (ops:Array Oper) (o:Oper):M Bool:=match o.guard with
 | none=>M.pure true
 | some (j,want)=>match (ops[j]?).bind (·.dst)with
  | some d=>do
   let c←M.get (.tm d)
   match c.val with
   | .t (.v (.bool b))=>M.pure (b==want)
   | .nd=>M.pure false
   | _=>M.fail
  | none=>M.fail
def fire1 (e:Env) (ops:Array Oper) (o:Oper):M Unit:=do
 let b←wants ops o
 match b with
 | true=>fire e o
 | false=>wr o.dst .nd none
def zfh (e:Env) (ops:Array Oper):List Oper→St→Option (St × List (List FL × List FL))
 | [],s=>some (s,[])
 | o::os,s=>match fire1 e ops o s with
  | some (_,s',r,w)=>(match zfh e ops os s' with
   | some (s2,fs)=>some (s2,(r,w)::fs)
   | none=>none)
  | none=>none
mutual
def AV.norm (bx:List Cell):AV→AV
 | .ptr b g p o=>match bx[b]? with
  | some c=>if c.gen==g then .ptr b 0 p o else .un
  | none=>.un
 | .fn f caps=>match norms bx caps with
  | some cs=>.fn f cs
  | none=>.un
 | .fref f caps=>match norms bx caps with
  | some cs=>.fref f cs
  | none=>.un
 | .xr _ _ _ _=>.un
 | x=>x
def norms (bx:List Cell):List AV→Option (List AV)
 | []=>some []
 | x::xs=>match x.norm bx,norms bx xs with
  | .un,_=>none
  | y,some ys=>some (y::ys)
  | _,none=>none
end
def St.norm (s:St):St:=⟨s.tm.map fun c=>⟨c.val.norm s.bx,none,0,0⟩,s.bx.map fun c=>⟨c.val.norm s.bx,none,0,0⟩⟩
def keeps (ks:List Nat):Nat→List Cell→List Cell
 | _,[]=>[]
 | i,c::cs=>(if ks.contains i=true then c else⟨.un,none,0,0⟩)::keeps ks (i+1) cs
def St.forget (s:St):Option (List Nat × List Nat)→St
 | none=>s
 | some (a,b)=>⟨keeps a 0 s.tm,keeps b 0 s.bx⟩
def St.shed1 (s:St) (l:Loc):St:=match s.get l with
 | none=>s
 | some c=>match c.val with
  | .t x=>s.put l {c with val:=.t x.pub}
  | _=>s
def St.sheds (s:St):List Loc→St
 | []=>s
 | l::ls=>(s.shed1 l).sheds ls
def St.keep (s:St):Option (List Nat × List Nat)→St
 | none=>s
 | some (a,b)=>(s.forget (some (a,b))).sheds ((a.filterMap fun i=>if 100000≤i then some (Loc.tm (i-100000))else none)++(b.filterMap fun i=>if 100000≤i then some (Loc.bx (i-100000))else none))
inductive Ex where
 | normal
 | exit (id:Nat)
 | ret
def pruned (s:St):Option (List Nat × List Nat)→St
 | none=>s
 | ks=>s.norm.keep ks
def prune (e:Env) (k:Nat):Option (Ex × St)→Option (Ex × St)
 | some (.normal,s)=>some (.normal,pruned s (e.keep k))
 | r=>r
def _root_.Go.Code.rid:Code→Nat→Nat
 | .region id _ _,_=>id
 | .seq a b,d=>a.rid (b.rid d)
 | .cond _ a b,d=>a.rid (b.rid d)
 | .block _ c,d=>c.rid d
 | .loop c,d=>c.rid d
 | _,d=>d
def loopN (f:St→Option (Ex × St)):Nat→St→Option (Ex × St)
 | 0,_=>none
 | n+1,s=>match f s with
  | some (.normal,s')=>loopN f n s'
  | r=>r
def FL.code:FL→Nat
 | .l (.tm i)=>3 * i
 | .l (.bx i)=>3 * i+1
 | .sk b=>3 * b+2
def zfu:List FL→Nat
 | []=>0
 | f::fs=>Nat.lor (Nat.shiftLeft 1 f.code) (zfu fs)
def apart (f g:List FL × List FL):Bool:=Nat.beq (Nat.land (zfu f.2) (Nat.lor (zfu g.1) (zfu g.2))) 0&&Nat.beq (Nat.land (zfu g.2) (zfu f.1)) 0
def zeI (b:Array Nat) (i j:Nat):Bool:=(b.getD j 0).testBit i
def zhF:Nat→List Oper→Bool
 | _,[]=>true
 | j,o::os=>(o.after.toList.all fun e=> !Region.binds .any e||decide (e.on < j))&&zhF (j+1) os
def zih (ops:Array Oper) (fs:List (List FL × List FL)):Bool:=
 let b:=Region.before ops
 zhF 0 ops.toList&&
 ((List.range fs.length).all fun j=>(List.range j).all fun i=>zeI b i j||apart (fs.getD i ([],[])) (fs.getD j ([],[])))
def exec (e:Env) (n:Nat):Code→St→Option (Ex × St)
 | .skip,s=>some (.normal,s)
 | .region id ops draw,s=>match zfh e ops ops.toList s with
  | some (s',fs)=>if (draw&& !zih ops fs)=true then none else some (.normal,s'.norm.keep (e.keep id))
  | none=>none
 | .seq a b,s=>match exec e n a s with
  | some (.normal,s')=>exec e n b s'
  | r=>r
 | .cond c x y,s=>match rdV c s with
  | some (.bool b,_,_,_)=>prune e (20000+x.rid (y.rid 0)) (if b=true then exec e n x s else exec e n y s)
  | _=>none
 | .block id c,s=>prune e (5000+id) (match exec e n c s with
  | some (.exit i,s')=>if i=id then some (.normal,s')else some (.exit i,s')
  | r=>r)
 | .loop c,s=>loopN (exec e n c) n s
 | .exit id,s=>some (.exit id,s)
 | .ret,s=>some (.ret,s)
 | _,_=>none
def entry (args fb:List AV) (k:Nat):St:=
 ⟨(rens (k+·) args).map (⟨·,none,0,0⟩)++List.replicate (k-args.length) ⟨.nd,none,0,0⟩,
  List.replicate k ⟨.un,none,0,0⟩++fb.map (⟨·,none,0,0⟩)⟩
def zhG (P:Program) (s:St):ResultVar→Option T
 | .tmp t=>match s.tm[t]? with
  | some c=>(match c.val with
   | .t x=>some x
   | _=>none)
  | none=>none
 | .cell d t=>match s.tm[d]? with
  | some c=>(match c.val with
   | .ptr b 0 [] 0=>if b=d then(match s.bx[b]? with
    | some c=>(match c.val with
     | .t x=>if fits P t x=true∧c.gen=0 then some x else none
     | _=>none)
    | none=>none)else none
   | _=>none)
  | none=>none
def zec (P:Program) (s:St):List ResultVar→Option (List T)
 | []=>some []
 | r::rs=>match zhG P s r,zec P s rs with
  | some x,some xs=>some (x::xs)
  | _,_=>none
def zfi:List Cell→Option (List AV)
 | []=>some []
 | c::cs=>match c.val,zfi cs with
  | .t x,some ys=>some (.t x::ys)
  | _,_=>none
def locOf:ResultVar→Loc
 | .tmp t=>.tm t
 | .cell d _=>.bx d
def zfY (n:Nat) (rs:List ResultVar):Bool:=decide (rs.map locOf).Nodup&&rs.all fun r=>match r with
 | .cell d _=>decide (d < n)
 | _=>true
def asRes:List T→AV
 | [x]=>.t x
 | xs=>.tup xs
def run (P:Program) (own:FuncId→Nat→Bool) (kp:FuncId→Nat→Option (List Nat × List Nat)) (X:FuncId→List AV→List AV→Option (AV × List AV)):Nat→FuncId→List AV→List AV→Option (AV × List AV)
 | 0,_,_,_=>none
 | n+1,f,args,fb=>match X f args fb with
  | some r=>some r
  | none=>match P.funcs[f]? with
   | none=>none
   | some fn=>match fn.body with
    | none=>none
    | some c=>
     if args.length=fn.params.size+fn.nfree∧args.length≤fn.ntmps∧zfY fn.ntmps fn.results.toList=true∧(fn.name== "runtime.NumGoroutine")=false then
      match exec ⟨P,run P own kp X n,own,fn.results.toList.map locOf,kp f,fun d=>own f (d+3000)⟩ n c (entry args fb fn.ntmps)with
      | some (.exit _,_)=>none
      | some (_,s)=>(match zec P s fn.results.toList,zfi (s.bx.drop fn.ntmps)with
       | some xs,some outs=>if outs.length=fb.length then some (asRes (if own f 2000=true then(if own f 2003=true then shXs true xs else xs)else pubs xs),outs)else none
       | _,_=>none)
      | none=>none
     else none
end Go.Proofs.YtgmidllbkjdnnaaGreatDoor.Flat
namespace Go.Proofs.YtgmidllbkjdnnaaGreatDoor.Flat
set_option linter.unusedVariables false
set_option linter.unusedSimpArgs false
set_option linter.unusedSectionVars false
variable [Glob]
theorem M.bind_some {α β:Type} {m:M α} {f:α→M β} {s s2:St} {b:β} {r w:List FL} (h:(m >>=f) s=some (b,s2,r,w)):∃a s1 r1 w1 r2 w2,m s=some (a,s1,r1,w1)∧f a s1=some (b,s2,r2,w2):=by
 have h':M.bind m f s=some (b,s2,r,w):=h
 unfold M.bind at h'
 cases hm:m s with
 | none=>rw[hm]at h';cases h'
 | some p=>
  obtain⟨a,s1,r1,w1⟩:=p
  rw[hm]at h'
  dsimp only at h'
  cases hf:f a s1 with
  | none=>rw[hf]at h';cases h'
  | some q=>
   obtain⟨b',s2',r2,w2⟩:=q
   rw[hf]at h'
   dsimp only at h'
   cases h'
   exact⟨a,s1,r1,w1,r2,w2,rfl,hf⟩
theorem M.ze9 {α β:Type} {m:M α} {f:α→M β} {s s1 s2:St} {a:α} {b:β} {r1 w1 r2 w2:List FL} (h1:m s=some (a,s1,r1,w1)) (h2:f a s1=some (b,s2,r2,w2)):(m >>=f) s=some (b,s2,r1++r2,w1++w2):=by
 show M.bind m f s=_
 unfold M.bind
 rw[h1]
 dsimp only
 rw[h2]
theorem M.zO {α:Type} {a b:α} {s s':St} {r w:List FL} (h:M.pure a s=some (b,s',r,w)):b=a∧s=s':=by cases h;exact⟨rfl,rfl⟩
theorem M.za4 {l:Loc} {s s':St} {c:Cell} {r w:List FL} (h:M.get l s=some (c,s',r,w)):s.get l=some c∧s=s':=by
 unfold M.get at h
 cases hl:s.get l with
 | none=>rw[hl]at h;cases h
 | some d=>rw[hl]at h;cases h;exact⟨rfl,rfl⟩
theorem M.zeJ {l:Loc} {c:Cell} {s s':St} {u:Unit} {r w:List FL} (h:M.put l c s=some (u,s',r,w)):(∃d,s.get l=some d)∧s'=s.put l c:=by
 unfold M.put at h
 cases hl:s.get l with
 | none=>rw[hl]at h;cases h
 | some d=>rw[hl]at h;cases h;exact⟨⟨d,rfl⟩,rfl⟩
theorem M.zkE {k:Bool} {l:Loc} {c:Cell} {s s':St} {u:Unit} {r w:List FL} (h:M.putK k l c s=some (u,s',r,w)):(∃d,s.get l=some d)∧s'=s.put l c:=by
 unfold M.putK at h
 cases hg:s.get l with
 | none=>rw[hg]at h;cases h
 | some d=>rw[hg]at h;cases h;exact⟨⟨d,rfl⟩,rfl⟩
theorem M.znU {b:Nat} {s s':St} {c:Cell} {r w:List FL} (h:M.getS b s=some (c,s',r,w)):(∃d,s.get (.bx b)=some d∧c=d.skel)∧s=s':=by
 unfold M.getS at h
 cases hg:s.get (.bx b)with
 | none=>rw[hg]at h;cases h
 | some d=>rw[hg]at h;cases h;exact⟨⟨d,rfl,rfl⟩,rfl⟩
theorem M.zar {α:Type} {o:Option α} {s s':St} {a:α} {r w:List FL} (h:M.lift o s=some (a,s',r,w)):o=some a∧s=s':=by
 unfold M.lift at h
 cases o with
 | none=>cases h
 | some b=>cases h;exact⟨rfl,rfl⟩
theorem M.zam {b:Bool} {s s':St} {u:Unit} {r w:List FL} (h:M.when b s=some (u,s',r,w)):b=true∧s=s':=by
 unfold M.when at h
 split at h
 ·rename_i hb;cases h;exact⟨hb,rfl⟩
 ·cases h
theorem M.zt {α:Type} {s:St} {p:α × St × List FL × List FL} (h:(M.fail:M α) s=some p):False:=by cases h
theorem RepT.sh {w:World} {E:Nat→Nat} {x:T} {v:Value} {B:List Nat} (h:RepT w E x v B):RepT w E x.sh v []:=by
 obtain⟨cs,h1,h2⟩:=h
 refine⟨cs,Rep.sh h1, ?_⟩
 rw[h2]
 cases x<;>rfl
theorem RepTs.sh {w:World} {E:Nat→Nat}:∀{xs:List T} {vs:List Value} {B:List Nat},RepTs w E xs vs B→RepTs w E (shs xs) vs []
 | [],vs,B,h=>⟨h.1,rfl⟩
 | x::xs,vs,B,h=>by
  obtain⟨v,vr,B1,B2,e,eb,h1,h2⟩:=h
  exact⟨v,vr,[],[],e,rfl,RepT.sh h1,RepTs.sh h2⟩
theorem RepV.cp {w:World} {E:Nat→Nat} {F:Nat→Prop} {β:Bm} {x:AV} {v:Value} {B:List Nat} (h:RepV w E F β x v B):RepV w E F β x.cp v []:=by
 cases x with
 | t x=>rw[RepV]at h;rw[AV.cp,RepV];exact RepT.sh h
 | tup xs=>
  rw[RepV]at h
  obtain⟨vs,e,h⟩:=h
  rw[AV.cp,RepV]
  exact⟨vs,e,RepTs.sh h⟩
 | ptr b g p o=>rw[RepV]at h;show RepV w E F β (.ptr b g p o) v [];rw[RepV];exact⟨h.1,rfl,h.2.2⟩
 | ref x=>rw[RepV]at h;show RepV w E F β (.ref x) v [];rw[RepV];exact⟨rfl,h.2⟩
 | fref f caps=>rw[RepV]at h;show RepV w E F β (.fref f caps) v [];rw[RepV];exact⟨rfl,h.2⟩
 | fn f caps=>rw[RepV]at h;show RepV w E F β (.fn f caps) v [];rw[RepV];exact⟨rfl,h.2⟩
 | io x=>rw[RepV]at h;exact h.elim
 | xr _ _ _ _=>show RepV w E F β .un v [];rw[RepV]
 | un=>show RepV w E F β .un v [];rw[RepV]
 | nd=>rw[RepV]at h;show RepV w E F β .nd v [];rw[RepV];exact⟨h.1,rfl⟩
mutual
theorem T.zfZ (b:Bool):∀x:T,(x.shX b).size=x.size
 | .v _=>by rw[T.shX]
 | .st fs=>by rw[T.shX,T.size,T.size];exact zjk b fs
 | .sl o sz xs=>by rw[T.shX];split<;>rfl
 | .xl _ _=>by rw[T.shX]
 | .op=>by rw[T.shX]
theorem zjk (b:Bool):∀fs:List T,sizes (shXs b fs)=sizes fs
 | []=>by rw[shXs]
 | f::fs=>by rw[shXs,sizes,sizes,T.zfZ b f,zjk b fs]
end
mutual
theorem Rep.shX (b:Bool) {w:World} {E:Nat→Nat}:∀{x:T} {cs:List Value} {B:List Nat},Rep w E x cs B→∃B',Rep w E (x.shX b) cs B'∧B'.Sublist B
 | .v x,cs,B,h=>by rw[T.shX];exact⟨B,h,List.Sublist.refl _⟩
 | .st fs,cs,B,h=>by
  rw[Rep]at h
  obtain⟨B',h1,h2⟩:=RepS.shX b h
  exact⟨B',by rw[T.shX,Rep];exact h1,h2⟩
 | .sl o sz xs,cs,B,h=>by
  rw[T.shX]
  split
  ·rename_i hc
   obtain⟨_,ho,hx⟩:=hc
   have hx:xs=[]:=List.isEmpty_iff.1 hx
   subst hx
   rw[Rep]at h
   obtain⟨A,c,e1,k1,k2,k3⟩:=h
   cases A with
   | none=>
    refine⟨B, ?_,List.Sublist.refl _⟩
    rw[Rep]
    exact⟨none,c,e1,k1,k2,.inl ⟨rfl,k3.2.1,k3.2.2⟩⟩
   | some ad=>
    obtain⟨_,tk,htk,e2,k4⟩:=k3
    cases tk with
    | false=>
     refine⟨B, ?_,List.Sublist.refl _⟩
     rw[Rep]
     exact⟨some ad,c,e1,k1,k2,.inl ⟨rfl,by have:=htk.2 ho rfl;simpa using this,by rw[e2];rfl⟩⟩
    | true=>
     obtain⟨q1,q2,cells,ty,q3,q4,q5⟩:=k4 rfl
     refine⟨B, ?_,List.Sublist.refl _⟩
     rw[Rep]
     exact⟨some ad,c,e1,k1,k2,.inr ⟨ad,[],rfl,q1,by rw[e2];rfl,by simpa using q2,⟨cells,ty,q3,q4,q5⟩,by rw[RepX]⟩⟩
  ·exact⟨[],by have:=Rep.sh h;rw[T.sh]at this;exact this,List.nil_sublist _⟩
 | .xl sz xs,cs,B,h=>by rw[T.shX];exact⟨B,h,List.Sublist.refl _⟩
 | .op,cs,B,h=>by rw[T.shX];exact⟨B,h,List.Sublist.refl _⟩
theorem RepS.shX (b:Bool) {w:World} {E:Nat→Nat}:∀{fs:List T} {cs:List Value} {B:List Nat},RepS w E fs cs B→∃B',RepS w E (shXs b fs) cs B'∧B'.Sublist B
 | [],cs,B,h=>by rw[shXs];exact⟨B,h,List.Sublist.refl _⟩
 | f::fs,cs,B,h=>by
  rw[RepS]at h
  obtain⟨c1,c2,B1,B2,e1,e2,h1,h2⟩:=h
  obtain⟨C1,k1,k2⟩:=Rep.shX b h1
  obtain⟨C2,k3,k4⟩:=RepS.shX b h2
  refine⟨C1++C2, ?_,by rw[e2];exact k2.append k4⟩
  rw[shXs,RepS]
  exact⟨c1,c2,C1,C2,e1,rfl,k1,k3⟩
end
theorem zii (b:Bool) (x:T) (c:List Value):valOf (x.shX b) c=valOf x c:=by
 cases x with
 | sl o sz xs=>rw[T.shX];split<;>rfl
 | _=>rfl
theorem RepT.mkA {w:World} {E:Nat→Nat} {x:T} {v:Value} {B:List Nat} (b:Bool) (h:RepT w E x v B):∃B',RepT w E (x.mkA b) v B'∧B'.Sublist B:=by
 unfold T.mkA
 split
 ·obtain⟨cs,h1,h2⟩:=h
  obtain⟨B',k1,k2⟩:=Rep.shX true h1
  exact⟨B',⟨cs,k1,by rw[h2,zii]⟩,k2⟩
 ·exact⟨B,h,List.Sublist.refl _⟩
theorem RepV.mkA {w:World} {E:Nat→Nat} {F:Nat→Prop} {β:Bm} {x:AV} {v:Value} {B:List Nat} (b:Bool) (h:RepV w E F β x v B):∃B',RepV w E F β (x.mkA b) v B'∧B'.Sublist B:=by
 cases x with
 | t x=>
  rw[RepV]at h
  obtain⟨B',k1,k2⟩:=h.mkA b
  exact⟨B',by show RepV w E F β (.t (x.mkA b)) v B';rw[RepV];exact k1,k2⟩
 | _=>exact⟨B,h,List.Sublist.refl _⟩
theorem zge {g:TypeId→List Value→Option (T × List Value)} (hg:∀t cs x r,g t cs=some (x,r)→∃c,cs=c++r∧∀w E,Rep w E x c []):∀(ts:List TypeId) (cs:List Value) (xs:List T) (r:List Value),zgc g ts cs=some (xs,r)→∃c,cs=c++r∧∀w E,RepS w E xs c []
 | [],cs,xs,r,h=>by
  rw[zgc]at h
  cases h
  exact⟨[],rfl,fun w E=>by rw[RepS];exact⟨rfl,rfl⟩⟩
 | t::ts,cs,xs,r,h=>by
  rw[zgc]at h
  cases h1:g t cs with
  | none=>rw[h1]at h;cases h
  | some p=>
   obtain⟨x,r1⟩:=p
   rw[h1]at h
   dsimp only at h
   cases h2:zgc g ts r1 with
   | none=>rw[h2]at h;cases h
   | some q=>
    obtain⟨ys,r2⟩:=q
    rw[h2]at h
    cases h
    obtain⟨c1,e1,k1⟩:=hg t cs x r1 h1
    obtain⟨c2,e2,k2⟩:=zge hg ts r1 ys r h2
    refine⟨c1++c2,by rw[e1,e2,List.append_assoc],fun w E=> ?_⟩
    rw[RepS]
    exact⟨c1,c2,[],[],rfl,rfl,k1 w E,k2 w E⟩
def one1:List Value→Option (T × List Value)
 | x::r=>if okv x=true then some (.v x,r)else none
 | []=>none
theorem zmK:∀{cs:List Value} {x:T} {r:List Value},one1 cs=some (x,r)→∃c,cs=c++r∧∀w E,Rep w E x c []
 | [],x,r,h=>by cases h
 | y::r',x,r,h=>by
  have h:(if okv y=true then some (T.v y,r')else none)=some (x,r):=h
  by_cases hy:okv y=true
  ·rw[if_pos hy]at h
   cases h
   exact⟨[y],rfl,fun w E=>by rw[Rep];exact⟨rfl,hy,rfl⟩⟩
  ·rw[if_neg hy]at h;cases h
theorem zgF (P:Program):∀(n:Nat) (t:TypeId) (cs:List Value) (x:T) (r:List Value),ofVal P n t cs=some (x,r)→∃c,cs=c++r∧∀w E,Rep w E x c []
 | 0,t,cs,x,r,h=>by unfold ofVal at h;cases h
 | n+1,t,cs,x,r,h=>by
  unfold ofVal at h
  split at h
  ·rename_i fields hu
   cases h1:zgc (ofVal P n) (fields.toList.map (·.type)) cs with
   | none=>rw[h1]at h;cases h
   | some p=>
    obtain⟨ys,r1⟩:=p
    rw[h1]at h
    cases h
    obtain⟨c,e,k⟩:=zge (fun t cs x r h=>zgF P n t cs x r h) _ _ _ _ h1
    exact⟨c,e,fun w E=>by rw[Rep];exact k w E⟩
  ·rename_i len el hu
   cases h1:zgc (ofVal P n) (List.replicate len el) cs with
   | none=>rw[h1]at h;cases h
   | some p=>
    obtain⟨ys,r1⟩:=p
    rw[h1]at h
    cases h
    obtain⟨c,e,k⟩:=zge (fun t cs x r h=>zgF P n t cs x r h) _ _ _ _ h1
    exact⟨c,e,fun w E=>by rw[Rep];exact k w E⟩
  ·rename_i el hu
   split at h
   ·rename_i r' i hpi
    by_cases hi:0 < i.size
    ·rw[if_pos hi]at h
     cases h
     exact⟨[.slice none 0 0],rfl,fun w E=>by rw[Rep];exact⟨none,0,rfl,Nat.le_refl _,hi,rfl,rfl,rfl⟩⟩
    ·rw[if_neg hi]at h;cases h
   ·cases h
  ·exact zmK (by cases cs<;>exact h)
  ·cases h
theorem zhH {P:Program} {t:TypeId} {v:Value} {x:T} (h:zje P t v=some x) (w:World) (E:Nat→Nat):RepT w E x v []:=by
 unfold zje at h
 by_cases hv:okv v=true
 ·rw[if_pos hv]at h
  cases h
  exact⟨[v],by rw[Rep];exact⟨rfl,hv,rfl⟩,rfl⟩
 ·rw[if_neg hv]at h
  cases h1:ofVal P 9 t v.cells.toList with
  | none=>rw[h1]at h;cases h
  | some p=>
   obtain⟨y,r⟩:=p
   rw[h1]at h
   obtain⟨c,e,k⟩:=zgF P 9 t _ _ _ h1
   cases r with
   | cons a b=>cases h
   | nil=>
    rw[List.append_nil]at e
    dsimp only at h
    split at h
    ·cases h
     rename_i cells
     refine⟨c,k w E, ?_⟩
     rw[←e]
     simp[valOf,Value.cells]
    ·cases h
     rename_i a b c'
     refine⟨c,k w E, ?_⟩
     rw[←e]
     rfl
    ·cases h
section
variable {en:Env} {e:Ent} {w:World} {E:Nat→Nat} {β:Bm} {τ:Loc→List Nat} {a:Act} {s:St}
theorem zd8 (h:Sim e w E β τ a s) {t:TypeId} {x:Operand} {y:AV} {s':St} {r q:List FL} (hr:rdO en t x s=some (y,s',r,q)):s=s'∧RepV w E e.F β y (a.eval x) []:=by
 cases x with
 | tmp i=>
  obtain⟨c,s1,_,_,_,_,h1,h2⟩:=M.bind_some hr
  obtain⟨g1,rfl⟩:=M.za4 h1
  have hc:=(h.tm i c g1).cp
  have:y=c.val.cp∧s=s':=by
   revert h2
   cases c.val<;>intro h2<;>first | exact(M.zt h2).elim | exact M.zO h2
  rw[this.1]
  exact⟨this.2,hc⟩
 | const v=>
  obtain⟨h1,rfl⟩:=M.zar (s:=s) hr
  cases h2:zje en.P t v with
  | none=>rw[h2]at h1;cases h1
  | some z=>
   rw[h2]at h1
   cases h1
   refine⟨rfl, ?_⟩
   rw[RepV]
   exact zhH h2 w E
 | func f=>
  obtain⟨rfl,rfl⟩:=M.zO (s:=s) hr
  refine⟨rfl, ?_⟩
  rw[RepV]
  exact⟨rfl,[],rfl,by rw[RepVs]⟩
 | global g=>exact(M.zt (s:=s) hr).elim
theorem zgf {w:World} {E:Nat→Nat} {u v:Value} {B:List Nat} (h:RepT w E (.v u) v B):v=u∧okv u=true∧B=[]:=by
 obtain⟨cs,h1,h2⟩:=h
 rw[Rep]at h1
 obtain⟨rfl,h3,h4⟩:=h1
 exact⟨h2,h3,h4⟩
theorem zeH (h:Sim e w E β τ a s) {x:Operand} {u:Value} {s':St} {r q:List FL} (hr:rdV x s=some (u,s',r,q)):s=s'∧a.eval x=u∧okv u=true:=by
 cases x with
 | tmp i=>
  obtain⟨c,s1,_,_,_,_,h1,h2⟩:=M.bind_some hr
  obtain⟨g1,rfl⟩:=M.za4 h1
  have hc:=h.tm i c g1
  generalize c.val=q at h2 hc
  cases q with
  | t z=>
   cases z with
   | v u'=>
    obtain⟨rfl,rfl⟩:=M.zO h2
    rw[RepV]at hc
    obtain⟨k1,k2,_⟩:=zgf hc
    exact⟨rfl,k1,k2⟩
   | _=>exact(M.zt h2).elim
  | _=>exact(M.zt h2).elim
 | const v=>
  have hr':(if okv v=true then M.pure v else M.fail) s=some (u,s',r,q):=hr
  by_cases hv:okv v=true
  ·rw[if_pos hv]at hr'
   obtain⟨rfl,rfl⟩:=M.zO hr'
   exact⟨rfl,rfl,hv⟩
  ·rw[if_neg hv]at hr'
   exact(M.zt hr').elim
 | func f=>exact(M.zt (s:=s) hr).elim
 | global g=>exact(M.zt (s:=s) hr).elim
theorem zeV (h:Sim e w E β τ a s) {x:Operand} {n:Int} {s':St} {r q:List FL} (hr:rdI x s=some (n,s',r,q)):s=s'∧∃k,a.eval x=.int k n:=by
 obtain⟨u,s1,_,_,_,_,h1,h2⟩:=M.bind_some hr
 obtain⟨rfl,k1,k2⟩:=zeH h h1
 cases u with
 | int k n'=>
  obtain⟨rfl,rfl⟩:=M.zO h2
  exact⟨rfl,k,k1⟩
 | _=>exact(M.zt h2).elim
theorem RepV.deX {w:World} {E:Nat→Nat} {F:Nat→Prop} {β:Bm} {x:AV} {v:Value} {B:List Nat} (h:RepV w E F β x v B):RepV w E F β x.deX v B:=by
 cases x with
 | xr _ _ _ _=>rw[RepV]at h;show RepV w E F β .un v B;rw[RepV];exact h
 | _=>exact h
theorem zqj {x:AV} {k:Bool} {l:Loc} {p:List Nat} {n:Nat}:x.deX≠ .xr k l p n:=by
 cases x<;>exact fun h=>by cases h
theorem Sim.wr (h : Sim e w E β τ a s) {dst : Option Nat} {x : AV} {og : Option (Loc × List Nat × Nat)} {s' : St} {u : Unit} {r q : List FL} (hw : wr dst x og s = some (u, s', r, q)) {v : Value} {B : List Nat} (hv : RepV w E e.F β x v B)
  (hB:B.Nodup∧∀k∈B,k < w.heap.size∧(e.w.heap.size≤k∨k∈e.Ba)∧(∀l,k∉τ l)∧∀j c,s.bx[j]?=some c→c.val≠ .un→k≠β j c.gen)
  (hog:∀l p n,og=some (l,p,n)→OgX w β a s false l p n v):
  ∃τ',Sim e w E β τ' (a.put dst v) s':=by
 cases dst with
 | none=>
  obtain⟨_,rfl⟩:=M.zO (s:=s) hw
  exact⟨τ,h⟩
 | some d=>
  obtain⟨c,s1,_,_,_,_,h1,h2⟩:=M.bind_some hw
  obtain⟨g1,rfl⟩:=M.za4 h1
  obtain⟨_,rfl⟩:=M.zeJ h2
  refine⟨_,h.setT g1 hv.deX (fun k hk=> ?_) hB.1 _ ?_⟩
  ·obtain⟨k1,k2,k3,k4⟩:=hB.2 k hk
   exact⟨k1,k2,fun l _=>k3 l,k4⟩
  intro k l p n ho
  rcases ho with ho | ⟨rfl,ho⟩
  ·exact absurd ho zqj
  cases og with
  | none=>cases ho
  | some g=>
   obtain⟨l',p',n'⟩:=g
   cases l' with
   | tm j=>
    dsimp only at ho
    by_cases hj:(j==d)=true
    ·rw[if_pos hj]at ho;cases ho
    ·rw[if_neg hj]at ho
     cases ho
     exact⟨(fun e=>hj (by injection e with e;simp[e])),hog _ _ _ rfl⟩
   | bx j=>
    cases ho
    exact⟨(fun e=>by cases e),hog _ _ _ rfl⟩
theorem Sim.wrX (h:Sim e w E β τ a s) {dst:Option Nat} {k:Bool} {l:Loc} {p:List Nat} {n:Nat} {s':St} {u:Unit} {r q:List FL} (hw:wrX dst k l p n s=some (u,s',r,q)) {v:Value} (hv:OgX w β a s k l p n v):∃τ',Sim e w E β τ' (a.put dst v) s':=by
 cases dst with
 | none=>
  obtain⟨_,rfl⟩:=M.zO (s:=s) hw
  exact⟨τ,h⟩
 | some d=>
  obtain⟨_,s0,_,_,_,_,h0,h1'⟩:=M.bind_some hw
  obtain⟨g0,rfl⟩:=M.zam h0
  obtain⟨c,s1,_,_,_,_,h1,h2⟩:=M.bind_some h1'
  obtain⟨g1,rfl⟩:=M.za4 h1
  obtain⟨_,rfl⟩:=M.zeJ h2
  refine⟨_,h.setT g1 (x:=.xr k l p n) (v:=v) (B:=[]) (by rw[RepV]) (fun k hk=>by cases hk) List.nodup_nil _ ?_⟩
  intro k' l' p' n' ho
  rcases ho with ho | ⟨_,ho⟩
  ·cases ho
   exact⟨of_decide_eq_true g0,hv⟩
  ·cases ho
structure Part (w:World) (E:Nat→Nat) (β:Bm) (τ:Loc→List Nat) (a:Act) (s:St) (l:Loc) (p:List Nat) (n:Nat) (x z:T) (ad:Option Addr) (c2:List Value) (B1 B2 B3:List Nat):Prop where
 at_:∃d,s.get l=some d∧d.val=.t x∧d.ver=n
 look:Flat.look w p x (zdb w β a s l) none=some (z,ad,c2)
 tok:τ l=B1++B2++B3
 rep:Rep w E z c2 B2
 mem:x.far p=true→∃k o cells ty,ad=some ⟨k,o,none⟩∧w.heap[k]?=some (.cells cells ty (0,0))∧k∈B1∧∀j u,c2[j]?=some u→w.cell? ⟨k,o+j,none⟩=some u
 near:x.far p=false→∃c1 c3,zdb w β a s l=c1++c2++c3∧x.off p=some c1.length
 set:∀(y':T) (B2':List Nat),Rep w E y' c2 B2'→y'.size=z.size→∃x',x.rep p y'=some x'∧x'.size=x.size∧Rep w E x' (zdb w β a s l) (B1++B2'++B3)
theorem Sim.part (h:Sim e w E β τ a s) {l:Loc} {p:List Nat} {n:Nat} {d:Cell} {x z:T} (hd:s.get l=some d) (hx:d.val=.t x) (hn:d.ver=n) (hz:x.get p=some z):∃ad c2 B1 B2 B3,Part w E β τ a s l p n x z ad c2 B1 B2 B3:=by
 obtain⟨ad,c2,B1,B2,B3,k1,k2,k3,k4,k6,k5⟩:=Rep.part none (h.place hd hx).1 hz
 exact⟨ad,c2,B1,B2,B3,⟨d,hd,hx,hn⟩,k1,k2,k3,k4,fun hf=>by obtain⟨c1,c3,e1,e2,_⟩:=k6 hf;exact⟨c1,c3,e1,e2⟩,k5⟩
theorem zjl (h:Sim e w E β τ a s) {l:Loc} {n:Nat} {x:T} {s':St} {r q:List FL} (hr:rdAt l n s=some (x,s',r,q)):s=s'∧∃d,s.get l=some d∧d.val=.t x∧d.ver=n:=by
 obtain⟨d,s1,_,_,_,_,h1,h2⟩:=M.bind_some hr
 obtain⟨g1,rfl⟩:=M.za4 h1
 obtain⟨_,s2,_,_,_,_,h3,h4⟩:=M.bind_some h2
 obtain⟨g3,rfl⟩:=M.zam h3
 cases hdv:d.val with
 | t y=>
  simp only[hdv]at h4
  obtain⟨rfl,rfl⟩:=M.zO h4
  exact⟨rfl,d,g1,hdv,by simpa using g3⟩
 | _=>simp only[hdv]at h4;exact(M.zt h4).elim
theorem zf0 (h:Sim e w E β τ a s) {l:Loc} {p:List Nat} {n:Nat} {z:T} {s':St} {r q:List FL} (hr:rdX l p n s=some (z,s',r,q)):s=s'∧∃x ad c2 B1 B2 B3,Part w E β τ a s l p n x z ad c2 B1 B2 B3:=by
 obtain⟨x,s1,_,_,_,_,h1,h2⟩:=M.bind_some hr
 obtain⟨rfl,d,g1,g2,g3⟩:=zjl h h1
 obtain⟨g4,rfl⟩:=M.zar h2
 exact⟨rfl,x,h.part g1 g2 g3 g4⟩
theorem OgX.val {w:World} {β:Bm} {a:Act} {s:St} {l:Loc} {p:List Nat} {n:Nat} {v:Value} (ho:OgX w β a s false l p n v) {E:Nat→Nat} {τ:Loc→List Nat} {x z:T} {ad:Option Addr} {c2:List Value} {B1 B2 B3:List Nat} (hp:Part w E β τ a s l p n x z ad c2 B1 B2 B3):v=valOf z c2:=by
 obtain⟨d,h1,h2,h3⟩:=hp.at_
 simpa using (ho d h1).2 x z ad c2 h3 h2 hp.look
theorem OgX.adr {w:World} {β:Bm} {a:Act} {s:St} {l:Loc} {p:List Nat} {n:Nat} {v:Value} (ho:OgX w β a s true l p n v) {E:Nat→Nat} {τ:Loc→List Nat} {x z:T} {ad:Option Addr} {c2:List Value} {B1 B2 B3:List Nat} (hp:Part w E β τ a s l p n x z ad c2 B1 B2 B3):∃A,ad=some A∧v=.pointer (some A):=by
 obtain⟨d,h1,h2,h3⟩:=hp.at_
 simpa using (ho d h1).2 x z ad c2 h3 h2 hp.look
theorem Part.adrX {E:Nat→Nat} {τ:Loc→List Nat} {l:Loc} {p:List Nat} {n:Nat} {x z:T} {ad:Option Addr} {c2:List Value} {B1 B2 B3:List Nat} (hp:Part w E β τ a s l p n x z ad c2 B1 B2 B3) {v:Value} (ho:OgX w β a s true l p n v):∃k o,ad=some ⟨k,o,none⟩∧v=.pointer (some ⟨k,o,none⟩):=by
 obtain⟨A,h1,h2⟩:=ho.adr hp
 have h3:=zic hp.look (fun b hb=>by cases hb) A h1
 obtain⟨k,o,sp⟩:=A
 dsimp only at h3
 subst h3
 exact⟨k,o,h1,h2⟩
theorem Sim.sub (h:Sim e w E β τ a s) {l:Loc} {p:List Nat} {n:Nat} {x z:T} {ad:Option Addr} {c2:List Value} {B1 B2 B3:List Nat} (hp:Part w E β τ a s l p n x z ad c2 B1 B2 B3) {i:Nat} {y:T} {ad2:Option Addr} {d2:List Value} (hl:Flat.look w [i] z c2 ad=some (y,ad2,d2)):∃C1 C2 C3,Part w E β τ a s l (p++[i]) n x y ad2 d2 C1 C2 C3:=by
 obtain⟨d,d1,d2',d3⟩:=hp.at_
 have hg:x.get (p++[i])=some y:=by rw[zjb (zhD hp.look)];exact zhD hl
 obtain⟨ad',c',C1,C2,C3,hp'⟩:=h.part d1 d2' d3 hg
 have hlk:=hp'.look
 rw[zjc hp.look,hl]at hlk
 cases hlk
 exact⟨C1,C2,C3,hp'⟩
theorem Part.og {E:Nat→Nat} {τ:Loc→List Nat} {l:Loc} {p:List Nat} {n:Nat} {x z:T} {ad:Option Addr} {c2:List Value} {B1 B2 B3:List Nat} (hp:Part w E β τ a s l p n x z ad c2 B1 B2 B3) {k:Bool} {v:Value} (hv:if k=true then∃A,ad=some A∧v=.pointer (some A)else v=valOf z c2):OgX w β a s k l p n v:=by
 obtain⟨d,h1,h2,h3⟩:=hp.at_
 intro d' hd'
 rw[h1]at hd'
 cases hd'
 refine⟨by omega,fun x' y ad' c2' _ hx hl=> ?_⟩
 rw[h2]at hx
 cases hx
 rw[hp.look]at hl
 cases hl
 exact hv
end
end Go.Proofs.YtgmidllbkjdnnaaGreatDoor.Flat
namespace Go.Proofs.YtgmidllbkjdnnaaGreatDoor.Flat
set_option linter.unusedVariables false
set_option linter.unusedSimpArgs false
set_option linter.unusedSectionVars false
variable [Glob]
mutual
theorem Rep.ctx {w:World} {E:Nat→Nat}:∀(p:List Nat) (x y:T) (cs:List Value) (B:List Nat),Rep w E x cs B→x.at p=some y→
  ∃c1 c2 c3 B1 B2 B3,cs=c1++c2++c3∧B=B1++B2++B3∧x.off p=some c1.length∧Rep w E y c2 B2∧
   ∀w' E' y' c2' B2',Mv w E w' E' (B1++B3)→Rep w' E' y' c2' B2'→∃x',x.put p y'=some x'∧Rep w' E' x' (c1++c2'++c3) (B1++B2'++B3)∧(y'.size=y.size→x'.size=x.size)
 | [],x,y,cs,B,h,hy=>by
  rw[T.at]at hy
  cases hy
  refine⟨[],cs,[],[],B,[],by simp,by simp,by rw[T.off];rfl,h,fun w' E' y' c2' B2' hm hr=>⟨y',by rw[T.put],by simpa using hr,fun h=>h⟩⟩
 | i::p,.st fs,y,cs,B,h,hy=>by
  rw[Rep]at h
  rw[T.at]at hy
  obtain⟨c1,c2,c3,B1,B2,B3,e1,e2,e3,e4,e5⟩:=RepS.ctx i p fs y cs B h hy
  refine⟨c1,c2,c3,B1,B2,B3,e1,e2,by rw[T.off];exact e3,e4,fun w' E' y' c2' B2' hm hr=> ?_⟩
  obtain⟨fs',k1,k2,k3⟩:=e5 w' E' y' c2' B2' hm hr
  exact⟨.st fs',by rw[T.put,k1];rfl,by rw[Rep];exact k2,fun h=>by simp only[T.size];exact k3 h⟩
 | i::p,.v _,y,cs,B,h,hy=>by simp[T.at]at hy
 | i::p,.sl _ _ _,y,cs,B,h,hy=>by simp[T.at]at hy
theorem RepS.ctx {w:World} {E:Nat→Nat}:∀(i:Nat) (p:List Nat) (fs:List T) (y:T) (cs:List Value) (B:List Nat),RepS w E fs cs B→ats i p fs=some y→
  ∃c1 c2 c3 B1 B2 B3,cs=c1++c2++c3∧B=B1++B2++B3∧offs i p fs=some c1.length∧Rep w E y c2 B2∧
   ∀w' E' y' c2' B2',Mv w E w' E' (B1++B3)→Rep w' E' y' c2' B2'→∃fs',puts i p fs y'=some fs'∧RepS w' E' fs' (c1++c2'++c3) (B1++B2'++B3)∧(y'.size=y.size→sizes fs'=sizes fs)
 | i,p,[],y,cs,B,h,hy=>by simp[ats]at hy
 | 0,p,f::fs,y,cs,B,h,hy=>by
  rw[RepS]at h
  obtain⟨d1,d2,C1,C2,f1,f2,f3,f4⟩:=h
  rw[ats]at hy
  obtain⟨c1,c2,c3,B1,B2,B3,e1,e2,e3,e4,e5⟩:=Rep.ctx p f y d1 C1 f3 hy
  refine⟨c1,c2,c3++d2,B1,B2,B3++C2,by rw[f1,e1];simp,by rw[f2,e2];simp,by rw[offs];exact e3,e4,fun w' E' y' c2' B2' hm hr=> ?_⟩
  obtain⟨x',k1,k2,k3⟩:=e5 w' E' y' c2' B2' (hm.sub (fun k hk=>by simp at hk⊢;rcases hk with h | h<;>simp[h])) hr
  refine⟨x'::fs,by rw[puts,k1];rfl, ?_,fun h=>by simp only[sizes];rw[k3 h]⟩
  rw[RepS]
  exact⟨c1++c2'++c3,d2,B1++B2'++B3,C2,by simp,by simp,k2,RepS.mv (hm.sub (fun k hk=>by simp[hk])) f4⟩
 | i+1,p,f::fs,y,cs,B,h,hy=>by
  rw[RepS]at h
  obtain⟨d1,d2,C1,C2,f1,f2,f3,f4⟩:=h
  rw[ats]at hy
  obtain⟨c1,c2,c3,B1,B2,B3,e1,e2,e3,e4,e5⟩:=RepS.ctx i p fs y d2 C2 f4 hy
  refine⟨d1++c1,c2,c3,C1++B1,B2,B3,by rw[f1,e1];simp,by rw[f2,e2];simp,by rw[offs,e3,List.length_append,Rep.len f3];rfl,e4,fun w' E' y' c2' B2' hm hr=> ?_⟩
  obtain⟨fs',k1,k2,k3⟩:=e5 w' E' y' c2' B2' (hm.sub (fun k hk=>by simp at hk⊢;rcases hk with h | h<;>simp[h])) hr
  refine⟨f::fs',by rw[puts,k1];rfl, ?_,fun h=>by simp only[sizes];rw[k3 h]⟩
  rw[RepS]
  exact⟨d1,c1++c2'++c3,C1,B1++B2'++B3,by simp,by simp,Rep.mv (hm.sub (fun k hk=>by simp[hk])) f3,k2⟩
end
theorem zox:∀{i:Nat} {p:List Nat} {fs:List T},ats i p fs=(fs[i]?).bind (T.at p)
 | i,p,[]=>by rw[ats];rfl
 | 0,p,f::fs=>by rw[ats];rfl
 | i+1,p,f::fs=>by rw[ats,zox];rfl
theorem zoy:∀{p:List Nat} {x y:T},x.at p=some y→x.get p=some y∧x.far p=false
 | [],x,y,h=>by rw[T.at]at h;rw[T.get,T.far];exact⟨h,rfl⟩
 | i::p,.st fs,y,h=>by
  rw[T.at,zox]at h
  rw[T.get,T.far]
  cases hf:fs[i]? with
  | none=>rw[hf]at h;cases h
  | some z=>rw[hf]at h;exact zoy h
 | i::p,.v _,y,h=>by simp[T.at]at h
 | i::p,.sl _ _ _,y,h=>by simp[T.at]at h
 | i::p,.xl _ _,y,h=>by simp[T.at]at h
 | i::p,.op,y,h=>by simp[T.at]at h
end Go.Proofs.YtgmidllbkjdnnaaGreatDoor.Flat
namespace Go.Proofs.YtgmidllbkjdnnaaGreatDoor.Flat
set_option linter.unusedVariables false
set_option linter.unusedSimpArgs false
set_option linter.unusedSectionVars false
variable [Glob]
theorem zlG {w:World} {β:Bm} {a:Act} {s:St} {l:Loc} {c:Cell} (hc:s.get l=some c) (x':AV) (l':Loc):zdb w β a (s.put l {c with val:=x'}) l'=zdb w β a s l':=by
 cases l' with
 | tm j=>rfl
 | bx j=>
  cases l with
  | tm i=>rfl
  | bx i=>
   by_cases hj:j=i
   ·subst hj
    have h1:s.bx[j]?=some c:=hc
    have h2:(s.put (.bx j) {c with val:=x'}).bx[j]?=some {c with val:=x'}:=St.get_put s (.bx j) _ c hc
    simp only[zdb,h1,h2]
   ·have h2:(s.put (.bx i) {c with val:=x'}).bx[j]?=s.bx[j]?:=St.zd2 s i _ (.bx j) (fun e=>hj (by injection e))
    simp only[zdb,h2]
theorem Sim.val {e : Ent} {w : World} {E : Nat → Nat} {β : Bm} {τ : Loc → List Nat} {a : Act} {s : St} (h : Sim e w E β τ a s) {l : Loc} {c : Cell} (hc : s.get l = some c) {x' : AV} {B' : List Nat}
  (hT:∀i,l=.tm i→RepV w E e.F β x' (a.tmps.getD i undef) B')
  (hX:∀i,l=.bx i→c.val≠ .un∧∀cells ty,w.heap[β i c.gen]?=some (.cells cells ty (0,0))→RepC w E e.F β x' cells.toList B')
  (hs:∀k∈B',k∈τ l) (hn:B'.Nodup) (hx:x'.deX=x') (ho:∀y',x'=.t y'→∃y,c.val=.t y∧Finer y' y):
  Sim e w E β (upT τ l B') a (s.put l {c with val:=x'}):=by
 have sub:∀l' k,k∈upT τ l B' l'→k∈τ l':=by
  intro l' k hk
  by_cases hl:l'=l
  ·rw[hl]at hk⊢;rw[zbG]at hk;exact hs k hk
  ·rw[zaE τ B' hl]at hk;exact hk
 have gtm:∀(i:Nat) (d:Cell),(s.put l {c with val:=x'}).tm[i]?=some d→(l=.tm i∧d={c with val:=x'})∨(l≠ .tm i∧s.tm[i]?=some d):=by
  intro i d hd
  by_cases hl:l=.tm i
  ·subst hl
   have:(s.put (.tm i) {c with val:=x'}).tm[i]?=some {c with val:=x'}:=St.get_put s (.tm i) _ c hc
   rw[this]at hd
   exact .inl ⟨rfl,(Option.some.inj hd).symm⟩
  ·refine .inr ⟨hl, ?_⟩
   cases l with
   | tm j=>rw[←hd];exact(St.zfp s j _ (.tm i) (fun e=>hl e.symm)).symm
   | bx j=>exact hd
 have gbx:∀(i:Nat) (d:Cell),(s.put l {c with val:=x'}).bx[i]?=some d→(l=.bx i∧d={c with val:=x'})∨(l≠ .bx i∧s.bx[i]?=some d):=by
  intro i d hd
  by_cases hl:l=.bx i
  ·subst hl
   have:(s.put (.bx i) {c with val:=x'}).bx[i]?=some {c with val:=x'}:=St.get_put s (.bx i) _ c hc
   rw[this]at hd
   exact .inl ⟨rfl,(Option.some.inj hd).symm⟩
  ·refine .inr ⟨hl, ?_⟩
   cases l with
   | bx j=>rw[←hd];exact(St.zd2 s j _ (.bx i) (fun e=>hl e.symm)).symm
   | tm j=>exact hd
 have gbx2:∀(i:Nat) (d:Cell),(s.put l {c with val:=x'}).bx[i]?=some d→d.val≠ .un→∃d0:Cell,s.bx[i]?=some d0∧d0.gen=d.gen∧d0.val≠ .un:=by
  intro i d hd hv
  rcases gbx i d hd with ⟨hl,rfl⟩ | ⟨hl,hd'⟩
  ·subst hl
   exact⟨c,hc,rfl,(hX i rfl).1⟩
  ·exact⟨d,hd',rfl,hv⟩
 refine⟨h.dfr, ?_,fun i d hd=> ?_,fun i d hd hv=> ?_,fun l' k hk=>h.tok l' k (sub l' k hk),fun l1 l2 k h1 h2=>h.one l1 l2 k (sub _ _ h1) (sub _ _ h2),fun l'=> ?_,fun l' k i d hk hd hv=> ?_,fun i j d d' hd hd' hv hv' he=> ?_,fun i d kk l' p n hd hg=> ?_,h.z,h.mz,h.mlt,h.blt,h.dis,fun b d hd=> ?_,h.fr,fun i' k hk=>by have:=h.fx i' k hk;cases l<;>simpa [St.put] using this⟩
 ·rw[h.len];cases l<;>simp[St.put]
 ·rcases gtm i d hd with ⟨hl,rfl⟩ | ⟨hl,hd'⟩
  ·subst hl
   rw[zbG]
   exact hT i rfl
  ·rw[zaE τ B' (fun e=>hl e.symm)]
   exact h.tm i d hd'
 ·rcases gbx i d hd with ⟨hl,rfl⟩ | ⟨hl,hd'⟩
  ·subst hl
   obtain⟨hu,hr⟩:=hX i rfl
   obtain⟨cells,ty,k1,k2,k3⟩:=h.bx i c hc hu
   rw[zbG]
   exact⟨cells,ty,k1,hr cells ty k1,k3⟩
  ·rw[zaE τ B' (fun e=>hl e.symm)]
   exact h.bx i d hd' hv
 ·by_cases hl:l'=l
  ·rw[hl,zbG];exact hn
  ·rw[zaE τ B' hl];exact h.nod l'
 ·obtain⟨d0,k1,k2,k3⟩:=gbx2 i d hd hv
  rw[←k2]
  exact h.tb l' k i d0 (sub _ _ hk) k1 k3
 ·obtain⟨d0,k1,k2,k3⟩:=gbx2 i d hd hv
  obtain⟨d1,m1,m2,m3⟩:=gbx2 j d' hd' hv'
  exact h.bb i j d0 d1 k1 m1 k3 m3 (by rw[k2,m2];exact he)
 ·have hq:OgX w β a s kk l' p n (a.tmps.getD i undef):=by
   rcases gtm i d hd with ⟨hl,rfl⟩ | ⟨hl,hd'⟩
   ·subst hl
    rcases hg with hg | ⟨rfl,hg⟩
    ·have hg:x'=.xr kk l' p n:=hg
     rw[hg]at hx
     cases hx
    ·exact h.og i c false l' p n hc (.inr ⟨rfl,hg⟩)
   ·exact h.og i d kk l' p n hd' hg
  intro d2 hd2
  rw[zlG hc]
  by_cases hl:l'=l
  ·subst hl
   rw[St.get_put s l' _ c hc]at hd2
   cases hd2
   obtain⟨q1,q2⟩:=hq c hc
   refine⟨q1,fun y' y ad c2 hv hy hlk=> ?_⟩
   obtain⟨y0,hy0,hf⟩:=ho y' hy
   obtain⟨y1,hl1,hv1⟩:=hf.2 _ _ _ _ _ _ _ hlk
   rw[hv1]
   exact q2 y0 y1 ad c2 hv hy0 hl1
  ·have:(s.put l {c with val:=x'}).get l'=s.get l':=by
    cases l with
    | tm j=>exact St.zfp s j _ l' hl
    | bx j=>exact St.zd2 s j _ l' hl
   rw[this]at hd2
   exact hq d2 hd2
 ·rcases gbx b d hd with ⟨hl,rfl⟩ | ⟨hl,hd'⟩
  ·subst hl
   exact h.gn b c hc
  ·exact h.gn b d hd'
theorem zqk (x:AV):x.cp.deX=x.cp:=by cases x<;>rfl
theorem zoz {x:AV} {y':T} (h:x.cp=.t y'):∃y,x=.t y∧Finer y' y:=by
 cases x with
 | t y=>
  have e:AV.t y.sh=.t y':=h
  cases e
  exact⟨y,rfl,Finer.sh y⟩
 | tup xs=>cases (show AV.tup (shs xs)=.t y' from h)
 | _=>cases h
def Free (e:Ent) (w:World) (β:Bm) (τ:Loc→List Nat) (s:St) (B:List Nat):Prop:=
 B.Nodup∧∀k∈B,k < w.heap.size∧(e.w.heap.size≤k∨k∈e.Ba)∧(∀l,k∉τ l)∧∀j c,s.bx[j]?=some c→c.val≠ .un→k≠β j c.gen
section
variable {en:Env} {e:Ent} {w:World} {E:Nat→Nat} {β:Bm} {τ:Loc→List Nat} {a:Act} {s:St}
theorem Sim.free (h:Sim e w E β τ a s) {l:Loc} {c:Cell} {x':AV} {B B':List Nat} (hc:s.get l=some c) (hB:∀k∈B,k∈τ l∧k∉B') (hn:B.Nodup) (hx:∀i,l=.bx i→c.val≠ .un):Free e w β (upT τ l B') (s.put l {c with val:=x'}) B:=by
 refine⟨hn,fun k hk=> ?_⟩
 obtain⟨h1,h2⟩:=hB k hk
 obtain⟨k1,k2⟩:=h.tok l k h1
 refine⟨k1,k2,fun l' hl'=> ?_,fun j d hd hv=> ?_⟩
 ·by_cases hl:l'=l
  ·rw[hl,zbG]at hl';exact h2 hl'
  ·rw[zaE τ B' hl]at hl';exact hl (h.one l' l k hl' h1)
 ·cases l with
  | tm i=>exact h.tb _ k j d h1 hd hv
  | bx i=>
   by_cases hj:j=i
   ·subst hj
    have e1:(s.put (.bx j) {c with val:=x'}).bx[j]?=some {c with val:=x'}:=St.get_put s (.bx j) _ c hc
    rw[e1]at hd
    cases hd
    exact h.tb _ k j c h1 hc (hx j rfl)
   ·have e1:(s.put (.bx i) {c with val:=x'}).bx[j]?=s.bx[j]?:=St.zd2 s i _ (.bx j) (fun e=>hj (by injection e))
    rw[e1]at hd
    exact h.tb _ k j d h1 hd hv
end
end Go.Proofs.YtgmidllbkjdnnaaGreatDoor.Flat
namespace Go.Proofs.YtgmidllbkjdnnaaGreatDoor.Flat
set_option linter.unusedVariables false
set_option linter.unusedSimpArgs false
set_option linter.unusedSectionVars false
variable [Glob]
def Took (e:Ent) (w:World) (E:Nat→Nat) (β:Bm) (τ:Loc→List Nat) (a:Act) (s s':St) (x:AV) (v:Value):Prop:=
 ∃τ' B,Sim e w E β τ' a s'∧RepV w E e.F β x v B∧Free e w β τ' s' B∧(∀k∈B,∃l,k∈τ l)∧∀B0,Free e w β τ s B0→Free e w β τ' s' B0
section
variable {en:Env} {e:Ent} {w:World} {E:Nat→Nat} {β:Bm} {τ:Loc→List Nat} {a:Act} {s:St}
theorem Free.val {B0:List Nat} (hB:Free e w β τ s B0) {l:Loc} {c:Cell} {x':AV} {B':List Nat} (hc:s.get l=some c) (hs:∀k∈B',k∈τ l) (hx:∀i,l=.bx i→c.val≠ .un):Free e w β (upT τ l B') (s.put l {c with val:=x'}) B0:=by
 refine⟨hB.1,fun k hk=> ?_⟩
 obtain⟨k1,k2,k3,k4⟩:=hB.2 k hk
 refine⟨k1,k2,fun l' hl'=> ?_,fun j d hd hv=> ?_⟩
 ·by_cases hl:l'=l
  ·rw[hl,zbG]at hl';exact k3 l (hs k hl')
  ·rw[zaE τ B' hl]at hl';exact k3 l' hl'
 ·cases l with
  | tm i=>exact k4 j d hd hv
  | bx i=>
   by_cases hj:j=i
   ·subst hj
    have e1:(s.put (.bx j) {c with val:=x'}).bx[j]?=some {c with val:=x'}:=St.get_put s (.bx j) _ c hc
    rw[e1]at hd
    cases hd
    exact k4 j c hc (hx j rfl)
   ·have e1:(s.put (.bx i) {c with val:=x'}).bx[j]?=s.bx[j]?:=St.zd2 s i _ (.bx j) (fun e=>hj (by injection e))
    rw[e1]at hd
    exact k4 j d hd hv
theorem Free.less {B B':List Nat} (h:Free e w β τ s B) (hs:B'.Sublist B):Free e w β τ s B':=⟨h.1.sublist hs,fun k hk=>h.2 k (hs.subset hk)⟩
theorem zoA (h:Sim e w E β τ a s) {i:Nat} {c:Cell} (hc:s.get (.tm i)=some c):Took e w E β τ a s (s.put (.tm i) {c with val:=c.val.cp}) c.val (a.tmps.getD i undef):=by
 have hv:=h.tm i c hc
 refine⟨_,_,h.val hc (x':=c.val.cp) (B':=[]) (fun j hj=> ?_) (fun j hj=>by cases hj) (fun k hk=>by cases hk) List.nodup_nil (zqk _) (fun y' hy=>zoz hy),hv,h.free hc (fun k hk=>⟨hk,by simp⟩) (h.nod _) (fun j hj=>by cases hj),fun k hk=>⟨_,hk⟩,fun B0 hB0=>hB0.val hc (fun k hk=>by cases hk) (fun j hj=>by cases hj)⟩
 cases hj
 exact hv.cp
theorem zgG (h:Sim e w E β τ a s) {l:Loc} {p:List Nat} {n:Nat} {v:Value} (hv:OgX w β a s false l p n v) {y:AV} {s':St} {r q:List FL} (ht:takeX l p n s=some (y,s',r,q)):Took e w E β τ a s s' y v∧∃z,y=.t z:=by
 obtain⟨d,s1,_,_,_,_,h1,h2⟩:=M.bind_some ht
 obtain⟨g1,rfl⟩:=M.za4 h1
 obtain⟨_,s2,_,_,_,_,h3,h4⟩:=M.bind_some h2
 obtain⟨g3,rfl⟩:=M.zam h3
 cases hdv:d.val with
 | t x=>
  simp only[hdv]at h4
  obtain⟨z,s3,_,_,_,_,h5,h6⟩:=M.bind_some h4
  obtain⟨g5,rfl⟩:=M.zar h5
  obtain⟨x',s4,_,_,_,_,h7,h8⟩:=M.bind_some h6
  obtain⟨g7,rfl⟩:=M.zar h7
  obtain⟨_,s5,_,_,_,_,h9,h10⟩:=M.bind_some h8
  obtain⟨_,rfl⟩:=M.zkE h9
  obtain⟨rfl,rfl⟩:=M.zO h10
  obtain⟨ad,c2,B1,B2,B3,hp⟩:=h.part g1 hdv (by simpa using g3) g5
  obtain⟨x2,n1,n2,n3⟩:=hp.set z.sh [] (Rep.sh hp.rep) (T.ze8 z)
  rw[g7]at n1
  cases n1
  have hf:=Finer.rep g5 (Finer.sh z) g7
  have hvo:∀c,valOf x' c=valOf x c:=fun c=>by
   obtain⟨y1,k1,k2⟩:=hf.2 w [] c none x' none c (by rw[look])
   rw[look]at k1
   cases k1
   exact k2 c
  obtain⟨k1,k2,k3⟩:=h.place g1 hdv
  have hnod:=h.nod l
  rw[hp.tok,List.append_assoc,List.nodup_append]at hnod
  obtain⟨q1,q2,q3⟩:=hnod
  rw[List.nodup_append]at q2
  have sub:∀k∈B1++[]++B3,k∈τ l:=by
   intro k hk
   rw[hp.tok]
   simp at hk⊢
   rcases hk with hk | hk<;>simp[hk]
  have nB:(B1++[]++B3).Nodup:=by
   simp only[List.append_nil]
   rw[List.nodup_append]
   exact⟨q1,q2.2.1,fun x hx y hy=>q3 x hx y (List.mem_append_right _ hy)⟩
  have hun:∀i,l=.bx i→d.val≠ .un:=fun i hi=>by rw[hdv];exact fun h=>by cases h
  have hsim:=h.val g1 (x':=.t x') (B':=B1++[]++B3) (fun j hj=>by
    rw[RepV,k2 j hj]
    exact⟨_,n3,(hvo _).symm⟩)
   (fun j hj=>⟨hun j hj,fun cells ty hc=>by
    obtain⟨cells',ty',m1,m2⟩:=k3 j hj
    rw[m1]at hc
    cases hc
    show Rep w E x' cells.toList _
    rw[←m2]
    exact n3⟩) sub nB rfl (fun z' hz=>by cases hz;exact⟨x,hdv,hf⟩)
  refine⟨⟨_,B2,hsim,by rw[RepV];exact⟨c2,hp.rep,hv.val hp⟩,h.free g1 (fun k hk=>⟨(by rw[hp.tok];simp[hk]),fun hk'=> ?_⟩) q2.1 hun,fun k hk=>⟨l,by rw[hp.tok];simp[hk]⟩,fun B0 hB0=>hB0.val g1 sub hun⟩,_,rfl⟩
  simp at hk'
  rcases hk' with hk' | hk'
  ·exact q3 k hk' k (List.mem_append_left _ hk) rfl
  ·exact q2.2.2 k hk k hk' rfl
 | _=>simp only[hdv]at h4;exact(M.zt h4).elim
theorem zgH (h:Sim e w E β τ a s) {i:Nat} {y:AV} {s':St} {r q:List FL} (ht:takeO i s=some (y,s',r,q)):Took e w E β τ a s s' y (a.tmps.getD i undef)∧∃z,y=.t z:=by
 obtain⟨c,s1,_,_,_,_,h1,h2⟩:=M.bind_some ht
 obtain⟨g1,rfl⟩:=M.za4 h1
 have hv:=zoA h g1
 cases hcv:c.val with
 | t z=>
  cases z with
  | sl o sz xs=>
   cases o with
   | true=>
    simp only[hcv]at h2
    obtain⟨_,s2,_,_,_,_,h3,h4⟩:=M.bind_some h2
    obtain⟨_,rfl⟩:=M.zeJ h3
    obtain⟨rfl,rfl⟩:=M.zO h4
    rw[hcv]at hv
    exact⟨hv,_,rfl⟩
   | false=>
    simp only[hcv]at h2
    cases hog:c.og with
    | none=>simp only[hog]at h2;exact(M.zt h2).elim
    | some g=>
     obtain⟨l,p,n⟩:=g
     simp only[hog]at h2
     exact zgG h (h.og i c false l p n g1 (.inr ⟨rfl,hog⟩)) h2
  | xl sz xs=>
   simp only[hcv]at h2
   obtain⟨_,s2,_,_,_,_,h3,h4⟩:=M.bind_some h2
   obtain⟨_,rfl⟩:=M.zeJ h3
   obtain⟨rfl,rfl⟩:=M.zO h4
   rw[hcv]at hv
   exact⟨hv,_,rfl⟩
  | _=>simp only[hcv]at h2;exact(M.zt h2).elim
 | xr k l p n=>
  cases k with
  | false=>simp only[hcv]at h2;exact zgG h (h.og i c false l p n g1 (.inl hcv)) h2
  | true=>simp only[hcv]at h2;exact(M.zt h2).elim
 | _=>simp only[hcv]at h2;exact(M.zt h2).elim
theorem zf1 (h:Sim e w E β τ a s) {x:AV} {v:Value} (hv:RepV w E e.F β x v []):Took e w E β τ a s s x v:=⟨τ,[],h,hv,⟨List.nodup_nil,fun k hk=>by cases hk⟩,fun k hk=>(by cases hk),fun _ h=>h⟩
theorem zeW (h:Sim e w E β τ a s) {t:TypeId} {x:Operand} {y:AV} {s':St} {r q:List FL} (ht:mvO en t x s=some (y,s',r,q)):Took e w E β τ a s s' y (a.eval x):=by
 have other:rdO en t x s=some (y,s',r,q)→Took e w E β τ a s s' y (a.eval x):=by
  intro hx
  obtain⟨rfl,k⟩:=zd8 h hx
  exact zf1 h k
 cases x with
 | tmp i=>
  obtain⟨c,s1,_,_,_,_,h1,h2⟩:=M.bind_some ht
  obtain⟨g1,rfl⟩:=M.za4 h1
  have hp:(y=c.val∧s'=s.put (.tm i) {c with val:=c.val.cp})∨∃l p n r1 q1,c.val=.xr false l p n∧takeX l p n s=some (y,s',r1,q1):=by
   cases hcv:c.val with
   | un=>simp only[hcv]at h2;exact(M.zt h2).elim
   | nd=>simp only[hcv]at h2;exact(M.zt h2).elim
   | xr k l p n=>
    cases k with
    | false=>simp only[hcv]at h2;exact .inr ⟨l,p,n,_,_,rfl,h2⟩
    | true=>
     simp only[hcv]at h2
     obtain⟨_,s2,_,_,_,_,h3,h4⟩:=M.bind_some h2
     obtain⟨_,rfl⟩:=M.zeJ h3
     obtain⟨rfl,rfl⟩:=M.zO h4
     exact .inl ⟨rfl,rfl⟩
   | _=>
    simp only[hcv]at h2
    obtain⟨_,s2,_,_,_,_,h3,h4⟩:=M.bind_some h2
    obtain⟨_,rfl⟩:=M.zeJ h3
    obtain⟨rfl,rfl⟩:=M.zO h4
    exact .inl ⟨rfl,rfl⟩
  rcases hp with ⟨rfl,rfl⟩ | ⟨l,p,n,_,_,hcv,ht⟩
  ·exact zoA h g1
  ·exact(zgG h (h.og i c false l p n g1 (.inl hcv)) ht).1
 | const v=>exact other ht
 | global g=>exact other ht
 | func f=>exact other ht
theorem ziF (h:Sim e w E β τ a s) {b:Bool} {t:TypeId} {x:Operand} {y:AV} {s':St} {r q:List FL} (ht:mvFin en b t x s=some (y,s',r,q)):Took e w E β τ a s s' y (a.eval x):=by
 cases b with
 | false=>cases x<;>exact zeW (en:=en) (t:=t) h ht
 | true=>
  cases x with
  | tmp i=>
   obtain⟨c,s1,_,_,_,_,h1,h2⟩:=M.bind_some ht
   obtain⟨_,rfl⟩:=M.za4 h1
   have key:∀{r' q':List FL},mvO en t (.tmp i) s=some (y,s',r',q')→Took e w E β τ a s s' y (a.eval (.tmp i)):=fun hq=>zeW h hq
   have key2:∀{r' q':List FL},takeO i s=some (y,s',r',q')→Took e w E β τ a s s' y (a.eval (.tmp i)):=fun hq=>(zgH h hq).1
   obtain⟨val,og,ver,gen⟩:=c
   cases val with
   | t z=>
    cases z with
    | sl o sz xs=>
     cases o with
     | false=>
      cases og with
      | none=>exact key h2
      | some g=>
       obtain⟨l,p,n⟩:=g
       obtain⟨d,s2,_,_,_,_,h4,h5⟩:=M.bind_some h2
       obtain⟨_,rfl⟩:=M.za4 h4
       obtain⟨dval,dog,dver,dgen⟩:=d
       cases dval with
       | t yy=>
        dsimp only at h5
        cases hat:yy.get p with
        | none=>rw[hat]at h5;exact key h5
        | some q=>
         rw[hat]at h5
         cases q with
         | sl o' sz' ys=>
          cases o' with
          | true=>
           dsimp only at h5
           by_cases hver:(dver==n)=true
           ·rw[if_pos hver]at h5;exact key2 h5
           ·rw[if_neg hver]at h5;exact key h5
          | false=>exact key h5
         | _=>exact key h5
       | _=>exact key h5
     | true=>exact key h2
    | _=>exact key h2
   | _=>exact key h2
  | const v=>exact zeW (en:=en) (t:=t) h ht
  | global g=>exact zeW (en:=en) (t:=t) h ht
  | func f=>exact zeW (en:=en) (t:=t) h ht
end
end Go.Proofs.YtgmidllbkjdnnaaGreatDoor.Flat
namespace Go.Proofs.YtgmidllbkjdnnaaGreatDoor.Flat
set_option linter.unusedVariables false
set_option linter.unusedSimpArgs false
set_option linter.unusedSectionVars false
variable [Glob]
def Done (en:Env) (o:Oper) (e:Ent) (w:World) (a:Act) (s':St):Prop:=
 ∃n v w' E' β' τ',(execOp a.eval o).run en.P w=.ok n w'∧(n=.value v∨n=.skip∧v=undef)∧Sim e w' E' β' τ' (a.put o.dst v) s'
theorem zql {P:Program} {m:Sem Value} {v:Value} (h:ev P m=some v) (w:World):(do pure (Next.value (←m)):Sem Next).run P w=.ok (.value v) w:=by
 rw[Sem.run_bind,zow h w]
 rfl
section
variable {en:Env} {e:Ent} {w:World} {E:Nat→Nat} {β:Bm} {τ:Loc→List Nat} {a:Act} {s s':St} {o:Oper} {r q:List FL} {u:Unit}
theorem Sim.self (h:Sim e w E β τ a s) {j:Nat} {c:Cell} {x:T} (hc:s.get (.tm j)=some c) (hx:c.val=.t x):OgX w β a s false (.tm j) [] c.ver (a.tmps.getD j undef):=by
 intro d hd
 rw[hc]at hd
 cases hd
 refine⟨Nat.le_refl _,fun x' y ad c2 _ hx' hl=> ?_⟩
 rw[hx]at hx'
 cases hx'
 rw[look]at hl
 cases hl
 exact(h.place hc hx).2.1 j rfl
theorem zpw (h:Sim e w E β τ a s) {j:Nat} {c:Cell} (hc:s.get (.tm j)=some c):∀l p n,ogOf j c=some (l,p,n)→OgX w β a s false l p n (a.tmps.getD j undef):=by
 intro l p n hg
 cases hcv:c.val with
 | t z=>
  have own:ogOf j c=some (.tm j,[],c.ver)→OgX w β a s false l p n (a.tmps.getD j undef):=by
   intro hq
   rw[hq]at hg
   cases hg
   exact h.self hc hcv
  cases z with
  | sl o' sz xs=>
   cases o' with
   | true=>exact own (by unfold ogOf;rw[hcv])
   | false=>
    cases hog:c.og with
    | none=>exact own (by unfold ogOf;rw[hcv,hog])
    | some g=>
     obtain⟨l',p',n'⟩:=g
     have:ogOf j c=some (l',p',n'):=by unfold ogOf;rw[hcv,hog]
     rw[this]at hg
     cases hg
     exact h.og j c false l p n hc (.inr ⟨rfl,hog⟩)
  | _=>unfold ogOf at hg;rw[hcv]at hg;cases hg
 | _=>unfold ogOf at hg;rw[hcv]at hg;cases hg
theorem zg7 (h:Sim e w E β τ a s) {x:Operand} {g:Option (Loc × List Nat × Nat)} {s':St} {r q:List FL} (hr:rdL x s=some (g,s',r,q)):s=s'∧∀l p n,g=some (l,p,n)→OgX w β a s false l p n (a.eval x):=by
 have none_:∀{r' q':List FL},M.pure none s=some (g,s',r',q')→s=s'∧∀l p n,g=some (l,p,n)→OgX w β a s false l p n (a.eval x):=by
  intro r' q' hq
  obtain⟨rfl,rfl⟩:=M.zO hq
  exact⟨rfl,fun l p n h=>by cases h⟩
 cases x with
 | tmp j=>
  obtain⟨c,s1,_,_,_,_,h1,h2⟩:=M.bind_some hr
  obtain⟨g1,rfl⟩:=M.za4 h1
  cases hcv:c.val with
  | t z=>
   simp only[hcv]at h2
   by_cases hx:z.hasX=true
   ·rw[if_pos hx]at h2
    obtain⟨rfl,rfl⟩:=M.zO h2
    exact⟨rfl,fun l p n hq=>by cases hq;exact h.self g1 hcv⟩
   ·rw[if_neg hx]at h2
    exact none_ h2
  | xr k l p n=>
   cases k with
   | false=>
    simp only[hcv]at h2
    obtain⟨rfl,rfl⟩:=M.zO h2
    exact⟨rfl,fun l' p' n' hq=>by cases hq;exact h.og j c false l p n g1 (.inl hcv)⟩
   | true=>simp only[hcv]at h2;exact none_ h2
  | _=>simp only[hcv]at h2;exact none_ h2
 | _=>exact none_ hr
theorem znV (h:Sim e w E β τ a s) {x:Operand} {g:Option (Loc × List Nat × Nat)} {s':St} {r q:List FL} (hr:rdM x s=some (g,s',r,q)):s=s'∧∀l p n,g=some (l,p,n)→OgX w β a s false l p n (a.eval x):=by
 have none_:∀{r' q':List FL},M.pure none s=some (g,s',r',q')→s=s'∧∀l p n,g=some (l,p,n)→OgX w β a s false l p n (a.eval x):=by
  intro r' q' hq
  obtain⟨rfl,rfl⟩:=M.zO hq
  exact⟨rfl,fun l p n h=>by cases h⟩
 cases x with
 | tmp j=>
  obtain⟨c,s1,_,_,_,_,h1,h2⟩:=M.bind_some hr
  obtain⟨g1,rfl⟩:=M.za4 h1
  cases hcv:c.val with
  | t z=>
   cases z with
   | xl sz xs=>
    simp only[hcv]at h2
    obtain⟨rfl,rfl⟩:=M.zO h2
    exact⟨rfl,fun l p n hq=>by cases hq;exact h.self g1 hcv⟩
   | _=>simp only[hcv]at h2;exact none_ h2
  | xr k l p n=>
   cases k with
   | false=>
    simp only[hcv]at h2
    obtain⟨rfl,rfl⟩:=M.zO h2
    exact⟨rfl,fun l' p' n' hq=>by cases hq;exact h.og j c false l p n g1 (.inl hcv)⟩
   | true=>simp only[hcv]at h2;exact none_ h2
  | _=>simp only[hcv]at h2;exact none_ h2
 | _=>exact none_ hr
theorem zd1:([]:List Nat).Nodup∧∀k∈([]:List Nat),k < w.heap.size∧(e.w.heap.size≤k∨k∈e.Ba)∧(∀l,k∉τ l)∧∀j c,s.bx[j]?=some c→c.val≠ .un→k≠β j c.gen:=⟨List.nodup_nil,fun k hk=>by cases hk⟩
theorem zdP {v:Value}:∀l p n,(none:Option (Loc × List Nat × Nat))=some (l,p,n)→OgX w β a s false l p n v:=fun l p n h=>by cases h
theorem zgg {v:Value} (h:okv v=true) (w:World) (E:Nat→Nat):RepT w E (.v v) v []:=⟨[v],by rw[Rep];exact⟨rfl,h,rfl⟩,rfl⟩
theorem zqm (h:Sim e w E β τ a s) {m:Sem Value} {v:Value} (hm:ev en.P m=some v) (hx:execOp a.eval o=(do pure (Next.value (←m)))) {x:AV} {B:List Nat} (hv:RepV w E e.F β x v B) (hB:Free e w β τ s B) (hw:wr o.dst x none s=some (u,s',r,q)):Done en o e w a s':=by
 obtain⟨τ',k⟩:=Sim.wr h hw hv hB zdP
 exact⟨.value v,v,w,E,β,τ',by rw[hx];exact zql hm w,.inl rfl,k⟩
theorem zjm (h:Sim e w E β τ a s) {m:Sem Value} {v:Value} (hm:ev en.P m=some v) (hx:execOp a.eval o=(do pure (Next.value (←m)))) (hok:okv v=true) (hw:wr o.dst (.t (.v v)) none s=some (u,s',r,q)):Done en o e w a s':=
 zqm h hm hx (by rw[RepV];exact zgg hok w E) zd1 hw
theorem zlH (h:Sim e w E β τ a s) {t:TypeId} {x:Operand} {y:AV} {s':St} {r q:List FL} (ht:mvTup en t x s=some (y,s',r,q)):Took e w E β τ a s s' y (a.eval x):=by
 have other:∀{r q:List FL},rdO en t x s=some (y,s',r,q)→Took e w E β τ a s s' y (a.eval x):=by
  intro r q hx
  obtain⟨rfl,k⟩:=zd8 h hx
  exact zf1 h k
 cases x with
 | tmp i=>
  obtain⟨c,s1,_,_,_,_,h1,h2⟩:=M.bind_some ht
  obtain⟨_,rfl⟩:=M.za4 h1
  obtain⟨val,og,ver,gen⟩:=c
  cases val with
  | tup xs=>exact zeW h h2
  | _=>exact other h2
 | _=>exact other ht
theorem znW (h:Sim e w E β τ a s) {x:Operand} (ho:o.op=.move x) (hf:fire en o s=some (u,s',r,q)):Done en o e w a s':=by
 unfold fire at hf
 rw[ho]at hf
 obtain⟨g,s0,_,_,_,_,h0,hf'⟩:=M.bind_some hf
 obtain⟨rfl,hl⟩:=znV h h0
 have hx:(execOp a.eval o).run en.P w=.ok (.value (a.eval x)) w:=by unfold execOp;rw[ho];rfl
 cases g with
 | some g=>
  obtain⟨l,p,n⟩:=g
  obtain⟨τ',k⟩:=Sim.wrX h hf' (hl l p n rfl)
  exact⟨_,_,w,E,β,τ',hx,.inl rfl,k⟩
 | none=>
 obtain⟨y,s1,_,_,_,_,h1,h2⟩:=M.bind_some hf'
 obtain⟨τ1,B,k1,k2,k3,_⟩:=zlH h h1
 obtain⟨og,s2,_,_,_,_,h3,h4⟩:=M.bind_some h2
 cases x with
 | tmp j=>
  obtain⟨c,s3,_,_,_,_,h5,h6⟩:=M.bind_some h3
  obtain⟨g5,rfl⟩:=M.za4 h5
  obtain⟨rfl,rfl⟩:=M.zO h6
  obtain⟨τ',k⟩:=Sim.wr k1 h4 k2 k3 (zpw k1 g5)
  exact⟨_,_,w,E,β,τ',hx,.inl rfl,k⟩
 | const v=>
  obtain⟨rfl,rfl⟩:=M.zO (s:=s1) h3
  obtain⟨τ',k⟩:=Sim.wr k1 h4 k2 k3 zdP
  exact⟨_,_,w,E,β,τ',hx,.inl rfl,k⟩
 | global g=>
  obtain⟨rfl,rfl⟩:=M.zO (s:=s1) h3
  obtain⟨τ',k⟩:=Sim.wr k1 h4 k2 k3 zdP
  exact⟨_,_,w,E,β,τ',hx,.inl rfl,k⟩
 | func g=>
  obtain⟨rfl,rfl⟩:=M.zO (s:=s1) h3
  obtain⟨τ',k⟩:=Sim.wr k1 h4 k2 k3 zdP
  exact⟨_,_,w,E,β,τ',hx,.inl rfl,k⟩
theorem zlI (h:Sim e w E β τ a s) {x:Operand} (ho:o.op=.assign x) (hf:fire en o s=some (u,s',r,q)):Done en o e w a s':=by
 unfold fire at hf
 rw[ho]at hf
 obtain⟨y,s1,_,_,_,_,h1,h2⟩:=M.bind_some hf
 obtain⟨τ1,B,k1,k2,k3,_⟩:=ziF h h1
 obtain⟨B',k4,k5⟩:=k2.mkA (mkD en o.dst 0)
 obtain⟨τ',k⟩:=Sim.wr k1 h2 k4 (k3.less k5) zdP
 exact⟨_,_,w,E,β,τ',by unfold execOp;rw[ho];rfl,.inl rfl,k⟩
theorem znX (h:Sim e w E β τ a s) {c x y:Operand} (ho:o.op=.pick c x y) (hf:fire en o s=some (u,s',r,q)):Done en o e w a s':=by
 unfold fire at hf
 rw[ho]at hf
 obtain⟨b,s1,_,_,_,_,h1,h2⟩:=M.bind_some hf
 obtain⟨rfl,e1,_⟩:=zeH h h1
 cases b with
 | bool b=>
  obtain⟨z,s2,_,_,_,_,h3,h4⟩:=M.bind_some h2
  obtain⟨rfl,hv⟩:=zd8 h h3
  obtain⟨τ',k⟩:=Sim.wr h h4 hv zd1 zdP
  refine⟨_,_,w,E,β,τ', ?_,.inl rfl,k⟩
  unfold execOp
  rw[ho]
  dsimp only
  rw[e1,Sem.run_bind]
  cases b<;>rfl
 | _=>exact(M.zt h2).elim
theorem zkF (h:Sim e w E β τ a s) {x:Operand} {g:Option (List T)} (hr:rdS x s=some (g,s',r,q)):s=s'∧∀fs,g=some fs→∃B,RepT w E (.st fs) (a.eval x) B:=by
 cases x with
 | tmp i=>
  obtain⟨c,s1,_,_,_,_,h1,h2⟩:=M.bind_some hr
  obtain⟨g1,rfl⟩:=M.za4 h1
  have hc:=h.tm i c g1
  generalize c.val=z at h2 hc
  have none_:∀{r' q':List FL},M.pure (none:Option (List T)) s=some (g,s',r',q')→s=s'∧∀fs,g=some fs→∃B,RepT w E (.st fs) (a.eval (.tmp i)) B:=by
   intro r' q' hn
   obtain⟨rfl,rfl⟩:=M.zO hn
   exact⟨rfl,fun fs hf=>by cases hf⟩
  cases z with
  | t z=>
   cases z with
   | st fs=>
    obtain⟨rfl,rfl⟩:=M.zO h2
    rw[RepV]at hc
    exact⟨rfl,fun fs' hf=>by cases hf;exact⟨_,hc⟩⟩
   | _=>exact none_ h2
  | _=>exact none_ h2
 | _=>
  obtain⟨rfl,rfl⟩:=M.zO (s:=s) hr
  exact⟨rfl,fun fs hf=>by cases hf⟩
theorem zjn {P:Program} {t:TypeId} {cs:Array Value} {i:Nat} {v:Value} (hu:(∃k,P.underlying t=some (.int k))∨P.underlying t=some .bool∨P.underlying t=some .string) (hc:cs[i]?=some v) (w:World):(part t cs i).run P w=.ok v w:=by
 rcases hu with ⟨k,hu⟩ | hu | hu<;>simp[part,isAgg,run_underlying hu,hc]
theorem zmL {P:Program} {t:TypeId} {a b:Value} {r:Bool} (h:zmJ P t a b=some r) (d:Nat) (w:World):(Op.equalIn (d+1) t a b).run P w=.ok r w∧((∃k,P.underlying t=some (.int k))∨P.underlying t=some .bool∨P.underlying t=some .string):=by
 unfold zmJ at h
 split at h
 ·split at h
  ·rename_i k' hu
   split at h
   ·rename_i hk
    subst hk
    cases h
    exact⟨run_equalIn_int w d t _ _ _ _ hu,.inl ⟨_,hu⟩⟩
   ·cases h
  ·cases h
 ·split at h
  ·rename_i hu
   cases h
   exact⟨run_equalIn_bool w d t _ _ hu,.inr (.inl hu)⟩
  ·cases h
 ·split at h
  ·rename_i hu
   cases h
   exact⟨run_equalIn_string w d t _ _ hu,.inr (.inr hu)⟩
  ·cases h
 ·cases h
theorem zhI {P:Program} {d:Nat} {cx cy:Array Value} {w:World}:∀(fs:List Field) (i:Nat) (xs ys:List T) {r:Bool},(∀j v,xs[j]?=some (.v v)→cx[i+j]?=some v)→(∀j v,ys[j]?=some (.v v)→cy[i+j]?=some v)→zd3 P i fs xs ys=some r→(Op.eqFields (d+1) cx cy fs).run P w=.ok r w
 | [],i,[],[],r,_,_,h=>by
  rw[zd3]at h
  cases h
  simp[Op.eqFields]
 | f::fs,i,.v a::xs,.v b::ys,r,hx,hy,h=>by
  rw[zd3]at h
  split at h
  ·rename_i hn
   obtain⟨hn,ho⟩:=hn
   split at h
   ·rename_i r1 q1 e1 e2
    cases h
    obtain⟨k1,k2⟩:=zmL e1 d w
    have p1:=zjn (cs:=cx) (i:=i) k2 (hx 0 a rfl) w
    have p2:=zjn (cs:=cy) (i:=i) k2 (hy 0 b rfl) w
    have ih:=zhI (d:=d) (w:=w) fs (i+1) xs ys (fun j v hj=>by have:=hx (j+1) v (by simpa using hj);rw[←this];congr 1;omega) (fun j v hj=>by have:=hy (j+1) v (by simpa using hj);rw[←this];congr 1;omega) e2
    rw[Op.eqFields,if_pos hn,ho]
    simp only[Sem.run_bind,p1,p2,k1,Result.andThen_ok]
    cases r1
    ·simp
    ·simpa using ih
   ·cases h
  ·cases h
 | [],_,_::_,_,_,_,_,h=>by simp[zd3]at h
 | [],_,[],_::_,_,_,_,h=>by simp[zd3]at h
 | _::_,_,[],_,_,_,_,h=>by simp[zd3]at h
 | _::_,_,.v _::_,[],_,_,_,h=>by simp[zd3]at h
 | _::_,_,.st _::_,_,_,_,_,h=>by simp[zd3]at h
 | _::_,_,.sl _ _ _::_,_,_,_,_,h=>by simp[zd3]at h
 | _::_,_,.xl _ _::_,_,_,_,_,h=>by simp[zd3]at h
 | _::_,_,.op::_,_,_,_,_,h=>by simp[zd3]at h
 | _::_,_,.v _::_,.st _::_,_,_,_,h=>by simp[zd3]at h
 | _::_,_,.v _::_,.sl _ _ _::_,_,_,_,h=>by simp[zd3]at h
 | _::_,_,.v _::_,.xl _ _::_,_,_,_,h=>by simp[zd3]at h
 | _::_,_,.v _::_,.op::_,_,_,_,h=>by simp[zd3]at h
theorem zk7 {w:World} {E:Nat→Nat}:∀{fs:List T} {cs:List Value} {B:List Nat},RepS w E fs cs B→(∀x∈fs,∃v,x=.v v)→∀(j:Nat) (v:Value),fs[j]?=some (.v v)→cs[j]?=some v
 | [],cs,B,h,_,j,v,hj=>by simp at hj
 | x::xs,cs,B,h,ha,j,v,hj=>by
  rw[RepS]at h
  obtain⟨c1,c2,B1,B2,rfl,rfl,h1,h2⟩:=h
  obtain⟨u,rfl⟩:=ha x (List.mem_cons_self ..)
  rw[Rep]at h1
  obtain⟨rfl,_,_⟩:=h1
  cases j with
  | zero=>simp at hj⊢;exact hj
  | succ j=>simpa using zk7 h2 (fun y hy=>ha y (List.mem_cons_of_mem _ hy)) j v (by simpa using hj)
theorem zjo {P:Program}:∀(fs:List Field) (i:Nat) (xs ys:List T) {r:Bool},zd3 P i fs xs ys=some r→(∀x∈xs,∃v,x=.v v)∧∀y∈ys,∃v,y=.v v
 | fs,i,xs,ys,r,h=>by
  unfold zd3 at h
  split at h
  ·exact⟨fun x hx=>by simp at hx,fun x hx=>by simp at hx⟩
  ·split at h
   ·split at h
    ·rename_i e2
     obtain⟨k1,k2⟩:=zjo _ _ _ _ e2
     exact⟨fun x hx=>by rcases List.mem_cons.1 hx with rfl | hx;exact⟨_,rfl⟩;exact k1 x hx,fun x hx=>by rcases List.mem_cons.1 hx with rfl | hx;exact⟨_,rfl⟩;exact k2 x hx⟩
    ·cases h
   ·cases h
  ·cases h
theorem zlJ {P : Program} {t : TypeId} {fs gs : List T} {r : Bool} {w : World} {E : Nat → Nat} {u v : Value} {B B' : List Nat} (h : stEq P t fs gs = some r) (hu : RepT w E (.st fs) u B) (hv : RepT w E (.st gs) v B') (x y : Operand) :
  (do eqGuard .eql t x y u v;binOp .eql t u v:Sem Value).run P w=.ok (.bool r) w∧(do eqGuard .neq t x y u v;binOp .neq t u v:Sem Value).run P w=.ok (.bool (!r)) w:=by
 obtain⟨cx,rx,rfl⟩:=hu
 obtain⟨cy,ry,rfl⟩:=hv
 rw[Rep]at rx ry
 unfold stEq at h
 split at h
 ·rename_i flds hun
  split at h
  ·rename_i hs
   obtain⟨k1,k2⟩:=zjo _ _ _ _ h
   have hf:P.fieldsOf t=flds:=by unfold Program.fieldsOf;rw[hun]
   have key:=zhI (P:=P) (d:=9998) (w:=w) (cx:=cx.toArray) (cy:=cy.toArray) flds.toList 0 fs gs (fun j v hj=>by have:=zk7 rx k1 j v hj;simpa using this) (fun j v hj=>by have:=zk7 ry k2 j v hj;simpa using this) h
   have q:=run_equalIn_struct w 9999 t cx.toArray cy.toArray (by rw[hf];exact hun) hs.1
   rw[hf]at q
   have q2:(Op.equalIn 10000 t (.agg cx.toArray) (.agg cy.toArray)).run P w=.ok r w:=q.trans key
   constructor
   ·show(do eqGuard .eql t x y (.agg cx.toArray) (.agg cy.toArray);binOp .eql t (.agg cx.toArray) (.agg cy.toArray):Sem Value).run P w=_
    rw[Sem.run_bind,run_eqGuard_agg w .eql t x y _ _ hs.2,Result.andThen_ok,run_eql_struct,q2,Result.andThen_ok]
   ·show(do eqGuard .neq t x y (.agg cx.toArray) (.agg cy.toArray);binOp .neq t (.agg cx.toArray) (.agg cy.toArray):Sem Value).run P w=_
    rw[Sem.run_bind,run_eqGuard_agg w .neq t x y _ _ hs.2,Result.andThen_ok,run_neq_struct,q2,Result.andThen_ok]
  ·cases h
 ·cases h
theorem zmM (h:Sim e w E β τ a s) {op:BinOp} {t t':TypeId} {x y:Operand} (ho:o.op=.binOp op t x y t') (hf:fire en o s=some (u,s',r,q)):Done en o e w a s':=by
 unfold fire at hf
 rw[ho]at hf
 obtain⟨g,s0,_,_,_,_,h1,hf⟩:=M.bind_some hf
 obtain⟨rfl,hg⟩:=zkF h h1
 cases g with
 | some fs=>
  obtain⟨B,hB⟩:=hg fs rfl
  dsimp only at hf
  unfold binS at hf
  obtain⟨g',s1,_,_,_,_,h3,h4⟩:=M.bind_some hf
  obtain⟨rfl,hg'⟩:=zkF h h3
  cases g' with
  | none=>exact(M.zt h4).elim
  | some gs=>
   obtain⟨B',hB'⟩:=hg' gs rfl
   dsimp only at h4
   have fin:∀{b:Bool} {r' q':List FL},(do eqGuard op t x y (a.eval x) (a.eval y);binOp op t (a.eval x) (a.eval y):Sem Value).run en.P w=.ok (.bool b) w→wr o.dst (.t (.v (.bool b))) none s=some (u,s',r',q')→Done en o e w a s':=by
    intro b r' q' hm hw
    obtain⟨τ',k⟩:=Sim.wr h hw (v:=.bool b) (B:=[]) (by rw[RepV];exact zgg rfl w E) zd1 zdP
    refine⟨.value (.bool b),.bool b,w,E,β,τ', ?_,.inl rfl,k⟩
    unfold execOp
    rw[ho]
    dsimp only
    rw[Sem.run_bind,hm]
    rfl
   cases op with
   | eql=>
    obtain⟨r1,s3,_,_,_,_,h5,h6⟩:=M.bind_some h4
    obtain⟨g5,rfl⟩:=M.zar h5
    exact fin (zlJ g5 hB hB' x y).1 h6
   | neq=>
    obtain⟨r1,s3,_,_,_,_,h5,h6⟩:=M.bind_some h4
    obtain⟨g5,rfl⟩:=M.zar h5
    exact fin (zlJ g5 hB hB' x y).2 h6
   | _=>exact(M.zt h4).elim
 | none=>
 obtain⟨x1,s1,_,_,_,_,h1,h2⟩:=M.bind_some hf
 obtain⟨rfl,e1,_⟩:=zeH h h1
 obtain⟨y1,s2,_,_,_,_,h3,h4⟩:=M.bind_some h2
 obtain⟨rfl,e2,_⟩:=zeH h h3
 obtain⟨v,s3,_,_,_,_,h5,h6⟩:=M.bind_some h4
 obtain⟨g5,rfl⟩:=M.zar h5
 obtain⟨_,s4,_,_,_,_,h7,h8⟩:=M.bind_some h6
 obtain⟨g7,rfl⟩:=M.zam h7
 exact zjm h g5 (by unfold execOp;rw[ho];dsimp only;rw[e1,e2]) g7 h8
theorem znY (h:Sim e w E β τ a s) {op:UnOp} {t:TypeId} {x:Operand} (ho:o.op=.unOp op t x) (hf:fire en o s=some (u,s',r,q)):Done en o e w a s':=by
 unfold fire at hf
 rw[ho]at hf
 obtain⟨x1,s1,_,_,_,_,h1,h2⟩:=M.bind_some hf
 obtain⟨rfl,e1,_⟩:=zeH h h1
 obtain⟨v,s3,_,_,_,_,h5,h6⟩:=M.bind_some h2
 obtain⟨g5,rfl⟩:=M.zar h5
 obtain⟨_,s4,_,_,_,_,h7,h8⟩:=M.bind_some h6
 obtain⟨g7,rfl⟩:=M.zam h7
 exact zjm h g5 (by unfold execOp;rw[ho];dsimp only;rw[e1]) g7 h8
theorem zk8 (h:Sim e w E β τ a s) {t t':TypeId} {x:Operand} (ho:o.op=.convert t t' x) (hf:fire en o s=some (u,s',r,q)):Done en o e w a s':=by
 unfold fire at hf
 rw[ho]at hf
 obtain⟨x1,s1,_,_,_,_,h1,h2⟩:=M.bind_some hf
 obtain⟨rfl,e1,_⟩:=zeH h h1
 obtain⟨v,s3,_,_,_,_,h5,h6⟩:=M.bind_some h2
 obtain⟨g5,rfl⟩:=M.zar h5
 obtain⟨_,s4,_,_,_,_,h7,h8⟩:=M.bind_some h6
 obtain⟨g7,rfl⟩:=M.zam h7
 exact zjm h g5 (by unfold execOp;rw[ho];dsimp only;rw[e1]) g7 h8
theorem zk9 (h:Sim e w E β τ a s) {t:TypeId} {x ix:Operand} (ho:o.op=.index t x ix) (hn:arrOf en.P t=none) (hf:fire en o s=some (u,s',r,q)):Done en o e w a s':=by
 unfold fire at hf
 rw[ho]at hf
 dsimp only at hf
 rw[hn]at hf
 obtain⟨x1,s1,_,_,_,_,h1,h2⟩:=M.bind_some hf
 obtain⟨rfl,e1,_⟩:=zeH h h1
 obtain⟨y1,s2,_,_,_,_,h3,h4⟩:=M.bind_some h2
 obtain⟨rfl,e2,_⟩:=zeH h h3
 obtain⟨v,s3,_,_,_,_,h5,h6⟩:=M.bind_some h4
 obtain⟨g5,rfl⟩:=M.zar h5
 obtain⟨_,s4,_,_,_,_,h7,h8⟩:=M.bind_some h6
 obtain⟨g7,rfl⟩:=M.zam h7
 exact zjm h g5 (by unfold execOp;rw[ho];dsimp only;rw[e1,e2]) g7 h8
end
end Go.Proofs.YtgmidllbkjdnnaaGreatDoor.Flat
namespace Go.Proofs.YtgmidllbkjdnnaaGreatDoor.Flat
set_option linter.unusedVariables false
set_option linter.unusedSimpArgs false
set_option linter.unusedSectionVars false
variable [Glob]
theorem RepS.at {w:World} {E:Nat→Nat}:∀{fs:List T} {f:Nat} {y:T} {cs:List Value} {B:List Nat},RepS w E fs cs B→fs[f]?=some y→∃c1 c2 c3 B2,cs=c1++c2++c3∧c1.length=sizes (fs.take f)∧Rep w E y c2 B2∧∀k∈B2,k∈B
 | [],f,y,cs,B,h,hf=>by cases hf
 | g::fs,0,y,cs,B,h,hf=>by
  rw[RepS]at h
  obtain⟨c1,c2,B1,B2,e1,e2,h1,h2⟩:=h
  cases hf
  exact⟨[],c1,c2,B1,e1,rfl,h1,fun k hk=>by rw[e2];exact List.mem_append_left _ hk⟩
 | g::fs,f+1,y,cs,B,h,hf=>by
  rw[RepS]at h
  obtain⟨c1,c2,B1,B2,e1,e2,h1,h2⟩:=h
  obtain⟨d1,d2,d3,B3,k1,k2,k3,k4⟩:=RepS.at h2 (show fs[f]?=some y from hf)
  refine⟨c1++d1,d2,d3,B3,by rw[e1,k1];simp, ?_,k3,fun k hk=>by rw[e2];exact List.mem_append_right _ (k4 k hk)⟩
  rw[List.length_append,Rep.len h1,k2,List.take_succ_cons,sizes]
section
variable {P:Program} {w:World} {E:Nat→Nat}
theorem zfz {t:TypeId} {y:T} (h:fits P t y=true):∃i,P.info? t=some i∧i.size=y.size:=by
 unfold fits sizeT at h
 rw[Bool.and_eq_true]at h
 obtain⟨h1,_⟩:=h
 cases hi:P.info? t with
 | none=>rw[hi]at h1;cases h1
 | some i=>
  rw[hi]at h1
  refine⟨i,rfl, ?_⟩
  have:(some i.size==some y.size)=true:=h1
  simpa using this
theorem zlK {t:TypeId} {y:T} (h:fits P t y=true) (w:World):∃b,(isAgg t).run P w=.ok b w∧(b=true↔∃fs,y=.st fs):=by
 unfold fits at h
 rw[Bool.and_eq_true]at h
 obtain⟨_,h2⟩:=h
 cases hu:P.underlying t with
 | none=>rw[hu]at h2;cases y<;>cases h2
 | some d=>
  rw[hu]at h2
  refine⟨match d with | .struct _ | .array _ _=>true | _=>false, ?_, ?_⟩
  ·unfold isAgg
   rw[Sem.run_bind,run_underlying hu w]
   cases d<;>rfl
  ·cases y with
   | st fs=>cases d<;>first | exact⟨fun _=>⟨fs,rfl⟩,fun _=>rfl⟩ | cases h2
   | v x=>cases d<;>first | (cases h2;done) | exact⟨(fun h=>by cases h),(fun h=>by obtain⟨_,h⟩:=h;cases h)⟩
   | xl _ _=>cases d<;>first | (cases h2;done) | exact⟨(fun h=>by cases h),(fun h=>by obtain⟨_,h⟩:=h;cases h)⟩
   | op=>cases d<;>first | (cases h2;done) | exact⟨(fun h=>by cases h),(fun h=>by obtain⟨_,h⟩:=h;cases h)⟩
   | sl o sz xs=>cases d<;>first | (cases h2;done) | exact⟨(fun h=>by cases h),(fun h=>by obtain⟨_,h⟩:=h;cases h)⟩
theorem one_cell {y:T} {cs:List Value} {B:List Nat} (h:Rep w E y cs B) (hy:∀fs,y≠ .st fs):∃u,cs=[u]∧valOf y cs=u:=by
 cases y with
 | st fs=>exact absurd rfl (hy fs)
 | xl _ _=>rw[Rep]at h;obtain⟨A,c,e,_⟩:=h;exact⟨_,e,by rw[e];rfl⟩
 | op=>rw[Rep]at h;obtain⟨⟨A,n,c,e⟩,_⟩:=h;exact⟨_,e,by rw[e];rfl⟩
 | v x=>rw[Rep]at h;exact⟨x,h.1,by rw[h.1];rfl⟩
 | sl o sz xs=>rw[Rep]at h;obtain⟨A,c,e,_⟩:=h;exact⟨_,e,by rw[e];rfl⟩
theorem zfs {t:TypeId} {y:T} {cs:List Value} {B:List Nat} {ad:Addr} (hf:fits P t y=true) (hr:Rep w E y cs B) (hc:∀j u,cs[j]?=some u→w.cell? (ad.add j)=some u):(loadVar t ad).run P w=.ok (valOf y cs) w:=by
 obtain⟨i,hi,hs⟩:=zfz hf
 obtain⟨b,hb,hbs⟩:=zlK hf w
 have hsz:(sizeOf t).run P w=.ok i.size w:=by unfold sizeOf typeInfo;simp[hi]
 unfold loadVar
 rw[Sem.run_bind,hb]
 cases b with
 | true=>
  obtain⟨fs,rfl⟩:=hbs.1 rfl
  have hl:=run_loadCells_list (P:=P) w ad cs hc
  have:i.size=cs.length:=by rw[hs,Rep.len hr]
  simp[hsz,this,hl,valOf]
 | false=>
  obtain⟨u,e1,e2⟩:=one_cell hr (fun fs hfs=>by have:=hbs.2 ⟨fs,hfs⟩;cases this)
  rw[e2]
  have h0:=hc 0 u (by rw[e1];rfl)
  have:ad.add 0=ad:=by unfold Addr.add;rw[if_pos rfl]
  rw[this]at h0
  simp[h0]
theorem zlL {t:TypeId} {y:T} {c1 c2 c3:List Value} {B:List Nat} (hf:fits P t y=true) (hr:Rep w E y c2 B):(part t (c1++c2++c3).toArray c1.length).run P w=.ok (valOf y c2) w:=by
 obtain⟨i,hi,hs⟩:=zfz hf
 obtain⟨b,hb,hbs⟩:=zlK hf w
 have hsz:(sizeOf t).run P w=.ok i.size w:=by unfold sizeOf typeInfo;simp[hi]
 unfold part
 rw[Sem.run_bind,hb]
 cases b with
 | true=>
  obtain⟨fs,rfl⟩:=hbs.1 rfl
  have hl:i.size=c2.length:=by rw[hs,Rep.len hr]
  have:(c1++c2++c3).toArray.extract c1.length (c1.length+c2.length)=c2.toArray:=by
   apply Array.ext'
   simp[Array.toList_extract,List.extract]
  simp only[Result.andThen_ok,if_true,Sem.run_bind,hsz,hl,this]
  rfl
 | false=>
  obtain⟨u,e1,e2⟩:=one_cell hr (fun fs hfs=>by have:=hbs.2 ⟨fs,hfs⟩;cases this)
  rw[e2,e1]
  have:(c1++[u]++c3).toArray[c1.length]?=some u:=by simp
  simp[this]
end
section
variable {en:Env} {e:Ent} {w:World} {E:Nat→Nat} {β:Bm} {τ:Loc→List Nat} {a:Act} {s s':St} {o:Oper} {r q:List FL} {u:Unit}
theorem zhJ {t ft:TypeId} {f off:Nat} (h:zfM en t f=some (ft,off)):∃(fs:Array Field) (d:Field) (i:TypeInfo),en.P.underlying t=some (.struct fs)∧fs[f]?=some d∧d.type=ft∧d.offset=off∧en.P.info? ft=some i∧0 < i.size:=by
 unfold zfM at h
 split at h
 ·rename_i fs hu
  split at h
  ·rename_i d hd
   split at h
   ·rename_i n hn
    by_cases h0:0 < n
    ·rw[if_pos h0]at h
     cases h
     unfold sizeT at hn
     cases hi:en.P.info? d.type with
     | none=>rw[hi]at hn;cases hn
     | some i=>
      rw[hi]at hn
      cases hn
      exact⟨fs,d,i,hu,hd,rfl,rfl,by first | exact hi | rfl,h0⟩
    ·rw[if_neg h0]at h;cases h
   ·cases h
  ·cases h
 ·cases h
theorem zkG {t ft : TypeId} {f off : Nat} {fs : List T} {y : T} {cs : List Value} {B : List Nat} (g1 : zfM en t f = some (ft, off)) (hr : RepS w E fs cs B) (hy : fs[f]? = some y) (h6 : (sizes (fs.take f) == off) = true) (h7 : fits en.P ft y = true) :
  ∃c1 c2 c3 B2,cs=c1++c2++c3∧c1.length=sizes (fs.take f)∧Rep w E y c2 B2∧(∀k∈B2,k∈B)∧(Instr.field t (.agg cs.toArray) f).run en.P w=.ok (valOf y c2) w:=by
 obtain⟨fd,d,i,k1,k2,k3,k4,_⟩:=zhJ g1
 obtain⟨c1,c2,c3,B2,n1,n2,n3,n4⟩:=RepS.at hr hy
 refine⟨c1,c2,c3,B2,n1,n2,n3,n4, ?_⟩
 have hrun:=zlL (P:=en.P) (w:=w) (c1:=c1) (c3:=c3) h7 n3
 have hoff:d.offset=c1.length:=by rw[n2,k4];exact(by simpa using h6:sizes (fs.take f)=off).symm
 unfold Instr.field
 simp only[Sem.run_bind,run_underlying k1 w,Result.andThen_ok,k2,asAgg,Sem.run_pure,k3,hoff,n1,hrun]
theorem zmN (h:Sim e w E β τ a s) {t:TypeId} {x:Operand} {f:Nat} (ho:o.op=.field t x f) (hf:fire en o s=some (u,s',r,q)):Done en o e w a s':=by
 unfold fire at hf
 rw[ho]at hf
 obtain⟨⟨ft,off⟩,s1,_,_,_,_,h1,h2⟩:=M.bind_some hf
 obtain⟨g1,rfl⟩:=M.zar h1
 obtain⟨g,s0,_,_,_,_,h0,h2'⟩:=M.bind_some h2
 obtain⟨rfl,hl⟩:=zg7 h h0
 have fin:∀{v:Value} {τ'},(Instr.field t (a.eval x) f).run en.P w=.ok v w→Sim e w E β τ' (a.put o.dst v) s'→Done en o e w a s':=by
  intro v τ' hr hs
  refine⟨_,_,w,E,β,τ', ?_,.inl rfl,hs⟩
  unfold execOp
  rw[ho]
  dsimp only
  rw[Sem.run_bind,hr]
  rfl
 cases g with
 | some g=>
  obtain⟨l,p,n⟩:=g
  have hl:=hl l p n rfl
  dsimp only at h2'
  obtain⟨z,s2,_,_,_,_,h3,h4⟩:=M.bind_some h2'
  obtain⟨rfl,x0,ad,c2,B1,B2,B3,hp⟩:=zf0 h h3
  have hv:=hl.val hp
  cases z with
  | st ys=>
   dsimp only at h4
   cases hy:ys[f]? with
   | none=>simp only[hy]at h4;exact(M.zt h4).elim
   | some z=>
    simp only[hy]at h4
    obtain⟨_,s3,_,_,_,_,h5,h6⟩:=M.bind_some h4
    obtain⟨g5,rfl⟩:=M.zam h5
    rw[Bool.and_eq_true]at g5
    obtain⟨g6,g7⟩:=g5
    have hr:=hp.rep
    rw[Rep]at hr
    obtain⟨e1,e2,e3,C2,n1,n2,n3,n4,n5⟩:=zkG g1 hr hy g6 g7
    have hrun:(Instr.field t (a.eval x) f).run en.P w=.ok (valOf z e2) w:=by rw[hv];exact n5
    by_cases hx:z.hasX=true
    ·rw[if_pos hx]at h6
     obtain⟨C1,C2',C3,hp'⟩:=h.sub (i:=f) hp (y:=z) (ad2:=ad.map fun a=>⟨a.block,a.off+sizes (ys.take f),none⟩) (d2:=e2) (by
      rw[look,hy]
      dsimp only
      rw[look,n1,←Rep.len n3,zhB n2 rfl])
     obtain⟨τ',k⟩:=Sim.wrX h h6 (hp'.og (k:=false) (v:=valOf z e2) (by simp))
     exact fin hrun k
    ·rw[if_neg hx]at h6
     obtain⟨τ',k⟩:=Sim.wr h h6 (v:=valOf z e2) (by rw[RepV];exact(show RepT w E z (valOf z e2) C2 from⟨e2,n3,rfl⟩).sh) zd1 zdP
     exact fin hrun k
  | _=>exact(M.zt h4).elim
 | none=>
 dsimp only at h2'
 obtain⟨y,s2,_,_,_,_,h3,h4⟩:=M.bind_some h2'
 obtain⟨rfl,hv⟩:=zd8 h h3
 cases y with
 | t y=>
  cases y with
  | st ys=>
   dsimp only at h4
   cases hy:ys[f]? with
   | none=>simp only[hy]at h4;exact(M.zt h4).elim
   | some z=>
    simp only[hy]at h4
    obtain⟨_,s3,_,_,_,_,h5,h6⟩:=M.bind_some h4
    obtain⟨g5,rfl⟩:=M.zam h5
    rw[Bool.and_eq_true]at g5
    obtain⟨g6,g7⟩:=g5
    rw[RepV]at hv
    obtain⟨cs,m1,m2⟩:=hv
    rw[Rep]at m1
    obtain⟨c1,c2,c3,B2,n1,n2,n3,n4,n5⟩:=zkG g1 m1 hy g6 g7
    have hB2:B2=[]:=List.eq_nil_iff_forall_not_mem.2 (fun k hk=>by cases n4 k hk)
    subst hB2
    obtain⟨τ',k⟩:=Sim.wr h h6 (v:=valOf z c2) (by rw[RepV];exact⟨c2,n3,rfl⟩) zd1 zdP
    exact fin (by rw[m2];exact n5) k
  | _=>exact(M.zt h4).elim
 | _=>exact(M.zt h4).elim
theorem zhp {sz:Nat}:∀{fs:List T} {k:Nat},(∀z∈fs,z.size=sz)→k≤fs.length→sizes (fs.take k)=k * sz
 | _,0,_,_=>by rw[List.take_zero,sizes,Nat.zero_mul]
 | [],k+1,_,h=>absurd h (by simp)
 | f::fs,k+1,h,hl=>by
  rw[List.take_succ_cons,sizes,h f (by simp),zhp (fun z hz=>h z (by simp[hz])) (by simpa using hl),Nat.succ_mul]
  omega
theorem zmO (h:Sim e w E β τ a s) {t:TypeId} {x ix:Operand} (ho:o.op=.index t x ix) (hf:fire en o s=some (u,s',r,q)):Done en o e w a s':=by
 cases hn:arrOf en.P t with
 | none=>exact zk9 h ho hn hf
 | some p=>
  obtain⟨len,el⟩:=p
  unfold fire at hf
  rw[ho]at hf
  dsimp only at hf
  rw[hn]at hf
  have k1:en.P.underlying t=some (.array len el):=by
   unfold arrOf at hn
   split at hn
   ·rename_i l' e' hu
    cases hn
    exact hu
   ·cases hn
  obtain⟨i,s1,_,_,_,_,h1,h2⟩:=M.bind_some hf
  obtain⟨rfl,ki,e1⟩:=zeV h h1
  obtain⟨y,s2,_,_,_,_,h3,h4⟩:=M.bind_some h2
  obtain⟨rfl,hv⟩:=zd8 h h3
  cases y with
  | t y=>
   cases y with
   | st ys=>
    dsimp only at h4
    obtain⟨_,s3,_,_,_,_,h5,h6⟩:=M.bind_some h4
    obtain⟨g5,rfl⟩:=M.zam h5
    rw[Bool.and_eq_true,decide_eq_true_eq]at g5
    obtain⟨g6,g7⟩:=g5
    obtain⟨z,s4,_,_,_,_,h7,h8⟩:=M.bind_some h6
    obtain⟨hy,rfl⟩:=M.zar h7
    have hall:∀z∈ys,fits en.P el z=true:=by
     unfold zgd at g6
     exact List.all_eq_true.1 g6
    have hz:=hall z (List.mem_of_getElem? hy)
    obtain⟨inf,hi,hs⟩:=zfz hz
    have hsz:∀z'∈ys,z'.size=inf.size:=fun z' hz'=>by
     obtain⟨inf',hi',hs'⟩:=zfz (hall z' hz')
     rw[hi]at hi'
     cases hi'
     exact hs'.symm
    rw[RepV]at hv
    obtain⟨cs,m1,m2⟩:=hv
    rw[Rep]at m1
    obtain⟨c1,c2,c3,B2,n1,n2,n3,n4⟩:=RepS.at m1 hy
    have hB2:B2=[]:=List.eq_nil_iff_forall_not_mem.2 (fun k hk=>by cases n4 k hk)
    subst hB2
    have hrun:=zlL (P:=en.P) (w:=w) (c1:=c1) (c3:=c3) hz n3
    obtain⟨τ',k⟩:=Sim.wr h h8 (v:=valOf z c2) (by rw[RepV];exact⟨c2,n3,rfl⟩) zd1 zdP
    refine⟨_,_,w,E,β,τ', ?_,.inl rfl,k⟩
    have hlt:i.toNat < ys.length:=by
     rcases Nat.lt_or_ge i.toNat ys.length with hl | hl
     ·exact hl
     ·rw[List.getElem?_eq_none hl]at hy
      cases hy
    have hoff:i.toNat * inf.size=c1.length:=by rw[n2,zhp hsz (Nat.le_of_lt hlt)]
    have hsize:(sizeOf el).run en.P w=.ok inf.size w:=by unfold sizeOf typeInfo;simp[hi]
    have hint:(asIntOf (.int ki i)).run en.P w=.ok (ki,i) w:=rfl
    unfold execOp
    rw[ho]
    dsimp only
    rw[m2,e1]
    unfold Instr.index
    simp only[Sem.run_bind,hint,run_underlying k1 w,Result.andThen_ok,valOf]
    rw[if_pos g7]
    simp only[Sem.run_bind,hsize,Result.andThen_ok,hoff,n1,hrun]
    rfl
   | _=>exact(M.zt h4).elim
  | _=>exact(M.zt h4).elim
end
end Go.Proofs.YtgmidllbkjdnnaaGreatDoor.Flat
namespace Go.Proofs.YtgmidllbkjdnnaaGreatDoor.Flat
set_option linter.unusedVariables false
set_option linter.unusedSimpArgs false
set_option linter.unusedSectionVars false
variable [Glob]
omit [Glob] in
theorem add_add (a:Addr) (m n:Nat):(a.add m).add n=a.add (m+n):=by
 unfold Addr.add
 by_cases h1:m=0<;>by_cases h2:n=0<;>simp[h1,h2,Nat.add_assoc]
omit [Glob] in
theorem add_plain' (k o n:Nat):(⟨k,o,none⟩:Addr).add n=⟨k,o+n,none⟩:=by
 unfold Addr.add
 split
 ·rename_i h;rw[h];rfl
 ·rfl
theorem add_none' {b o j:Nat}:(⟨b,o,none⟩:Addr).add j=⟨b,o+j,none⟩:=add_plain' b o j
theorem RepA.at {w:World} {E:Nat→Nat} {sz:Nat} {ad:Addr}:∀{xs:List T} {o i:Nat} {y:T},RepA w E sz ad o xs→xs[i]?=some y→ad.off+(o+i * sz)+sz≤E ad.block∧∃cs,cs.length=sz∧(∀j u,cs[j]?=some u→w.cell? (ad.add (o+i * sz+j))=some u)∧Rep w E y cs []
 | [],o,i,y,h,hy=>by cases hy
 | x::xs,o,0,y,h,hy=>by
  rw[RepA]at h
  cases hy
  obtain⟨⟨h1,cs,h2,h3,h4⟩,_⟩:=h
  exact⟨by omega,cs,h2,fun j u hj=>by rw[Nat.zero_mul,Nat.add_zero];exact h3 j u hj,h4⟩
 | x::xs,o,i+1,y,h,hy=>by
  rw[RepA]at h
  obtain⟨k1,cs,k2,k3,k4⟩:=RepA.at h.2 (show xs[i]?=some y from hy)
  have e:o+sz+i * sz=o+(i+1) * sz:=by rw[Nat.add_mul];omega
  rw[e]at k1 k3
  exact⟨k1,cs,k2,k3,k4⟩
section
variable {en:Env} {e:Ent} {w:World} {E:Nat→Nat} {β:Bm} {τ:Loc→List Nat} {a:Act} {s s':St} {o:Oper} {r q:List FL} {u:Unit}
theorem zlM {t ft:TypeId} {f off:Nat} (h:zfM en t f=some (ft,off)) (ad:Addr) (w:World):(Instr.fieldAt t (.pointer (some ad)) f).run en.P w=.ok (.pointer (some (ad.add off))) w:=by
 obtain⟨fs,d,i,k1,k2,k3,k4,k5,k6⟩:=zhJ h
 have hsz:(sizeOf d.type).run en.P w=.ok i.size w:=by unfold sizeOf typeInfo;rw[k3];simp[k5]
 have hne:¬i.size=0:=by omega
 unfold Instr.fieldAt
 simp only[Sem.run_bind,run_underlying k1 w,Result.andThen_ok,k2,Instr.sureAddr,Sem.run_pure,fieldPlace,hsz,hne,if_false,k4]
theorem zjq (h:Sim e w E β τ a s) {t:TypeId} {x:Operand} {f:Nat} (ho:o.op=.fieldAddr t x f) (hf:fire en o s=some (u,s',r,q)):Done en o e w a s':=by
 unfold fire at hf
 rw[ho]at hf
 obtain⟨⟨ft,off⟩,s1,_,_,_,_,h1,h2⟩:=M.bind_some hf
 obtain⟨g1,rfl⟩:=M.zar h1
 cases x with
 | tmp i=>
  obtain⟨c,s2,_,_,_,_,h3,h4⟩:=M.bind_some h2
  obtain⟨g3,rfl⟩:=M.za4 h3
  unfold zif at h4
  have hv:=h.tm i c g3
  have run:∀{ad:Addr} {τ'},a.tmps.getD i undef=.pointer (some ad)→Sim e w E β τ' (a.put o.dst (.pointer (some (ad.add off)))) s'→Done en o e w a s':=by
   intro ad τ' hp k
   refine⟨_,_,w,E,β,τ', ?_,.inl rfl,k⟩
   unfold execOp
   rw[ho]
   dsimp only
   rw[Sem.run_bind,show a.eval (.tmp i)=a.tmps.getD i undef from rfl,hp,zlM g1 ad w]
   rfl
  have fin:∀{y:AV} {ad:Addr},a.tmps.getD i undef=.pointer (some ad)→RepV w E e.F β y (.pointer (some (ad.add off))) []→∀{r' q':List FL},wr o.dst y none s=some (u,s',r',q')→Done en o e w a s':=by
   intro y ad hp hy r' q' hw
   obtain⟨τ',k⟩:=Sim.wr h hw hy zd1 zdP
   exact run hp k
  cases hcv:c.val with
  | xr kk l p n=>
   cases kk with
   | false=>simp only[hcv]at h4;exact(M.zt h4).elim
   | true=>
    simp only[hcv]at h4
    obtain⟨z,s3,_,_,_,_,h5,h6⟩:=M.bind_some h4
    obtain⟨rfl,x0,ad,c2,B1,B2,B3,hp⟩:=zf0 h h5
    obtain⟨k0,o0,e1,e2⟩:=hp.adrX (h.og i c true l p n g3 (.inl hcv))
    cases z with
    | st fs=>
     dsimp only at h6
     obtain⟨_,s4,_,_,_,_,h7,h8⟩:=M.bind_some h6
     obtain⟨g7,rfl⟩:=M.zam h7
     rw[Bool.and_eq_true]at g7
     obtain⟨g7,g8⟩:=g7
     have g7:sizes (fs.take f)=off:=by simpa using g7
     have g8:f < fs.length:=of_decide_eq_true g8
     obtain⟨C1,C2,C3,hp'⟩:=h.sub (i:=f) hp (y:=fs[f]) (ad2:=some ⟨k0,o0+off,none⟩) (d2:=(c2.drop off).take fs[f].size) (by
      rw[look,List.getElem?_eq_getElem g8]
      dsimp only
      rw[look,e1,g7]
      rfl)
     obtain⟨τ',k⟩:=Sim.wrX h h8 (hp'.og (k:=true) (v:=.pointer (some ((⟨k0,o0,none⟩:Addr).add off))) (by simp[add_none']))
     exact run e2 k
    | _=>exact(M.zt h6).elim
  | ptr b g p off0=>
   simp only[hcv]at h4
   rw[hcv,RepV]at hv
   refine fin hv.1 ?_ h4
   rw[RepV,add_plain']
   exact⟨rfl,rfl,hv.2.2⟩
  | ref z=>
   rw[hcv,RepV]at hv
   obtain⟨_,ad,hp,cs,m1,m2,m3⟩:=hv
   cases z with
   | st fs=>
    simp only[hcv]at h4
    cases hy:fs[f]? with
    | none=>simp only[hy]at h4;exact(M.zt h4).elim
    | some y=>
     simp only[hy]at h4
     obtain⟨_,s3,_,_,_,_,h5,h6⟩:=M.bind_some h4
     obtain⟨g5,rfl⟩:=M.zam h5
     have g5':sizes (fs.take f)=off:=by simpa using g5
     rw[Rep]at m1
     obtain⟨c1,c2,c3,B2,n1,n2,n3,n4⟩:=RepS.at m1 hy
     have hB2:B2=[]:=List.eq_nil_iff_forall_not_mem.2 (fun k hk=>by cases n4 k hk)
     subst hB2
     have hlen:cs.length=c1.length+c2.length+c3.length:=by rw[n1];simp[Nat.add_assoc]
     refine fin hp ?_ h6
     rw[RepV]
     refine⟨rfl,_,rfl,c2,n3, ?_,fun j v hj=> ?_⟩
     ·rcases m2 with m2 | m2
      ·left;rw[add_block,zgb];omega
      ·right;rw[add_block];exact m2
     ·rw[add_add]
      refine m3 (off+j) v ?_
      have hj2:=(List.getElem?_eq_some_iff.1 hj).1
      rw[n1,List.append_assoc,List.getElem?_append_right (by omega),List.getElem?_append_left (by omega),show off+j-c1.length=j by omega]
      exact hj
   | v _=>simp only[hcv]at h4;exact(M.zt h4).elim
   | xl _ _=>simp only[hcv]at h4;exact(M.zt h4).elim
   | op=>simp only[hcv]at h4;exact(M.zt h4).elim
   | sl _ _ _=>simp only[hcv]at h4;exact(M.zt h4).elim
  | _=>simp only[hcv]at h4;exact(M.zt h4).elim
 | const v=>exact(M.zt (s:=s) h2).elim
 | global g=>exact(M.zt (s:=s) h2).elim
 | func g=>exact(M.zt (s:=s) h2).elim
theorem zeh {t el:TypeId} {n:Nat} (h:elemOf en t=some (el,n)):∃i,en.P.underlying t=some (.slice el)∧en.P.info? el=some i∧i.size=n:=by
 unfold elemOf at h
 split at h
 ·rename_i el' hu
  unfold sizeT at h
  cases hi:en.P.info? el' with
  | none=>rw[hi]at h;cases h
  | some i=>
   rw[hi]at h
   cases h
   exact⟨i,hu,hi,rfl⟩
 ·cases h
theorem zij (h:Sim e w E β τ a s) {t:TypeId} {x ix:Operand} (ho:o.op=.indexAddr t x ix) (hn:arrOf en.P t=none) (hf:fire en o s=some (u,s',r,q)):Done en o e w a s':=by
 unfold fire at hf
 rw[ho]at hf
 dsimp only at hf
 rw[hn]at hf
 obtain⟨i,s1,_,_,_,_,h1,h2⟩:=M.bind_some hf
 obtain⟨rfl,k,e1⟩:=zeV h h1
 obtain⟨⟨el,n⟩,s2,_,_,_,_,h3,h4⟩:=M.bind_some h2
 obtain⟨g3,rfl⟩:=M.zar h3
 obtain⟨ti,k1,k2,k3⟩:=zeh g3
 have run:∀{ad:Addr} {m c:Nat} {τ'},a.eval x=.slice (some ad) m c→0≤i→i < (m:Int)→Sim e w E β τ' (a.put o.dst (.pointer (some (ad.add (i.toNat * n))))) s'→Done en o e w a s':=by
  intro ad m c τ' hx h0 hil kk
  refine⟨_,_,w,E,β,τ', ?_,.inl rfl,kk⟩
  have hs:(sizeOf el).run en.P w=.ok n w:=by unfold sizeOf typeInfo;simp[k2,k3]
  unfold execOp
  rw[ho]
  dsimp only
  rw[Sem.run_bind,hx,e1]
  have hrun:(Instr.indexAt t (.slice (some ad) m c) (.int k i)).run en.P w=.ok (.pointer (some (ad.add (i.toNat * n)))) w:=by
   unfold Instr.indexAt
   simp[asIntOf,run_underlying k1,h0,hil,hs]
  rw[hrun]
  rfl
 have row:∀{ow:Bool} {sz:Nat} {xs:List T} {v:Value} {B:List Nat} {r' q':List FL},RepT w E (.sl ow sz xs) v B→a.eval x=v→(do
    M.when (sz==n&&decide (0≤i))
    let y←M.lift xs[i.toNat]?
    wr o.dst (.ref y) none:M Unit) s=some (u,s',r',q')→Done en o e w a s':=by
   intro ow sz xs v B r' q' hv hev h6
   obtain⟨_,s4,_,_,_,_,h7,h8⟩:=M.bind_some h6
   obtain⟨g7,rfl⟩:=M.zam h7
   rw[Bool.and_eq_true]at g7
   obtain⟨g7,g8⟩:=g7
   have hsz:sz=n:=by simpa using g7
   have h0:0≤i:=of_decide_eq_true g8
   obtain⟨y,s5,_,_,_,_,h9,h10⟩:=M.bind_some h8
   obtain⟨g9,rfl⟩:=M.zar h9
   obtain⟨cs,m1,m2⟩:=hv
   rw[Rep]at m1
   obtain⟨A,c,rfl,m3,m4,m5⟩:=m1
   have hlt:i.toNat < xs.length:=(List.getElem?_eq_some_iff.1 g9).1
   cases A with
   | none=>rw[m5.1]at g9;cases g9
   | some ad=>
    obtain⟨n1,ds,n2,n3,n4⟩:=RepA.at m5.1 g9
    have hx:a.eval x=.slice (some ad) xs.length c:=hev.trans m2
    obtain⟨τ',kk⟩:=Sim.wr h h10 (v:=.pointer (some (ad.add (i.toNat * n)))) (by
     rw[RepV]
     subst hsz
     refine⟨rfl,_,rfl,ds,n4, ?_,fun j v hj=> ?_⟩
     ·left;rw[add_block,zgb,n2];omega
     ·rw[add_add];have:=n3 j v hj;rw[Nat.zero_add]at this;exact this) zd1 zdP
    exact run hx h0 (by omega) kk
 obtain⟨g,s3,_,_,_,_,h5,h6⟩:=M.bind_some h4
 obtain⟨rfl,hl⟩:=zg7 h h5
 cases g with
 | none=>
  dsimp only at h6
  obtain⟨y,s4,_,_,_,_,h7,h8⟩:=M.bind_some h6
  obtain⟨rfl,hv⟩:=zd8 h h7
  cases y with
  | t z=>
   cases z with
   | sl ow sz xs=>rw[RepV]at hv;exact row hv rfl h8
   | _=>exact(M.zt h8).elim
  | _=>exact(M.zt h8).elim
 | some g=>
  obtain⟨l,p,m⟩:=g
  have hl:=hl l p m rfl
  dsimp only at h6
  obtain⟨z,s4,_,_,_,_,h7,h8⟩:=M.bind_some h6
  obtain⟨rfl,x0,ad,c2,B1,B2,B3,hp⟩:=zf0 h h7
  have hv:=hl.val hp
  cases z with
  | sl ow sz xs=>exact row ⟨c2,hp.rep,rfl⟩ hv h8
  | xl sz xs=>
   dsimp only at h8
   obtain⟨_,s5,_,_,_,_,h9,h10⟩:=M.bind_some h8
   obtain⟨g9,rfl⟩:=M.zam h9
   rw[Bool.and_eq_true]at g9
   obtain⟨g9,g10⟩:=g9
   have hsz:sz=n:=by simpa using g9
   have h0:0≤i:=of_decide_eq_true g10
   obtain⟨y,s6,_,_,_,_,h11,h12⟩:=M.bind_some h10
   obtain⟨g11,rfl⟩:=M.zar h11
   obtain⟨a0,c,cells,ty,l1,es,l3,C1,C2,C3,q1,q2,q3,q4,q5,q6,q7,q8,q9,f1,f2,f3,f4,f5⟩:=Rep.elem hp.rep g11
   have hx:a.eval x=.slice (some a0) xs.length c:=by rw[hv,q1];rfl
   obtain⟨D1,D2,D3,hp'⟩:=h.sub (i:=i.toNat) hp (y:=y) (ad2:=some ⟨a0.block,a0.off+i.toNat * sz,none⟩) (d2:=es) (by rw[q1,zfy g11 q7 f1 f2 f3,look])
   have hadd:a0.add (i.toNat * n)=⟨a0.block,a0.off+i.toNat * sz,none⟩:=by
    obtain⟨b0,o0,sp⟩:=a0
    dsimp only at q4
    subst q4
    rw[add_none',hsz]
   obtain⟨τ',k⟩:=Sim.wrX h h12 (hp'.og (k:=true) (v:=.pointer (some (a0.add (i.toNat * n)))) (by simp[hadd]))
   have hlt:=(List.getElem?_eq_some_iff.1 g11).1
   exact run hx h0 (by omega) k
  | _=>exact(M.zt h8).elim
theorem zla {P:Program} {el:TypeId} {fs:List T} {n:Nat} (h:zgd P el fs=true) (hs:sizeT P el=some n):∀z∈fs,z.size=n:=by
 intro z hz
 unfold zgd at h
 have h1:=List.all_eq_true.1 h z hz
 unfold fits at h1
 rw[Bool.and_eq_true]at h1
 have h2:=h1.1
 rw[hs]at h2
 have h3:some n=some z.size:=by simpa using h2
 exact(Option.some.inj h3).symm
theorem zfU.elem {F:Nat→Prop} {fs:List T} {ad:Addr} {n i:Nat} {y:T} (hm:zfU w E F (.st fs) ad) (hall:∀z∈fs,z.size=n) (hy:fs[i]?=some y):zfU w E F y (ad.add (i * n)):=by
 obtain⟨cs,m1,m2,m3⟩:=hm
 rw[Rep]at m1
 obtain⟨c1,c2,c3,B2,n1,n2,n3,n4⟩:=RepS.at m1 hy
 have hB2:B2=[]:=List.eq_nil_iff_forall_not_mem.2 (fun k hk=>by cases n4 k hk)
 subst hB2
 have hlen:cs.length=c1.length+c2.length+c3.length:=by rw[n1];simp[Nat.add_assoc]
 have g5':sizes (fs.take i)=i * n:=zhp hall (Nat.le_of_lt (List.getElem?_eq_some_iff.1 hy).1)
 refine⟨c2,n3, ?_,fun j v hj=> ?_⟩
 ·rcases m2 with m2 | m2
  ·left;rw[add_block,zgb];omega
  ·right;rw[add_block];exact m2
 ·rw[add_add]
  refine m3 (i * n+j) v ?_
  have hj2:=(List.getElem?_eq_some_iff.1 hj).1
  rw[n1,List.append_assoc,List.getElem?_append_right (by omega),List.getElem?_append_left (by omega),show i * n+j-c1.length=j by omega]
  exact hj
theorem zjr (h:Sim e w E β τ a s) {t:TypeId} {x ix:Operand} (ho:o.op=.indexAddr t x ix) (hf:fire en o s=some (u,s',r,q)):Done en o e w a s':=by
 cases hn:arrOf en.P t with
 | none=>exact zij h ho hn hf
 | some p=>
  obtain⟨len,el⟩:=p
  unfold fire at hf
  rw[ho]at hf
  dsimp only at hf
  rw[hn]at hf
  have k1:en.P.underlying t=some (.array len el):=by
   unfold arrOf at hn
   split at hn
   ·rename_i l' e' hu
    cases hn
    exact hu
   ·cases hn
  obtain⟨i,s1,_,_,_,_,h1,h2⟩:=M.bind_some hf
  obtain⟨rfl,ki,e1⟩:=zeV h h1
  obtain⟨n,s2,_,_,_,_,h3,h4⟩:=M.bind_some h2
  obtain⟨g3,rfl⟩:=M.zar h3
  have key:∀{fs:List T} {ad:Addr} {r' q':List FL},a.eval x=.pointer (some ad)→zfU w E e.F (.st fs) ad→zjj en el len o.dst fs i s=some (u,s',r',q')→Done en o e w a s':=by
   intro fs ad r' q' hp hpl hw
   obtain⟨_,s4,_,_,_,_,h7,h8⟩:=M.bind_some hw
   obtain⟨g7,rfl⟩:=M.zam h7
   rw[Bool.and_eq_true]at g7
   obtain⟨g7,g8⟩:=g7
   have g8:=of_decide_eq_true g8
   obtain⟨y,s5,_,_,_,_,h9,h10⟩:=M.bind_some h8
   obtain⟨g9,rfl⟩:=M.zar h9
   obtain⟨τ',k⟩:=Sim.wr h h10 (v:=.pointer (some (ad.add (i.toNat * n)))) (by
    rw[RepV]
    exact⟨rfl,_,rfl,hpl.elem (zla g7 g3) g9⟩) zd1 zdP
   refine⟨_,_,w,E,β,τ', ?_,.inl rfl,k⟩
   have hs:(sizeOf el).run en.P w=.ok n w:=by
    unfold sizeT at g3
    cases hi:en.P.info? el with
    | none=>rw[hi]at g3;cases g3
    | some inf=>
     rw[hi]at g3
     cases g3
     unfold sizeOf typeInfo
     simp[hi]
   unfold execOp
   rw[ho]
   dsimp only
   rw[Sem.run_bind,hp,e1]
   have hrun:(Instr.indexAt t (.pointer (some ad)) (.int ki i)).run en.P w=.ok (.pointer (some (ad.add (i.toNat * n)))) w:=by
    unfold Instr.indexAt
    simp[asIntOf,run_underlying k1,g8.1,g8.2,hs,Instr.sureAddr]
   rw[hrun]
   rfl
  cases x with
  | tmp j=>
   obtain⟨c,s3,_,_,_,_,h5,h6⟩:=M.bind_some h4
   obtain⟨g5,rfl⟩:=M.za4 h5
   have hv:=h.tm j c g5
   cases hcv:c.val with
   | ptr b g p off=>
    simp only[hcv]at h6
    rw[hcv,RepV]at hv
    obtain⟨_,s4,_,_,_,_,h7,h8⟩:=M.bind_some h6
    obtain⟨g7,rfl⟩:=M.zam h7
    have g7:=of_decide_eq_true g7
    obtain⟨τ',k⟩:=Sim.wr h h8 (v:=.pointer (some ((⟨β b g,off,none⟩:Addr).add (i.toNat * n)))) (by
     rw[RepV,add_plain']
     exact⟨rfl,rfl,hv.2.2⟩) zd1 zdP
    refine⟨_,_,w,E,β,τ', ?_,.inl rfl,k⟩
    have hs:(sizeOf el).run en.P w=.ok n w:=by
     unfold sizeT at g3
     cases hi:en.P.info? el with
     | none=>rw[hi]at g3;cases g3
     | some inf=>
      rw[hi]at g3
      cases g3
      unfold sizeOf typeInfo
      simp[hi]
    unfold execOp
    rw[ho]
    dsimp only
    rw[Sem.run_bind,show a.eval (.tmp j)=a.tmps.getD j undef from rfl,hv.1,e1]
    have hrun:(Instr.indexAt t (.pointer (some ⟨β b g,off,none⟩)) (.int ki i)).run en.P w=.ok (.pointer (some ((⟨β b g,off,none⟩:Addr).add (i.toNat * n)))) w:=by
     unfold Instr.indexAt
     simp[asIntOf,run_underlying k1,g7.1,g7.2,hs,Instr.sureAddr]
    rw[hrun]
    rfl
   | ref z=>
    cases z with
    | st fs=>
     simp only[hcv]at h6
     rw[hcv,RepV]at hv
     obtain⟨_,ad,hp,hpl⟩:=hv
     exact key hp hpl h6
    | _=>simp only[hcv]at h6;exact(M.zt h6).elim
   | _=>simp only[hcv]at h6;exact(M.zt h6).elim
  | global g=>
   cases hgl:Glob.gl g with
   | none=>simp only[hgl]at h4;exact(M.zt h4).elim
   | some z=>
    cases z with
    | st fs=>
     simp only[hgl]at h4
     obtain⟨q1,cs,q2,q3⟩:=h.glob hgl
     refine key (ad:=⟨g,0,none⟩) rfl ⟨cs,q2 w E,.inr q1,fun j v hj=> ?_⟩ h4
     rw[add_none',Nat.zero_add]
     exact q3 j v hj
    | _=>simp only[hgl]at h4;exact(M.zt h4).elim
  | const v=>exact(M.zt h4).elim
  | func f=>exact(M.zt h4).elim
end
end Go.Proofs.YtgmidllbkjdnnaaGreatDoor.Flat
namespace Go.Proofs.YtgmidllbkjdnnaaGreatDoor.Flat
set_option linter.unusedVariables false
set_option linter.unusedSimpArgs false
set_option linter.unusedSectionVars false
variable [Glob]
mutual
theorem T.zik:∀x:T,x.skel.size=x.size
 | .v _=>by rw[T.skel]
 | .st fs=>by rw[T.skel,T.size,T.size,ziG fs]
 | .sl _ _ _=>by rw[T.skel]
 | .xl _ _=>by rw[T.skel,T.size,T.size]
 | .op=>by rw[T.skel]
theorem ziG:∀fs:List T,sizes (skels fs)=sizes fs
 | []=>by rw[skels]
 | f::fs=>by rw[skels,sizes,sizes,T.zik f,ziG fs]
end
mutual
theorem T.zng:∀(p:List Nat) (x:T),x.skel.at p=(x.at p).map T.skel
 | [],x=>by rw[T.at,T.at];rfl
 | i::p,.st fs=>by rw[T.skel,T.at,T.at,zlN i p fs]
 | i::p,.v _=>by simp[T.skel,T.at]
 | i::p,.sl _ _ _=>by simp[T.skel,T.at]
 | i::p,.xl _ _=>by simp[T.skel,T.at]
 | i::p,.op=>by simp[T.skel,T.at]
theorem zlN:∀(i:Nat) (p:List Nat) (fs:List T),ats i p (skels fs)=(ats i p fs).map T.skel
 | i,p,[]=>by rw[skels,ats];rfl
 | 0,p,f::fs=>by rw[skels,ats,ats,T.zng p f]
 | i+1,p,f::fs=>by rw[skels,ats,ats,zlN i p fs]
end
mutual
theorem T.zlO:∀(p:List Nat) (x:T),x.skel.off p=x.off p
 | [],x=>by rw[T.off,T.off]
 | i::p,.st fs=>by rw[T.skel,T.off,T.off,zkH i p fs]
 | i::p,.v _=>by rw[T.skel]
 | i::p,.sl _ _ _=>by rw[T.skel]
 | i::p,.xl _ _=>by simp[T.skel,T.off]
 | i::p,.op=>by rw[T.skel]
theorem zkH:∀(i:Nat) (p:List Nat) (fs:List T),offs i p (skels fs)=offs i p fs
 | i,p,[]=>by rw[skels]
 | 0,p,f::fs=>by rw[skels,offs,offs,T.zlO p f]
 | i+1,p,f::fs=>by rw[skels,offs,offs,zkH i p fs,T.zik]
end
mutual
theorem T.zkI:∀x:T,x.skel.hasX=x.hasX
 | .v _=>by rw[T.skel]
 | .st fs=>by rw[T.skel,T.hasX,T.hasX,ziH fs]
 | .sl _ _ _=>by rw[T.skel]
 | .xl _ _=>by rw[T.skel,T.hasX,T.hasX]
 | .op=>by rw[T.skel]
theorem ziH:∀fs:List T,hasXs (skels fs)=hasXs fs
 | []=>by rw[skels]
 | f::fs=>by rw[skels,hasXs,hasXs,T.zkI f,ziH fs]
end
mutual
theorem T.znh:∀x:T,x.hasX=false→x.skel=x
 | .v _,_=>by rw[T.skel]
 | .st fs,h=>by rw[T.skel,zlP fs (by rwa[T.hasX]at h)]
 | .sl _ _ _,_=>by rw[T.skel]
 | .xl _ _,h=>by rw[T.hasX]at h;cases h
 | .op,_=>by rw[T.skel]
theorem zlP:∀fs:List T,hasXs fs=false→skels fs=fs
 | [],_=>by rw[skels]
 | f::fs,h=>by
  rw[hasXs,Bool.or_eq_false_iff]at h
  rw[skels,T.znh f h.1,zlP fs h.2]
end
theorem T.znZ (P:Program) (t:TypeId) (x:T):fits P t x.skel=fits P t x:=by
 unfold fits
 rw[T.zik]
 cases P.underlying t with
 | none=>cases x<;>rfl
 | some d=>cases d<;>cases x<;>simp[T.skel]
def Pl.sk:Pl→Pl
 | .vr b p o c=>.vr b p o c.skel
 | x=>x
theorem zn0 {x:Operand} {s s':St} {pl:Pl} {r q:List FL} (h:rdPS x s=some (pl,s',r,q)):∃pl0 r' q',rdP x s=some (pl0,s',r',q')∧pl=pl0.sk:=by
 cases x with
 | tmp i=>
  obtain⟨c,s1,_,_,_,_,h1,h2⟩:=M.bind_some h
  obtain⟨g1,rfl⟩:=M.za4 h1
  have mk:∀{pl0:Pl} {r' q':List FL},(match c.val with
   | .ptr b g p o=>do
    let d←M.get (.bx b)
    if d.gen==g then M.pure (Pl.vr b p o d)else M.fail
   | .ref x=>M.pure (Pl.rf x)
   | .fref f caps=>M.pure (Pl.ff f caps)
   | .xr true l p n=>M.pure (Pl.xp l p n)
   | _=>M.fail:M Pl) s=some (pl0,s',r',q')→rdP (.tmp i) s=some (pl0,s',[FL.l (.tm i)]++r',[]++q'):=fun hq=>M.ze9 (by unfold M.get;rw[g1];rfl) hq
  cases hcv:c.val with
  | ptr b g p off=>
   simp only[hcv]at h2 mk
   obtain⟨d,s2,_,_,_,_,h3,h4⟩:=M.bind_some h2
   obtain⟨⟨d0,g3,rfl⟩,rfl⟩:=M.znU h3
   have eg:d0.skel.gen=d0.gen:=by unfold Cell.skel;split<;>rfl
   rw[eg]at h4
   by_cases hg:(d0.gen==g)=true
   ·rw[if_pos hg]at h4
    obtain⟨rfl,rfl⟩:=M.zO h4
    refine⟨Pl.vr b p off d0,_,_,mk (M.ze9 (a:=d0) (s1:=s) (by unfold M.get;rw[g3];rfl) (by rw[if_pos hg];rfl)),rfl⟩
   ·rw[if_neg hg]at h4;exact(M.zt h4).elim
  | ref z=>simp only[hcv]at h2 mk;obtain⟨rfl,rfl⟩:=M.zO h2;exact⟨_,_,_,mk rfl,rfl⟩
  | fref f caps=>simp only[hcv]at h2 mk;obtain⟨rfl,rfl⟩:=M.zO h2;exact⟨_,_,_,mk rfl,rfl⟩
  | xr k l p n=>
   cases k with
   | false=>simp only[hcv]at h2;exact(M.zt h2).elim
   | true=>simp only[hcv]at h2 mk;obtain⟨rfl,rfl⟩:=M.zO h2;exact⟨_,_,_,mk rfl,rfl⟩
  | _=>simp only[hcv]at h2;exact(M.zt h2).elim
 | const v=>exact(M.zt (s:=s) h).elim
 | global g=>exact(M.zt (s:=s) h).elim
 | func g=>exact(M.zt (s:=s) h).elim
theorem zoB {en:Env} {o:Oper} {t:TypeId} {pl:Pl} {s s':St} {u:Unit} {r q:List FL} (h:loadP en o t pl.sk s=some (u,s',r,q)):loadP en o t pl s=some (u,s',r,q):=by
 cases pl with
 | vr b p off c=>
  unfold Pl.sk at h
  unfold loadP at h⊢
  dsimp only at h⊢
  cases hcv:c.val with
  | t z=>
   have e1:c.skel.val=.t z.skel:=by unfold Cell.skel;rw[hcv]
   have e2:c.skel.ver=c.ver:=by unfold Cell.skel;rw[hcv]
   simp only[e1,e2,T.zng,T.zlO]at h
   dsimp only
   cases ha:z.at p with
   | none=>rw[ha]at h;exact(M.zt h).elim
   | some y=>
    rw[ha]at h
    cases ho:z.off p with
    | none=>rw[ho]at h;exact(M.zt h).elim
    | some q0=>
     rw[ho]at h
     simp only[Option.map_some,T.znZ,T.zkI]at h⊢
     cases hx:y.hasX with
     | true=>rw[hx]at h;exact h
     | false=>rw[hx,T.znh y hx]at h;exact h
  | _=>
   have e1:c.skel=c:=by unfold Cell.skel;rw[hcv]
   rw[e1,hcv]at h
   exact h
 | _=>exact h
def PlOk (e:Ent) (w:World) (E:Nat→Nat) (β:Bm) (a:Act) (s:St) (v:Value):Pl→Prop
 | .vr b p o c=>s.get (.bx b)=some c∧v=.pointer (some ⟨β b c.gen,o,none⟩)
 | .rf x=>∃ad,v=.pointer (some ad)∧zfU w E e.F x ad
 | .ff f caps=>∃ad cv,v=.pointer (some ad)∧w.cell? ad=some (.func (.func f) #[] cv.toArray)∧RepVs w E e.F β caps cv
 | .xp l p n=>OgX w β a s true l p n v
section
variable {en:Env} {e:Ent} {w:World} {E:Nat→Nat} {β:Bm} {τ:Loc→List Nat} {a:Act} {s s':St} {o:Oper} {r q:List FL} {u:Unit}
theorem zil (h:Sim e w E β τ a s) {x:Operand} {pl:Pl} (hr:rdP x s=some (pl,s',r,q)):s=s'∧PlOk e w E β a s (a.eval x) pl:=by
 cases x with
 | tmp i=>
  obtain⟨c,s1,_,_,_,_,h1,h2⟩:=M.bind_some hr
  obtain⟨g1,rfl⟩:=M.za4 h1
  have hv:=h.tm i c g1
  cases hcv:c.val with
  | ptr b g p off=>
   simp only[hcv]at h2
   rw[hcv,RepV]at hv
   obtain⟨d,s2,_,_,_,_,h3,h4⟩:=M.bind_some h2
   obtain⟨g3,rfl⟩:=M.za4 h3
   by_cases hg:(d.gen==g)=true
   ·rw[if_pos hg]at h4
    obtain⟨rfl,rfl⟩:=M.zO h4
    have:d.gen=g:=by simpa using hg
    exact⟨rfl,g3,by rw[this];exact hv.1⟩
   ·rw[if_neg hg]at h4;exact(M.zt h4).elim
  | ref z=>
   simp only[hcv]at h2
   rw[hcv,RepV]at hv
   obtain⟨rfl,rfl⟩:=M.zO h2
   exact⟨rfl,hv.2⟩
  | fref f caps=>
   simp only[hcv]at h2
   rw[hcv,RepV]at hv
   obtain⟨rfl,rfl⟩:=M.zO h2
   obtain⟨_,ad,cv,k1,_,k2,k3⟩:=hv
   exact⟨rfl,ad,cv,k1,k2,k3⟩
  | xr k l p n=>
   cases k with
   | false=>simp only[hcv]at h2;exact(M.zt h2).elim
   | true=>
    simp only[hcv]at h2
    obtain⟨rfl,rfl⟩:=M.zO h2
    exact⟨rfl,h.og i c true l p n g1 (.inl hcv)⟩
  | _=>simp only[hcv]at h2;exact(M.zt h2).elim
 | const v=>exact(M.zt (s:=s) hr).elim
 | global g=>exact(M.zt (s:=s) hr).elim
 | func g=>exact(M.zt (s:=s) hr).elim
theorem ziI {t:TypeId} {ad:Addr} {v:Value} {P:Program} (hf:fnT P t=true) (hc:w.cell? ad=some v):(loadVar t ad).run P w=.ok v w:=by
 unfold fnT at hf
 split at hf
 ·rename_i hu
  unfold loadVar isAgg
  simp[run_underlying hu,hc]
 ·cases hf
theorem zmP {P:Program} {t:TypeId} {ad:Addr} {v:Value} (h:(loadVar t ad).run P w=.ok v w):(do pure (Next.value (←Instr.loadAt t (.pointer (some ad)))):Sem Next).run P w=.ok (.value v) w:=by
 unfold Instr.loadAt Instr.sureAddr
 rw[Sem.run_bind]
 simp only[Sem.run_bind,Sem.run_pure,Result.andThen_ok,h]
theorem zn1 (h:Sim e w E β τ a s) {t:TypeId} {x:Operand} (ho:o.op=.load t x) (hf:fire en o s=some (u,s',r,q)):Done en o e w a s':=by
 unfold fire at hf
 rw[ho]at hf
 obtain⟨pl',s1,_,_,_,_,h1',h2'⟩:=M.bind_some hf
 obtain⟨pl,_,_,h1,rfl⟩:=zn0 h1'
 have h2:=zoB h2'
 obtain⟨rfl,hp⟩:=zil h h1
 unfold loadP at h2
 have done:∀{ad:Addr} {v:Value} {τ'},a.eval x=.pointer (some ad)→(loadVar t ad).run en.P w=.ok v w→Sim e w E β τ' (a.put o.dst v) s'→Done en o e w a s':=by
  intro ad v τ' hpt hl k
  refine⟨_,_,w,E,β,τ', ?_,.inl rfl,k⟩
  unfold execOp
  rw[ho]
  dsimp only
  rw[hpt]
  exact zmP hl
 have fin:∀{y:AV} {ad:Addr} {v:Value} {og:Option (Loc × List Nat × Nat)},a.eval x=.pointer (some ad)→(loadVar t ad).run en.P w=.ok v w→RepV w E e.F β y v []→
   (∀l p n,og=some (l,p,n)→OgX w β a s false l p n v)→∀{r' q':List FL},wr o.dst y og s=some (u,s',r',q')→Done en o e w a s':=by
  intro y ad v og hpt hl hy hog r' q' hw
  obtain⟨τ',k⟩:=Sim.wr h hw hy zd1 hog
  exact done hpt hl k
 cases pl with
 | vr b p off c=>
  obtain⟨hb,hpt⟩:=hp
  dsimp only at h2
  cases hcv:c.val with
  | t z=>
   simp only[hcv]at h2
   obtain⟨cells,ty,k1,k2,_⟩:=h.bx b c hb (by rw[hcv];exact fun h=>(by cases h))
   rw[hcv]at k2
   cases hat:z.at p with
   | none=>simp only[hat]at h2;exact(M.zt h2).elim
   | some y=>
    cases hoff:z.off p with
    | none=>simp only[hat,hoff]at h2;exact(M.zt h2).elim
    | some q0=>
     simp only[hat,hoff]at h2
     obtain⟨_,s3,_,_,_,_,h5,h6⟩:=M.bind_some h2
     obtain⟨g5,rfl⟩:=M.zam h5
     rw[Bool.and_eq_true]at g5
     obtain⟨g6,g7⟩:=g5
     have hq:q0=off:=by simpa using g6
     obtain⟨hget,hfar⟩:=zoy hat
     obtain⟨ad,c2,B1,B2,B3,hp⟩:=h.part (l:=.bx b) hb hcv rfl hget
     obtain⟨c1,c3,n1,n3⟩:=hp.near hfar
     have n4:=hp.rep
     have hce:zdb w β a s (.bx b)=cells.toList:=by
      have hb':s.bx[b]?=some c:=hb
      simp only[zdb,hb',k1]
     rw[hce]at n1
     have hc1:c1.length=off:=by rw[n3]at hoff;cases hoff;exact hq
     have hcell:∀j v,c2[j]?=some v→w.cell? ((⟨β b c.gen,off,none⟩:Addr).add j)=some v:=by
      intro j v hj
      have hj2:=(List.getElem?_eq_some_iff.1 hj).1
      rw[add_plain']
      unfold World.cell?
      rw[k1]
      dsimp only
      have:cells.toList[off+j]?=some v:=by
       rw[n1,List.append_assoc,List.getElem?_append_right (by omega),List.getElem?_append_left (by omega),show off+j-c1.length=j by omega]
       exact hj
      simpa using this
     by_cases hx:y.hasX=true
     ·rw[if_pos hx]at h6
      obtain⟨τ',k⟩:=Sim.wrX h h6 (hp.og (k:=false) (v:=valOf y c2) (by simp))
      exact done hpt (zfs g7 n4 hcell) k
     rw[if_neg hx]at h6
     refine fin hpt (zfs g7 n4 hcell) ?_ ?_ h6
     ·rw[RepV]
      exact(show RepT w E y (valOf y c2) B2 from⟨c2,n4,rfl⟩).sh
     ·intro l p' n' hog
      by_cases hsl:isSl y=true
      ·rw[if_pos hsl]at hog
       cases hog
       exact hp.og (by simp)
      ·rw[if_neg hsl]at hog;cases hog
  | fn f caps=>
   simp only[hcv]at h2
   obtain⟨cells,ty,k1,k2,_⟩:=h.bx b c hb (by rw[hcv];exact fun h=>(by cases h))
   rw[hcv]at k2
   obtain⟨v,m1,m2⟩:=k2
   cases p with
   | cons i p=>exact(M.zt h2).elim
   | nil=>
    cases off with
    | succ n=>exact(M.zt h2).elim
    | zero=>
     obtain⟨_,s3,_,_,_,_,h5,h6⟩:=M.bind_some h2
     obtain⟨g5,rfl⟩:=M.zam h5
     refine fin hpt (ziI (v:=v) g5 ?_) m2.cp zdP h6
     unfold World.cell?
     rw[k1]
     dsimp only
     have:cells.toList[0]?=some v:=by rw[m1];rfl
     simpa using this
  | _=>simp only[hcv]at h2;exact(M.zt h2).elim
 | rf z=>
  obtain⟨ad,hpt,cs,m1,m2,m3⟩:=hp
  dsimp only at h2
  obtain⟨_,s3,_,_,_,_,h5,h6⟩:=M.bind_some h2
  obtain⟨g5,rfl⟩:=M.zam h5
  refine fin hpt (zfs g5 m1 m3) ?_ zdP h6
  rw[RepV]
  exact(show RepT w E z (valOf z cs) [] from⟨cs,m1,rfl⟩).sh
 | ff f caps=>
  obtain⟨ad,cv,hpt,k1,k2⟩:=hp
  dsimp only at h2
  obtain⟨_,s3,_,_,_,_,h5,h6⟩:=M.bind_some h2
  obtain⟨g5,rfl⟩:=M.zam h5
  refine fin hpt (ziI g5 k1) ?_ zdP h6
  rw[RepV]
  exact⟨rfl,cv,rfl,k2⟩
 | xp l p n=>
  dsimp only at h2
  obtain⟨x0,s3,_,_,_,_,h5,h6⟩:=M.bind_some h2
  obtain⟨rfl,d,d1,d2,d3⟩:=zjl h h5
  obtain⟨y,s4,_,_,_,_,h7,h8⟩:=M.bind_some h6
  obtain⟨g7,rfl⟩:=M.zar h7
  obtain⟨_,s5,_,_,_,_,h9,h10⟩:=M.bind_some h8
  obtain⟨g9,rfl⟩:=M.zam h9
  rw[Bool.and_eq_true]at g9
  obtain⟨g9,g10⟩:=g9
  obtain⟨ad,c2,B1,B2,B3,hq⟩:=h.part d1 d2 d3 g7
  obtain⟨k0,o0,e1,e2⟩:=hq.adrX hp
  obtain⟨k1,o1,cells,ty,m1,m2,m3,m4⟩:=hq.mem g9
  rw[e1]at m1
  cases m1
  have hl:=zfs (ad:=⟨k0,o0,none⟩) g10 hq.rep (fun j u hj=>by rw[add_none'];exact m4 j u hj)
  by_cases hx:y.hasX=true
  ·rw[if_pos hx]at h10
   obtain⟨τ',k⟩:=Sim.wrX h h10 (hq.og (k:=false) (v:=valOf y c2) (by simp))
   exact done e2 hl k
  ·rw[if_neg hx]at h10
   refine fin e2 hl ?_ zdP h10
   rw[RepV]
   exact(show RepT w E y (valOf y c2) B2 from⟨c2,hq.rep,rfl⟩).sh
end
end Go.Proofs.YtgmidllbkjdnnaaGreatDoor.Flat
