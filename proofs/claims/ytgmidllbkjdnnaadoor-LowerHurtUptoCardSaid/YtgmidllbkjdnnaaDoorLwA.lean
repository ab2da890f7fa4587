/- Plans laid flat: the rows, how many, and who is named where. -/
import Derived.Test.YtgmidllbkjdnnaaDoorPlK
namespace Go.Proofs.YtgmidllbkjdnnaaDoor.W
open Go.Proofs.YtgmidllbkjdnnaaDoor.Flat
set_option linter.unusedVariables false
set_option linter.unusedSimpArgs false
def subs (x:GStep):List (List GStep):=tOf x++((byOf x).filter fun b=>bK b==3).map bT
def subsL (l:List GStep):List (List GStep):=l.flatMap subs
def plF:Nat→List GStep→Nat
 | 0,_=>1
 | f+1,l=>1+((subsL l).map (plF f)).sum
def starts (g:List GStep→Nat):List (List GStep)→Nat→List Int
 | [],_=>[]
 | t::ts,n=>(n:Int)::starts g ts (n+g t)
def keysF (g:List GStep→Nat):List GBy→Nat→List GKey
 | [],_=>[]
 | b::bs,n=>if bK b==3 then .mk (bK b) (bKey b) (n:Int) (bD b)::keysF g bs (n+g (bT b))else .mk (bK b) (bKey b) 0 (bD b)::keysF g bs n
def tot (g:List GStep→Nat) (ts:List (List GStep)):Nat:=(ts.map g).sum
def codeF (g:List GStep→Nat) (x:GStep) (n:Nat):GCode:=.mk (opOf x) (sOf x) (nOf x) (vOf x) (pOf x) (starts g (tOf x) n) (keysF g (byOf x) (n+tot g (tOf x))) (asOf x)
def zen (g:List GStep→Nat):List GStep→Nat→List GCode
 | [],_=>[]
 | x::xs,n=>codeF g x n::zen g xs (n+tot g (subs x))
def blocks (R:List GStep→Nat→List (List GCode)) (g:List GStep→Nat):List (List GStep)→Nat→List (List GCode)
 | [],_=>[]
 | t::ts,n=>R t n++blocks R g ts (n+g t)
def rowsF:Nat→List GStep→Nat→List (List GCode)
 | 0,_,_=>[[]]
 | f+1,l,n=>zen (plF f) l (n+1)::blocks (rowsF f) (plF f) (subsL l) (n+1)
theorem zmr (g:List GStep→Nat) (a b:List (List GStep)):tot g (a++b)=tot g a+tot g b:=by simp[tot]
theorem zet (g:List GStep→Nat) (a:List GStep) (b:List (List GStep)):tot g (a::b)=g a+tot g b:=by simp[tot]
theorem zgl {R:List GStep→Nat→List (List GCode)} {g:List GStep→Nat}:∀(a b:List (List GStep)) (n:Nat),blocks R g (a++b) n=blocks R g a n++blocks R g b (n+tot g a)
 | [],b,n=>by simp[blocks,tot]
 | t::ts,b,n=>by rw[List.cons_append,blocks,blocks,zgl ts b,List.append_assoc,zet,Nat.add_assoc]
theorem zfp {R:List GStep→Nat→List (List GCode)} {g:List GStep→Nat}:∀(ts:List (List GStep)) (n:Nat),(∀t∈ts,∀m,(R t m).length=g t)→(blocks R g ts n).length=tot g ts
 | [],n,_=>rfl
 | t::ts,n,h=>by rw[blocks,List.length_append,zet,h t (List.mem_cons_self ..),zfp ts _ fun u hu=>h u (List.mem_cons_of_mem _ hu)]
theorem ze9:∀(f:Nat) (l:List GStep) (n:Nat),(rowsF f l n).length=plF f l
 | 0,l,n=>rfl
 | f+1,l,n=>by
  rw[rowsF,plF,List.length_cons,zfp _ _ fun t _ m=>ze9 f t m,tot,Nat.add_comm]
theorem zms:∀(f:Nat) (l:List GStep),1≤plF f l
 | 0,_=>Nat.le_refl _
 | f+1,l=>by rw[plF];omega
theorem ziR {g:List GStep→Nat}:∀(l:List GStep) (n:Nat),(zen g l n).length=l.length
 | [],_=>rfl
 | x::xs,n=>by rw[zen,List.length_cons,List.length_cons,ziR xs]
theorem zgm {g:List GStep→Nat}:∀(a b:List (List GStep)) (n:Nat),starts g (a++b) n=starts g a n++starts g b (n+tot g a)
 | [],b,n=>by simp[starts,tot]
 | t::ts,b,n=>by rw[List.cons_append,starts,starts,zgm ts b,zet,Nat.add_assoc,List.cons_append]
def kK:GKey→Int
 | .mk k _ _ _=>k
def kKid:GKey→Int
 | .mk _ _ k _=>k
def cKids:GCode→List Int
 | .mk _ _ _ _ _ k _ _=>k
def cBy:GCode→List GKey
 | .mk _ _ _ _ _ _ b _=>b
def kids (c:GCode):List Int:=cKids c++((cBy c).filter fun k=>kK k==3).map kKid
def zdU (r:List GCode):List Int:=r.flatMap kids
def names (r:List (List GCode)):List Int:=r.flatMap zdU
theorem zgn {g:List GStep→Nat}:∀(bs:List GBy) (n:Nat),((keysF g bs n).filter fun k=>kK k==3).map kKid=starts g ((bs.filter fun b=>bK b==3).map bT) n
 | [],n=>rfl
 | b::bs,n=>by
  rw[keysF]
  by_cases h:(bK b==3)=true
  ·rw[if_pos h,List.filter_cons_of_pos (p:=fun k=>kK k==3) (show(kK (.mk (bK b) (bKey b) (n:Int) (bD b))==3)=true from h),List.filter_cons_of_pos (p:=fun b=>bK b==3) h,List.map_cons,List.map_cons,starts,zgn bs]
   rfl
  ·rw[if_neg h,List.filter_cons_of_neg (p:=fun k=>kK k==3) (show¬(kK (.mk (bK b) (bKey b) 0 (bD b))==3)=true from h),List.filter_cons_of_neg (p:=fun b=>bK b==3) h,zgn bs]
theorem zlX {g:List GStep→Nat} (x:GStep) (n:Nat):kids (codeF g x n)=starts g (subs x) n:=by
 rw[kids,codeF,subs,zgm]
 show starts g (tOf x) n++_=_
 rw[show cBy (.mk (opOf x) (sOf x) (nOf x) (vOf x) (pOf x) (starts g (tOf x) n) (keysF g (byOf x) (n+tot g (tOf x))) (asOf x))=keysF g (byOf x) (n+tot g (tOf x)) from rfl,zgn]
theorem zfq {g:List GStep→Nat}:∀(l:List GStep) (n:Nat),zdU (zen g l n)=starts g (subsL l) n
 | [],n=>rfl
 | x::xs,n=>by
  rw[zen,zdU,List.flatMap_cons,zlX,subsL,List.flatMap_cons,zgm]
  have:=zfq (g:=g) xs (n+tot g (subs x))
  rw[zdU,subsL]at this
  rw[this]
theorem zm3 (a b:List (List GCode)):names (a++b)=names a++names b:=List.flatMap_append
theorem zjy {g:List GStep→Nat} (hg:∀t,1≤g t):∀(ts:List (List GStep)) (n:Nat),∀k∈starts g ts n,(n:Int)≤k∧k < n+tot g ts
 | [],n,k,h=>by cases h
 | t::ts,n,k,h=>by
  rw[starts]at h
  rw[zet]
  have:=hg t
  rcases List.mem_cons.1 h with rfl | h
  ·push_cast;omega
  ·have:=zjy hg ts (n+g t) k h
   push_cast at this⊢
   omega
def NmIn (r:List (List GCode)) (n e:Nat):Prop:=∀(i:Nat) (row:List GCode),r[i]?=some row→∀k∈zdU row,(n:Int)+i < k∧k < e
theorem zjz {R:List GStep→Nat→List (List GCode)} {g:List GStep→Nat}:∀(ts:List (List GStep)) (n:Nat),(∀t∈ts,∀k,NmIn (R t k) k (k+g t)∧(R t k).length=g t)→NmIn (blocks R g ts n) n (n+tot g ts)
 | [],n,_=>by intro i row h;simp[blocks]at h
 | t::ts,n,h=>by
  intro i row hr k hk
  obtain⟨h1,h2⟩:=h t (List.mem_cons_self ..) n
  have ih:=zjz ts (n+g t) fun u hu=>h u (List.mem_cons_of_mem _ hu)
  rw[blocks]at hr
  rw[zet]
  by_cases hi:i < (R t n).length
  ·rw[List.getElem?_append_left hi]at hr
   have:=h1 i row hr k hk
   push_cast at this⊢
   omega
  ·rw[List.getElem?_append_right (by omega)]at hr
   have:=ih _ row hr k hk
   rw[h2]at this hi
   have e:((i-g t:Nat):Int)=(i:Int)-(g t:Int):=by omega
   rw[e]at this
   push_cast at this⊢
   omega
theorem zld:∀(f:Nat) (l:List GStep) (n:Nat),NmIn (rowsF f l n) n (n+plF f l)
 | 0,l,n=>by
  intro i row h k hk
  rcases i with _ | i
  ·simp[rowsF]at h
   subst h
   cases hk
  ·simp[rowsF]at h
 | f+1,l,n=>by
  intro i row hr k hk
  rw[rowsF]at hr
  have e2:plF (f+1) l=1+tot (plF f) (subsL l):=rfl
  rw[e2]
  rcases i with _ | i
  ·simp at hr
   subst hr
   rw[zfq]at hk
   have:=zjy (zms f) (subsL l) (n+1) k hk
   push_cast at this⊢
   omega
  ·rw[List.getElem?_cons_succ]at hr
   have:=zjz (R:=rowsF f) (g:=plF f) (subsL l) (n+1) (fun t _ m=>⟨zld f t m,ze9 f t m⟩) i row hr k hk
   push_cast at this⊢
   omega
end Go.Proofs.YtgmidllbkjdnnaaDoor.W
