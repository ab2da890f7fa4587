/- Plans laid flat: the rows, how many, and who is named where. -/
import Derived.Test.YtgmidllbkjdnnaaDoorPlK
namespace Go.Proofs.YtgmidllbkjdnnaaDoor.W
open Go.Proofs.YtgmidllbkjdnnaaDoor.Flat
set_option linter.unusedVariables false
set_option linter.unusedSimpArgs false
def subs (x:GStep):List (List GStep):=tOf x++((byOf x).filter fun b=>bK b==3).map bT
def subsL (l:List GStep):List (List GStep):=l.flatMap subs
def plF:Nat→List GStep→Nat
 | 0,_=>1
 | f+1,l=>1+((subsL l).map (plF f)).sum
def starts (g:List GStep→Nat):List (List GStep)→Nat→List Int
 | [],_=>[]
 | t::ts,n=>(n:Int)::starts g ts (n+g t)
def keysF (g:List GStep→Nat):List GBy→Nat→List GKey
 | [],_=>[]
 | b::bs,n=>if bK b==3 then .mk (bK b) (bKey b) (n:Int) (bD b)::keysF g bs (n+g (bT b))else .mk (bK b) (bKey b) 0 (bD b)::keysF g bs n
def tot (g:List GStep→Nat) (ts:List (List GStep)):Nat:=(ts.map g).sum
def codeF (g:List GStep→Nat) (x:GStep) (n:Nat):GCode:=.mk (opOf x) (sOf x) (nOf x) (vOf x) (pOf x) (starts g (tOf x) n) (keysF g (byOf x) (n+tot g (tOf x))) (asOf x)
def zeh (g:List GStep→Nat):List GStep→Nat→List GCode
 | [],_=>[]
 | x::xs,n=>codeF g x n::zeh g xs (n+tot g (subs x))
def blocks (R:List GStep→Nat→List (List GCode)) (g:List GStep→Nat):List (List GStep)→Nat→List (List GCode)
 | [],_=>[]
 | t::ts,n=>R t n++blocks R g ts (n+g t)
def rowsF:Nat→List GStep→Nat→List (List GCode)
 | 0,_,_=>[[]]
 | f+1,l,n=>zeh (plF f) l (n+1)::blocks (rowsF f) (plF f) (subsL l) (n+1)
theorem znq (g:List GStep→Nat) (a b:List (List GStep)):tot g (a++b)=tot g a+tot g b:=by simp[tot]
theorem zeL (g:List GStep→Nat) (a:List GStep) (b:List (List GStep)):tot g (a::b)=g a+tot g b:=by simp[tot]
theorem zgZ {R:List GStep→Nat→List (List GCode)} {g:List GStep→Nat}:∀(a b:List (List GStep)) (n:Nat),blocks R g (a++b) n=blocks R g a n++blocks R g b (n+tot g a)
 | [],b,n=>by simp[blocks,tot]
 | t::ts,b,n=>by rw[List.cons_append,blocks,blocks,zgZ ts b,List.append_assoc,zeL,Nat.add_assoc]
theorem zeQ {R:List GStep→Nat→List (List GCode)} {g:List GStep→Nat}:∀(ts:List (List GStep)) (n:Nat),(∀t∈ts,∀m,(R t m).length=g t)→(blocks R g ts n).length=tot g ts
 | [],n,_=>rfl
 | t::ts,n,h=>by rw[blocks,List.length_append,zeL,h t (List.mem_cons_self ..),zeQ ts _ fun u hu=>h u (List.mem_cons_of_mem _ hu)]
theorem zgx:∀(f:Nat) (l:List GStep) (n:Nat),(rowsF f l n).length=plF f l
 | 0,l,n=>rfl
 | f+1,l,n=>by
  rw[rowsF,plF,List.length_cons,zeQ _ _ fun t _ m=>zgx f t m,tot,Nat.add_comm]
theorem zjO {g:List GStep→Nat}:∀(l:List GStep) (n:Nat),(zeh g l n).length=l.length
 | [],_=>rfl
 | x::xs,n=>by rw[zeh,List.length_cons,List.length_cons,zjO xs]
theorem zfa {g:List GStep→Nat}:∀(a b:List (List GStep)) (n:Nat),starts g (a++b) n=starts g a n++starts g b (n+tot g a)
 | [],b,n=>by simp[starts,tot]
 | t::ts,b,n=>by rw[List.cons_append,starts,starts,zfa ts b,zeL,Nat.add_assoc,List.cons_append]
def kK:GKey→Int
 | .mk k _ _ _=>k
def kKid:GKey→Int
 | .mk _ _ k _=>k
def cKids:GCode→List Int
 | .mk _ _ _ _ _ k _ _=>k
def cBy:GCode→List GKey
 | .mk _ _ _ _ _ _ b _=>b
def kids (c:GCode):List Int:=cKids c++((cBy c).filter fun k=>kK k==3).map kKid
def zpT (r:List GCode):List Int:=r.flatMap kids
def names (r:List (List GCode)):List Int:=r.flatMap zpT
end Go.Proofs.YtgmidllbkjdnnaaDoor.W
