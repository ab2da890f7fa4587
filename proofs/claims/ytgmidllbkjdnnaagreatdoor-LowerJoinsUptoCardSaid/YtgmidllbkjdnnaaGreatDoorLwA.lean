/- Plans laid flat: the rows, how many, and who is named where. -/
import Derived.Test.YtgmidllbkjdnnaaGreatDoorPlK
namespace Go.Proofs.YtgmidllbkjdnnaaGreatDoor.W
open Go.Proofs.YtgmidllbkjdnnaaGreatDoor.Flat
set_option linter.unusedVariables false
set_option linter.unusedSimpArgs false
def subs (x:GStep):List (List GStep):=tOf x++((byOf x).filter fun b=>bK b==3).map bT
def subsL (l:List GStep):List (List GStep):=l.flatMap subs
def plF:Nat→List GStep→Nat
 | 0,_=>1
 | f+1,l=>1+((subsL l).map (plF f)).sum
def starts (g:List GStep→Nat):List (List GStep)→Nat→List Int
 | [],_=>[]
 | t::ts,n=>(n:Int)::starts g ts (n+g t)
def keysF (g:List GStep→Nat):List GBy→Nat→List GKey
 | [],_=>[]
 | b::bs,n=>if bK b==3 then .mk (bK b) (bKey b) (n:Int) (bD b)::keysF g bs (n+g (bT b))else .mk (bK b) (bKey b) 0 (bD b)::keysF g bs n
def tot (g:List GStep→Nat) (ts:List (List GStep)):Nat:=(ts.map g).sum
def codeF (g:List GStep→Nat) (x:GStep) (n:Nat):GCode:=.mk (opOf x) (sOf x) (nOf x) (vOf x) (pOf x) (starts g (tOf x) n) (keysF g (byOf x) (n+tot g (tOf x))) (asOf x)
def zhz (g:List GStep→Nat):List GStep→Nat→List GCode
 | [],_=>[]
 | x::xs,n=>codeF g x n::zhz g xs (n+tot g (subs x))
def blocks (R:List GStep→Nat→List (List GCode)) (g:List GStep→Nat):List (List GStep)→Nat→List (List GCode)
 | [],_=>[]
 | t::ts,n=>R t n++blocks R g ts (n+g t)
def rowsF:Nat→List GStep→Nat→List (List GCode)
 | 0,_,_=>[[]]
 | f+1,l,n=>zhz (plF f) l (n+1)::blocks (rowsF f) (plF f) (subsL l) (n+1)
theorem znP (g:List GStep→Nat) (a b:List (List GStep)):tot g (a++b)=tot g a+tot g b:=by simp[tot]
theorem zia (g:List GStep→Nat) (a:List GStep) (b:List (List GStep)):tot g (a::b)=g a+tot g b:=by simp[tot]
theorem zhA {R:List GStep→Nat→List (List GCode)} {g:List GStep→Nat}:∀(a b:List (List GStep)) (n:Nat),blocks R g (a++b) n=blocks R g a n++blocks R g b (n+tot g a)
 | [],b,n=>by simp[blocks,tot]
 | t::ts,b,n=>by rw[List.cons_append,blocks,blocks,zhA ts b,List.append_assoc,zia,Nat.add_assoc]
theorem zgv {R:List GStep→Nat→List (List GCode)} {g:List GStep→Nat}:∀(ts:List (List GStep)) (n:Nat),(∀t∈ts,∀m,(R t m).length=g t)→(blocks R g ts n).length=tot g ts
 | [],n,_=>rfl
 | t::ts,n,h=>by rw[blocks,List.length_append,zia,h t (List.mem_cons_self ..),zgv ts _ fun u hu=>h u (List.mem_cons_of_mem _ hu)]
theorem zhe:∀(f:Nat) (l:List GStep) (n:Nat),(rowsF f l n).length=plF f l
 | 0,l,n=>rfl
 | f+1,l,n=>by
  rw[rowsF,plF,List.length_cons,zgv _ _ fun t _ m=>zhe f t m,tot,Nat.add_comm]
theorem znQ:∀(f:Nat) (l:List GStep),1≤plF f l
 | 0,_=>Nat.le_refl _
 | f+1,l=>by rw[plF];omega
theorem zko {g:List GStep→Nat}:∀(l:List GStep) (n:Nat),(zhz g l n).length=l.length
 | [],_=>rfl
 | x::xs,n=>by rw[zhz,List.length_cons,List.length_cons,zko xs]
def kK:GKey→Int
 | .mk k _ _ _=>k
def kKid:GKey→Int
 | .mk _ _ k _=>k
def cKids:GCode→List Int
 | .mk _ _ _ _ _ k _ _=>k
def cBy:GCode→List GKey
 | .mk _ _ _ _ _ _ b _=>b
def kids (c:GCode):List Int:=cKids c++((cBy c).filter fun k=>kK k==3).map kKid
def zqB (r:List GCode):List Int:=r.flatMap kids
def names (r:List (List GCode)):List Int:=r.flatMap zqB
end Go.Proofs.YtgmidllbkjdnnaaGreatDoor.W
