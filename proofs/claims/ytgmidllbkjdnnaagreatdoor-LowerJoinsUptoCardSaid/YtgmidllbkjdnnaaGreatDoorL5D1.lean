/- The proofs of it, part 1. -/
import Derived.Test.YtgmidllbkjdnnaaGreatDoorL5D0
namespace Go.Proofs.YtgmidllbkjdnnaaGreatDoor.W
open Go.Proofs.YtgmidllbkjdnnaaGreatDoor.Flat
set_option smartUnfolding false
attribute [local irreducible] zaM zaN zbx zbc za0 zbv zda zb3 zaq zaA zb2 zbn zdS quoI zc7 zc8 zdI zba zbd zde zcL zac zc9 zZ zbu zcl zcQ zdF zdG zc0 zbs zc6 zc5 strAt zaQ
set_option linter.unusedVariables false
set_option linter.unusedSimpArgs false
theorem pK1 {e:Env} {k:Nat} {c:Code} {ob:List Obl} {s s':St} {x:Ex} (ho:Obls e k ob) (h:execN e c (scOf ob) s=some (x,s',[],ob):=by kernel_rfl):exec e k c s=some (x,s'):=path ho h
variable {t:Tab} {call:FuncId→List AV→List AV→Option (AV × List AV)}
theorem zbx.ok (ht:TabOk t call) (n:Nat) (a1:Int) (u2:zH) (r:_) (h:zbx t n a1 u2=some r):exec (env Tryz.prog 30 Tryz.f30 call) n (sub [1,1] (zq Tryz.f30)) (mkSt 132 133 [(0,(.ptr 132 0 [] 0)),(1,(I6 a1))] [(132,(.t (zH.t u2)))])=some (zbx.to r):=by
 obtain⟨a2,a3⟩:=u2
 rw[zbx]at h
 obtain⟨h1,h⟩:=ck h
 obtain⟨a4,h2,h⟩:=sm h
 obtain⟨⟨a5,a6,⟨a7,a8⟩⟩ | ⟨a9,a10,a11,a12,a13,⟨a14,a15⟩⟩,h3,h⟩:=sm h
 ·cases h
  exact pK1 (zae h1 (zab (zu zC h2) (zD (zn GCode.zl (l:=a4)) (zaS (lk (sub [1,1,1,1,0,1,0] (zq Tryz.f30)) (by kernel_rfl) (zbw.okL ht n n _ _ _ _ _ _ h3)) ob))))
 ·cases h
  exact pK1 (zae h1 (zab (zu zC h2) (zD (zn GCode.zl (l:=a4)) (zaS (lk (sub [1,1,1,1,0,1,0] (zq Tryz.f30)) (by kernel_rfl) (zbw.okL ht n n _ _ _ _ _ _ h3)) ob))))
theorem zaP.ok {n:Nat} {t:Tab} (ht:TabOk t (run Tryz.prog own kp X n)):∀(p1:Int) (p2:zH) r,zaP t n p1 p2=some r→run Tryz.prog own kp X (n+1) 30 [(.ptr 0 0 [] 0),(I6 p1)] [(.t (zH.t p2))]=some ((.tup [(.sl false 14 (GStep.ts r.1)),(.v (.bool r.2.1))]),[(.t (zH.t r.2.2))]):=by
 intro p1 p2 r h
 obtain⟨a1,rfl⟩:∃z_,z_=p1:=⟨_,rfl⟩
 obtain⟨a2,a3⟩:=p2
 rw[zaP]at h
 rcases fk h with ⟨h1,h⟩ | ⟨h1,h⟩
 ·cases h
  exact zk Tryz.func30 (zW h1 8 (zck 1 ob)) (by kernel_rfl)
 ·rcases fk h with ⟨h2,h⟩ | ⟨h2,h⟩
  ·cases h
   exact zk Tryz.func30 (zW h1 6 (zD (zn zC (l:=a2)) (zX h1 (zi h2 ob)))) (by kernel_rfl)
  ·obtain⟨⟨a4,a5,⟨a6,a7⟩⟩,h3,h⟩:=sm h
   cases h
   exact zk Tryz.func30 (zW h1 6 (zD (zn zC (l:=a2)) (zX h1 (zi h2 (zI (zbx.ok ht n _ _ _ h3) ob))))) (by kernel_rfl)
theorem zbM.okL (ht:TabOk t call) (n:Nat):∀(k:Nat) (a1 a2:List ByteArray) (a3:Int) (r:_),zbM t n k a1 a2 a3=some r→loopN (exec (env Tryz.prog 31 Tryz.f31 call) n (sub [1,1,0,1,0,0] (zq Tryz.f31))) k (mkSt 26 26 [(0,(Sl 1 (texts a1))),(1,(Sl 1 (texts a2))),(5,(I6 a3))] [])=some (zbM.to r)
 | 0,a1,a2,a3,r,h=>by rw[zbM]at h;cases h
 | k+1,a1,a2,a3,r,h=>by
  rw[zbM]at h
  rcases fk h with ⟨h1,h⟩ | ⟨h1,h⟩
  ·obtain⟨h2,h⟩:=ck h
   obtain⟨a4,h3,h⟩:=sm h
   obtain⟨a5,h4,h⟩:=sm h
   rcases fk h with ⟨h5,h⟩ | ⟨h5,h⟩
   ·exact zF (pK1 (zD (zn zJ (l:=a1)) (zi h1 (zae h2 (zab (zu zJ h3) (zae h2 (zab (zu zJ h4) (zi (ng h5) ob)))))))) (zbM.okL ht n k _ _ _ _ h)
   ·cases h
    exact zw (pK1 (zD (zn zJ (l:=a1)) (zi h1 (zae h2 (zab (zu zJ h3) (zae h2 (zab (zu zJ h4) (zi (ng h5) ob)))))))) (fun h=>by cases h)
  ·cases h
   exact zw (pK1 (zD (zn zJ (l:=a1)) (zi h1 ob))) (fun h=>by cases h)
theorem zcz.ok {n:Nat} {t:Tab} (ht:TabOk t (run Tryz.prog own kp X n)):∀(p1:List ByteArray) (p2:List ByteArray) r,zcz t n p1 p2=some r→run Tryz.prog own kp X (n+1) 31 [(Sl 1 (texts p1)),(Sl 1 (texts p2))] []=some ((Bo r),[]):=by
 intro p1 p2 r h
 obtain⟨a1,rfl⟩:∃z_,z_=p1:=⟨_,rfl⟩
 obtain⟨a2,rfl⟩:∃z_,z_=p2:=⟨_,rfl⟩
 rw[zcz]at h
 rcases fk h with ⟨h1,h⟩ | ⟨h1,h⟩
 ·cases h
  exact zk Tryz.func31 (zD (zn zJ (l:=a1)) (zD (zn zJ (l:=a2)) (zi h1 ob))) (by kernel_rfl)
 ·obtain⟨a3 | ⟨a4,a5,a6,a7⟩,h2,h⟩:=sm h
  ·cases h
   exact zk Tryz.func31 (zD (zn zJ (l:=a1)) (zD (zn zJ (l:=a2)) (zi h1 (zaS (lk (sub [1,1,0,1,0] (zq Tryz.f31)) (by kernel_rfl) (zbM.okL ht n n _ _ _ _ h2)) ob)))) (by kernel_rfl)
  ·cases h
   exact zk Tryz.func31 (zD (zn zJ (l:=a1)) (zD (zn zJ (l:=a2)) (zi h1 (zaS (lk (sub [1,1,0,1,0] (zq Tryz.f31)) (by kernel_rfl) (zbM.okL ht n n _ _ _ _ h2)) ob)))) (by kernel_rfl)
theorem zbi.okL (ht:TabOk t call) (n:Nat):∀(k:Nat) (a1 a2:List Int) (a3:Int) (r:_),zbi t n k a1 a2 a3=some r→loopN (exec (env Tryz.prog 32 Tryz.f32 call) n (sub [1,1,0,1,0,0] (zq Tryz.f32))) k (mkSt 26 26 [(0,(Sl 1 (zA a1))),(1,(Sl 1 (zA a2))),(5,(I6 a3))] [])=some (zbi.to r)
 | 0,a1,a2,a3,r,h=>by rw[zbi]at h;cases h
 | k+1,a1,a2,a3,r,h=>by
  rw[zbi]at h
  rcases fk h with ⟨h1,h⟩ | ⟨h1,h⟩
  ·obtain⟨h2,h⟩:=ck h
   obtain⟨a4,h3,h⟩:=sm h
   obtain⟨a5,h4,h⟩:=sm h
   rcases fk h with ⟨h5,h⟩ | ⟨h5,h⟩
   ·cases h
    exact zw (pK1 (zD (zn zz (l:=a1)) (zi h1 (zae h2 (zab (zu zz h3) (zae h2 (zab (zu zz h4) (zi h5 ob)))))))) (fun h=>by cases h)
   ·exact zF (pK1 (zD (zn zz (l:=a1)) (zi h1 (zae h2 (zab (zu zz h3) (zae h2 (zab (zu zz h4) (zi h5 ob)))))))) (zbi.okL ht n k _ _ _ _ h)
  ·cases h
   exact zw (pK1 (zD (zn zz (l:=a1)) (zi h1 ob))) (fun h=>by cases h)
theorem zcT.ok {n:Nat} {t:Tab} (ht:TabOk t (run Tryz.prog own kp X n)):∀(p1:List Int) (p2:List Int) r,zcT t n p1 p2=some r→run Tryz.prog own kp X (n+1) 32 [(Sl 1 (zA p1)),(Sl 1 (zA p2))] []=some ((Bo r),[]):=by
 intro p1 p2 r h
 obtain⟨a1,rfl⟩:∃z_,z_=p1:=⟨_,rfl⟩
 obtain⟨a2,rfl⟩:∃z_,z_=p2:=⟨_,rfl⟩
 rw[zcT]at h
 rcases fk h with ⟨h1,h⟩ | ⟨h1,h⟩
 ·cases h
  exact zk Tryz.func32 (zD (zn zz (l:=a1)) (zD (zn zz (l:=a2)) (zi h1 ob))) (by kernel_rfl)
 ·obtain⟨a3 | ⟨a4,a5,a6,a7⟩,h2,h⟩:=sm h
  ·cases h
   exact zk Tryz.func32 (zD (zn zz (l:=a1)) (zD (zn zz (l:=a2)) (zi h1 (zaS (lk (sub [1,1,0,1,0] (zq Tryz.f32)) (by kernel_rfl) (zbi.okL ht n n _ _ _ _ h2)) ob)))) (by kernel_rfl)
  ·cases h
   exact zk Tryz.func32 (zD (zn zz (l:=a1)) (zD (zn zz (l:=a2)) (zi h1 (zaS (lk (sub [1,1,0,1,0] (zq Tryz.f32)) (by kernel_rfl) (zbi.okL ht n n _ _ _ _ h2)) ob)))) (by kernel_rfl)
theorem zcD.ok {n:Nat} {t:Tab} (ht:TabOk t (run Tryz.prog own kp X n)):∀(p1:zh) (p2:zh) r,zcD t n p1 p2=some r→run Tryz.prog own kp X (n+1) 28 [(.t (zh.t p1)),(.t (zh.t p2))] []=some ((Bo r),[]):=by
 intro p1 p2 r h
 obtain⟨a1,a2,a3,a4,a5⟩:=p1
 obtain⟨a6,a7,a8,a9,a10⟩:=p2
 rw[zcD]at h
 obtain⟨a11,h1,h⟩:=sm h
 cases h
 exact zk Tryz.func28 (zN (ht.zaG _ _ _ _ h1) ob) (by kernel_rfl)
theorem zdH.okL (ht:TabOk t call) (n:Nat):∀(k:Nat) (a1 a2:Int) (a3:List zh) (a4:List GPred) (a5:Int) (a6:List zh) (a7:List GPred) (r:_),zdH t n k a1 a2 a3 a4 a5 a6 a7=some r→loopN (exec (env Tryz.prog 29 Tryz.f29 call) n (sub [1,1,0,1,0,0] (zq Tryz.f29))) k (mkSt 47 47 [(2,(.ptr 2 0 [] 0)),(3,(.ptr 3 0 [] 0)),(5,(I6 a1))] [(2,(.t (.st [(.v (.int .i64 a2)),(.sl false 5 (zh.ts a3)),(.sl false 3 (GPred.ts a4))]))),(3,(.t (.st [(.v (.int .i64 a5)),(.sl false 5 (zh.ts a6)),(.sl false 3 (GPred.ts a7))])))])=some (zdH.to r)
 | 0,a1,a2,a3,a4,a5,a6,a7,r,h=>by rw[zdH]at h;cases h
 | k+1,a1,a2,a3,a4,a5,a6,a7,r,h=>by
  rw[zdH]at h
  rcases fk h with ⟨h1,h⟩ | ⟨h1,h⟩
  ·obtain⟨h2,h⟩:=ck h
   obtain⟨⟨a8,a9,a10⟩,h3,h⟩:=sm h
   obtain⟨⟨a11,a12,a13⟩,h4,h⟩:=sm h
   obtain⟨a14,h5,h⟩:=sm h
   have o7 {os} (x:Obls (env Tryz.prog 29 Tryz.f29 call) n os):=zD (zn GPred.zl (l:=a4)) (zi h1 (zae h2 (zab (zu GPred.zl h3) (zae h2 (zab (zu GPred.zl h4) (zN (ht.zb5 _ _ _ h5) x))))))
   rcases fk h with ⟨h6,h⟩ | ⟨h6,h⟩
   ·exact zF (pK1 (o7 (zi (ng h6) ob))) (zdH.okL ht n k _ _ _ _ _ _ _ _ h)
   ·cases h
    exact zw (pK1 (o7 (zi (ng h6) ob))) (fun h=>by cases h)
  ·cases h
   exact zw (pK1 (zD (zn GPred.zl (l:=a4)) (zi h1 ob))) (fun h=>by cases h)
theorem zev.ok (ht:TabOk t call) (n:Nat) (a1:Int) (a2:List zh) (a3:List GPred) (a4:Int) (a5:List zh) (a6:List GPred) (r:_) (h:zev t n a1 a2 a3 a4 a5 a6=some r):exec (env Tryz.prog 29 Tryz.f29 call) n (sub [1,1] (zq Tryz.f29)) (mkSt 47 47 [(2,(.ptr 2 0 [] 0)),(3,(.ptr 3 0 [] 0))] [(2,(.t (.st [(.v (.int .i64 a1)),(.sl false 5 (zh.ts a2)),(.sl false 3 (GPred.ts a3))]))),(3,(.t (.st [(.v (.int .i64 a4)),(.sl false 5 (zh.ts a5)),(.sl false 3 (GPred.ts a6))])))])=some (zev.to r):=by
 rw[zev]at h
 obtain⟨a7 | ⟨a8,a9,a10,a11,a12,a13,a14,a15⟩,h1,h⟩:=sm h
 ·cases h
  exact pK1 (zaS (lk (sub [1,1,0,1,0] (zq Tryz.f29)) (by kernel_rfl) (zdH.okL ht n n _ _ _ _ _ _ _ _ h1)) ob)
 ·cases h
  exact pK1 (zaS (lk (sub [1,1,0,1,0] (zq Tryz.f29)) (by kernel_rfl) (zdH.okL ht n n _ _ _ _ _ _ _ _ h1)) ob)
theorem zb5.ok {n:Nat} {t:Tab} (ht:TabOk t (run Tryz.prog own kp X n)):∀(p1:GPred) (p2:GPred) r,zb5 t n p1 p2=some r→run Tryz.prog own kp X (n+1) 29 [(.t (GPred.t p1)),(.t (GPred.t p2))] []=some ((Bo r),[]):=by
 intro p1 p2 r h
 obtain⟨a1,a2,a3⟩:=p1
 obtain⟨a4,a5,a6⟩:=p2
 rw[zb5]at h
 rcases fk h with ⟨h1,h⟩ | ⟨h1,h⟩
 ·cases h
  exact zk Tryz.func29 (zW h1 7 (zck 9 ob)) (by kernel_rfl)
 ·obtain⟨a7,h2,h⟩:=sm h
  have o8 {os} (x:Obls (env Tryz.prog 29 Tryz.f29 (run Tryz.prog own kp X n)) n os):=zW h1 5 (zN (ht.zbO _ _ _ h2) (zX h1 x))
  rcases fk h with ⟨h3,h⟩ | ⟨h3,h⟩
  ·have o18 {os} (x:Obls (env Tryz.prog 29 Tryz.f29 (run Tryz.prog own kp X n)) n os):=o8 (zy (ng h3) (zD (zn GPred.zl (l:=a3)) (zy (ng h3) (zD (zn GPred.zl (l:=a6)) (zX (ng h3) x)))))
   rcases fk h with ⟨h4,h⟩ | ⟨h4,h⟩
   ·cases h
    exact zk Tryz.func29 (o18 (zi h4 ob)) (by kernel_rfl)
   ·obtain⟨a8,rfl⟩:∃z_,z_=r:=⟨_,rfl⟩
    have h5:=h
    exact zk Tryz.func29 (o18 (zi h4 (zI (zev.ok ht n _ _ _ _ _ _ _ h5) ob))) (by kernel_rfl)
  ·cases h
   exact zk Tryz.func29 (o8 (zW (ng h3) 8 (zck 1 ob))) (by kernel_rfl)
theorem zao.okL (ht:TabOk t call) (n:Nat):∀(k:Nat) (a1 a2:List (List GCode)) (a3 a4:Int) (r:_),zao t n k a1 a2 a3 a4=some r→loopN (exec (env Tryz.prog 41 Tryz.f41 call) n (sub [1,1,0,1,0,0] (zq Tryz.f41))) k (mkSt 32 32 [(1,(Sl 1 (zbl a1))),(2,(.fn 42 [])),(15,(Sl 1 (zbl a2))),(16,(I6 a3)),(17,(I6 a4))] [])=some (zao.to r)
 | 0,a1,a2,a3,a4,r,h=>by rw[zao]at h;cases h
 | k+1,a1,a2,a3,a4,r,h=>by
  rw[zao]at h
  rcases fk h with ⟨h1,h⟩ | ⟨h1,h⟩
  ·obtain⟨h2,h⟩:=ck h
   obtain⟨a5,h3,h⟩:=sm h
   obtain⟨a6,h4,h⟩:=sm h
   obtain⟨a7,h5,h⟩:=sm h
   rcases fk h with ⟨h6,h⟩ | ⟨h6,h⟩
   ·exact zF (pK1 (zi h1 (zae h2 (zab (zu zC h3) (zae h2 (zab (zu zC h4) (zN (ht.zd7 _ _ _ h5) (zi (ng h6) ob)))))))) (zao.okL ht n k _ _ _ _ _ h)
   ·cases h
    exact zw (pK1 (zi h1 (zae h2 (zab (zu zC h3) (zae h2 (zab (zu zC h4) (zN (ht.zd7 _ _ _ h5) (zi (ng h6) ob)))))))) (fun h=>by cases h)
  ·cases h
   exact zw (pK1 (zi h1 ob)) (fun h=>by cases h)
theorem zaz.ok {n:Nat} {t:Tab} (ht:TabOk t (run Tryz.prog own kp X n)):∀(p1:List (List GCode)) (p2:List (List GCode)) r,zaz t n p1 p2=some r→run Tryz.prog own kp X (n+1) 41 [(Sl 1 (zbl p1)),(Sl 1 (zbl p2)),(.fn 42 [])] []=some ((Bo r),[]):=by
 intro p1 p2 r h
 obtain⟨a1,rfl⟩:∃z_,z_=p1:=⟨_,rfl⟩
 obtain⟨a2,rfl⟩:∃z_,z_=p2:=⟨_,rfl⟩
 rw[zaz]at h
 have o2 {os} (x:Obls (env Tryz.prog 41 Tryz.f41 (run Tryz.prog own kp X n)) n os):=zD (zn zC (l:=a1)) (zD (zn zC (l:=a2)) x)
 rcases fk h with ⟨h1,h⟩ | ⟨h1,h⟩
 ·cases h
  exact zk Tryz.func41 (o2 (zi h1 ob)) (by kernel_rfl)
 ·obtain⟨a3 | ⟨a4,a5,a6,a7,a8⟩,h2,h⟩:=sm h
  ·cases h
   exact zk Tryz.func41 (o2 (zi h1 (zD (zn zC (l:=a1)) (zaS (lk (sub [1,1,0,1,0] (zq Tryz.f41)) (by kernel_rfl) (zao.okL ht n n _ _ _ _ _ h2)) ob)))) (by kernel_rfl)
  ·cases h
   exact zk Tryz.func41 (o2 (zi h1 (zD (zn zC (l:=a1)) (zaS (lk (sub [1,1,0,1,0] (zq Tryz.f41)) (by kernel_rfl) (zao.okL ht n n _ _ _ _ _ h2)) ob)))) (by kernel_rfl)
theorem zcd.ok (ht:TabOk t call) (n:Nat) (a1 a2 a3 a4:Int) (a5:Bool) (a6:ByteArray) (a7:Bool) (a8:Int) (a9:List ByteArray) (a10:List Int) (a11 a12:Int) (a13:ByteArray) (a14 a15:List zh) (a16:Int) (a17:List zh) (a18:List GPred) (a19:List (List GStep)) (a20:List GBy) (a21:List ByteArray) (r:_) (h:zcd t n a1 a2 a3 a4 a5 a6 a7 a8 a9 a10 a11 a12 a13 a14 a15 a16 a17 a18 a19 a20 a21=some r):exec (env Tryz.prog 55 Tryz.f55 call) n (sub [1,1,1,1,1,1,0,1,0,1,1,1,1,1,1,1,1,1,1,1,1,1,1,1,1,1,1,1] (zq Tryz.f55)) (mkSt 312 312 [(1,(.ptr 1 0 [] 0)),(3,(I6 a1)),(4,(I6 a2)),(5,(I6 a3)),(6,(I6 a4)),(7,(Bo a5)),(30,(Sr a6)),(178,(Bo a7))] [(1,(.t (.st [(.v (.int .i64 a8)),(.sl false 1 (texts a9)),(.sl false 1 (zA a10)),(.st [(.v (.int .i64 a11)),(.v (.int .i64 a12)),(.v (.string a13)),(.sl false 5 (zh.ts a14)),(.sl false 5 (zh.ts a15))]),(.st [(.v (.int .i64 a16)),(.sl false 5 (zh.ts a17)),(.sl false 3 (GPred.ts a18))]),(.sl false 1 (zo a19)),(.sl false 4 (GBy.ts a20)),(.sl false 1 (texts a21))])))])=some (zcd.to r):=by
 rw[zcd]at h
 rcases fk h with ⟨h1,h⟩ | ⟨h1,h⟩
 ·rcases fk h with ⟨h2,h⟩ | ⟨h2,h⟩
  ·rcases fk h with ⟨h3,h⟩ | ⟨h3,h⟩
   ·cases h
    exact pK1 (zi h1 (zy h2 (zW h3 7 ob)))
   ·cases h
    exact pK1 (zi h1 (zy h2 (zW h3 7 ob)))
  ·cases h
   exact pK1 (zi h1 (zy h2 (zW (rfl:false=false) 7 ob)))
 ·rcases fk h with ⟨h4,h⟩ | ⟨h4,h⟩
  ·rcases fk h with ⟨h5,h⟩ | ⟨h5,h⟩
   ·cases h
    exact pK1 (zi h1 (zi h4 (zW h5 7 ob)))
   ·cases h
    exact pK1 (zi h1 (zi h4 (zW h5 7 ob)))
  ·have o2 {os} (x:Obls (env Tryz.prog 55 Tryz.f55 call) n os):=zi h1 (zi h4 x)
   rcases fk h with ⟨h6,h⟩ | ⟨h6,h⟩
   ·rcases fk h with ⟨h7,h⟩ | ⟨h7,h⟩
    ·have o6 {os} (x:Obls (env Tryz.prog 55 Tryz.f55 call) n os):=o2 (zi h6 (zy h7 x))
     rcases fk h with ⟨h8,h⟩ | ⟨h8,h⟩
     ·obtain⟨h9,h⟩:=ck h
      obtain⟨a22,h10,h⟩:=sm h
      have o14 {os} (x:Obls (env Tryz.prog 55 Tryz.f55 call) n os):=o6 (zy h8 (zae h9 (zab (zu zz h10) (zy h8 x))))
      rcases fk h with ⟨h11,h⟩ | ⟨h11,h⟩
      ·obtain⟨h12,h⟩:=ck h
       obtain⟨a23,h13,h⟩:=sm h
       have o22 {os} (x:Obls (env Tryz.prog 55 Tryz.f55 call) n os):=o14 (zy h11 (zae h12 (zab (zu zz h13) (zy h11 x))))
       rcases fk h with ⟨h14,h⟩ | ⟨h14,h⟩
       ·have o33 {os} (x:Obls (env Tryz.prog 55 Tryz.f55 call) n os):=o22 (zW h14 5 (zi h11 (zi h14 (zi h11 (zck 3 x)))))
        rcases fk h with ⟨h15,h⟩ | ⟨h15,h⟩
        ·cases h
         exact pK1 (o33 (zah h15 (zck 1 (zi h15 (zck 1 ob)))))
        ·rcases fk h with ⟨h16,h⟩ | ⟨h16,h⟩
         ·cases h
          exact pK1 (o33 (zy h15 (zy h16 (zae h9 (zab (zu zz h10) (zX h16 (zi h15 (zi h16 (zck 1 (zi h15 (zck 1 ob)))))))))))
         ·cases h
          exact pK1 (o33 (zy h15 (zW h16 5 (zi h15 (zi h16 (zck 1 (zi h15 (zck 1 ob))))))))
       ·have o32 {os} (x:Obls (env Tryz.prog 55 Tryz.f55 call) n os):=o22 (zy h14 (zae h12 (zab (zu zz h13) (zX h14 (zi h11 (zi h14 (zi h11 x)))))))
        rcases fk h with ⟨h17,h⟩ | ⟨h17,h⟩
        ·rcases fk h with ⟨h18,h⟩ | ⟨h18,h⟩
         ·cases h
          exact pK1 (o32 (zy h17 (zah h18 (zi h17 (zi h18 (zi h17 ob))))))
         ·rcases fk h with ⟨h19,h⟩ | ⟨h19,h⟩
          ·cases h
           exact pK1 (o32 (zy h17 (zy h18 (zy h19 (zae h9 (zab (zu zz h10) (zX h19 (zi h18 (zi h19 (zi h17 (zi h18 (zi h17 ob))))))))))))
          ·cases h
           exact pK1 (o32 (zy h17 (zy h18 (zW h19 5 (zi h18 (zi h19 (zi h17 (zi h18 (zi h17 ob)))))))))
        ·cases h
         exact pK1 (o32 (zW h17 5 ob))
      ·cases h
       exact pK1 (o14 (zW h11 8 (zW (rfl:false=false) 5 ob)))
     ·cases h
      exact pK1 (o6 (zW h8 6 (zW (rfl:false=false) 13 ob)))
    ·cases h
     exact pK1 (o2 (zi h6 (zy h7 (zW (rfl:false=false) 19 ob))))
   ·rcases fk h with ⟨h20,h⟩ | ⟨h20,h⟩
    ·rcases fk h with ⟨h21,h⟩ | ⟨h21,h⟩
     ·cases h
      exact pK1 (o2 (zi h6 (zi h20 (zy h21 ob))))
     ·cases h
      exact pK1 (o2 (zi h6 (zi h20 (zy h21 ob))))
    ·have o4 {os} (x:Obls (env Tryz.prog 55 Tryz.f55 call) n os):=o2 (zi h6 (zi h20 x))
     rcases fk h with ⟨h22,h⟩ | ⟨h22,h⟩
     ·rcases fk h with ⟨h23,h⟩ | ⟨h23,h⟩
      ·cases h
       exact pK1 (o4 (zi h22 (zy h23 ob)))
      ·cases h
       exact pK1 (o4 (zi h22 (zy h23 ob)))
     ·rcases fk h with ⟨h24,h⟩ | ⟨h24,h⟩
      ·rcases fk h with ⟨h25,h⟩ | ⟨h25,h⟩
       ·cases h
        exact pK1 (o4 (zi h22 (zi h24 (zy h25 ob))))
       ·cases h
        exact pK1 (o4 (zi h22 (zi h24 (zy h25 ob))))
      ·rcases fk h with ⟨h26,h⟩ | ⟨h26,h⟩
       ·rcases fk h with ⟨h27,h⟩ | ⟨h27,h⟩
        ·have o12 {os} (x:Obls (env Tryz.prog 55 Tryz.f55 call) n os):=o4 (zi h22 (zi h24 (zi h26 (zW h27 5 x))))
         rcases fk h with ⟨h28,h⟩ | ⟨h28,h⟩
         ·rcases fk h with ⟨h29,h⟩ | ⟨h29,h⟩
          ·obtain⟨a24,h30,h⟩:=sm h
           cases h
           exact pK1 (o12 (zah h28 (zy h29 (zN (ht.zdp _ _ h30) (zi h29 ob)))))
          ·cases h
           exact pK1 (o12 (zah h28 (zah h29 ob)))
         ·cases h
          exact pK1 (o12 (zah h28 (zah (rfl:false=false) ob)))
        ·cases h
         exact pK1 (o4 (zi h22 (zi h24 (zi h26 (zW h27 5 (zW (rfl:false=false) 8 ob))))))
       ·cases h
        exact pK1 (o4 (zi h22 (zi h24 (zi h26 ob))))
theorem zdv.ok (ht:TabOk t call) (n:Nat) (a1 a2 a3 a4:Int) (a5:Bool) (a6:ByteArray) (a7:Bool) (a8:Int) (a9:List ByteArray) (a10:List Int) (a11 a12:Int) (a13:ByteArray) (a14 a15:List zh) (a16:Int) (a17:List zh) (a18:List GPred) (a19:List (List GStep)) (a20:List GBy) (a21:List ByteArray) (r:_) (h:zdv t n a1 a2 a3 a4 a5 a6 a7 a8 a9 a10 a11 a12 a13 a14 a15 a16 a17 a18 a19 a20 a21=some r):exec (env Tryz.prog 55 Tryz.f55 call) n (sub [1,1,1,1,1,1,0,1,0,1,1,1,1,1,1,1,1,1,1,1,1,1,1,1,1,1] (zq Tryz.f55)) (mkSt 312 312 [(1,(.ptr 1 0 [] 0)),(3,(I6 a1)),(4,(I6 a2)),(5,(I6 a3)),(6,(I6 a4)),(7,(Bo a5)),(30,(Sr a6)),(164,(Bo a7))] [(1,(.t (.st [(.v (.int .i64 a8)),(.sl false 1 (texts a9)),(.sl false 1 (zA a10)),(.st [(.v (.int .i64 a11)),(.v (.int .i64 a12)),(.v (.string a13)),(.sl false 5 (zh.ts a14)),(.sl false 5 (zh.ts a15))]),(.st [(.v (.int .i64 a16)),(.sl false 5 (zh.ts a17)),(.sl false 3 (GPred.ts a18))]),(.sl false 1 (zo a19)),(.sl false 4 (GBy.ts a20)),(.sl false 1 (texts a21))])))])=some (zdv.to r):=by
 rw[zdv]at h
 rcases fk h with ⟨h1,h⟩ | ⟨h1,h⟩
 ·rcases fk h with ⟨h2,h⟩ | ⟨h2,h⟩
  ·cases h
   exact pK1 (zi h1 (zW h2 7 ob))
  ·cases h
   exact pK1 (zi h1 (zW h2 7 ob))
 ·rcases fk h with ⟨h3,h⟩ | ⟨h3,h⟩
  ·have h4:=h
   rcases r with a22 | a23
   ·exact pK1 (zi h1 (zi h3 (zI (zcd.ok ht n _ _ _ _ _ _ _ _ _ _ _ _ _ _ _ _ _ _ _ _ _ _ h4) ob)))
   ·exact pK1 (zi h1 (zi h3 (zI (zcd.ok ht n _ _ _ _ _ _ _ _ _ _ _ _ _ _ _ _ _ _ _ _ _ _ h4) ob)))
  ·rcases fk h with ⟨h5,h⟩ | ⟨h5,h⟩
   ·have h6:=h
    rcases r with a24 | a25
    ·exact pK1 (zi h1 (zi h3 (zi h5 (zI (zcd.ok ht n _ _ _ _ _ _ _ _ _ _ _ _ _ _ _ _ _ _ _ _ _ _ h6) ob))))
    ·exact pK1 (zi h1 (zi h3 (zi h5 (zI (zcd.ok ht n _ _ _ _ _ _ _ _ _ _ _ _ _ _ _ _ _ _ _ _ _ _ h6) ob))))
   ·rcases fk h with ⟨h7,h⟩ | ⟨h7,h⟩
    ·have h8:=h
     rcases r with a26 | a27
     ·exact pK1 (zi h1 (zi h3 (zi h5 (zi h7 (zI (zcd.ok ht n _ _ _ _ _ _ _ _ _ _ _ _ _ _ _ _ _ _ _ _ _ _ h8) ob)))))
     ·exact pK1 (zi h1 (zi h3 (zi h5 (zi h7 (zI (zcd.ok ht n _ _ _ _ _ _ _ _ _ _ _ _ _ _ _ _ _ _ _ _ _ _ h8) ob)))))
    ·have h9:=h
     rcases r with a28 | a29
     ·exact pK1 (zi h1 (zi h3 (zi h5 (zi h7 (zI (zcd.ok ht n _ _ _ _ _ _ _ _ _ _ _ _ _ _ _ _ _ _ _ _ _ _ h9) ob)))))
     ·exact pK1 (zi h1 (zi h3 (zi h5 (zi h7 (zI (zcd.ok ht n _ _ _ _ _ _ _ _ _ _ _ _ _ _ _ _ _ _ _ _ _ _ h9) ob)))))
theorem zbk.ok (ht:TabOk t call) (n:Nat) (a1 a2 a3 a4:Int) (a5:Bool) (a6:ByteArray) (a7:Bool) (a8:Int) (a9:List ByteArray) (a10:List Int) (a11 a12:Int) (a13:ByteArray) (a14 a15:List zh) (a16:Int) (a17:List zh) (a18:List GPred) (a19:List (List GStep)) (a20:List GBy) (a21:List ByteArray) (r:_) (h:zbk t n a1 a2 a3 a4 a5 a6 a7 a8 a9 a10 a11 a12 a13 a14 a15 a16 a17 a18 a19 a20 a21=some r):exec (env Tryz.prog 55 Tryz.f55 call) n (sub [1,1,1,1,1,1,0,1,0,1,1,1,1,1,1,1,1,1] (zq Tryz.f55)) (mkSt 312 312 [(1,(.ptr 1 0 [] 0)),(3,(I6 a1)),(4,(I6 a2)),(5,(I6 a3)),(6,(I6 a4)),(7,(Bo a5)),(30,(Sr a6)),(78,(Bo a7))] [(1,(.t (.st [(.v (.int .i64 a8)),(.sl false 1 (texts a9)),(.sl false 1 (zA a10)),(.st [(.v (.int .i64 a11)),(.v (.int .i64 a12)),(.v (.string a13)),(.sl false 5 (zh.ts a14)),(.sl false 5 (zh.ts a15))]),(.st [(.v (.int .i64 a16)),(.sl false 5 (zh.ts a17)),(.sl false 3 (GPred.ts a18))]),(.sl false 1 (zo a19)),(.sl false 4 (GBy.ts a20)),(.sl false 1 (texts a21))])))])=some (zbk.to r):=by
 rw[zbk]at h
 rcases fk h with ⟨h1,h⟩ | ⟨h1,h⟩
 ·rcases fk h with ⟨h2,h⟩ | ⟨h2,h⟩
  ·cases h
   exact pK1 (zi h1 (zW h2 7 ob))
  ·cases h
   exact pK1 (zi h1 (zW h2 7 ob))
 ·rcases fk h with ⟨h3,h⟩ | ⟨h3,h⟩
  ·rcases fk h with ⟨h4,h⟩ | ⟨h4,h⟩
   ·rcases fk h with ⟨h5,h⟩ | ⟨h5,h⟩
    ·cases h
     exact pK1 (zi h1 (zi h3 (zy h4 (zW h5 7 ob))))
    ·cases h
     exact pK1 (zi h1 (zi h3 (zy h4 (zW h5 7 ob))))
   ·cases h
    exact pK1 (zi h1 (zi h3 (zy h4 (zW (rfl:false=false) 7 ob))))
  ·have o2 {os} (x:Obls (env Tryz.prog 55 Tryz.f55 call) n os):=zi h1 (zi h3 x)
   rcases fk h with ⟨h6,h⟩ | ⟨h6,h⟩
   ·rcases fk h with ⟨h7,h⟩ | ⟨h7,h⟩
    ·have o10 {os} (x:Obls (env Tryz.prog 55 Tryz.f55 call) n os):=o2 (zi h6 (zW h7 7 x))
     rcases fk h with ⟨h8,h⟩ | ⟨h8,h⟩
     ·obtain⟨h9,h⟩:=ck h
      obtain⟨a22,h10,h⟩:=sm h
      have o18 {os} (x:Obls (env Tryz.prog 55 Tryz.f55 call) n os):=o10 (zy h8 (zae h9 (zab (zu zz h10) (zy h8 x))))
      rcases fk h with ⟨h11,h⟩ | ⟨h11,h⟩
      ·obtain⟨h12,h⟩:=ck h
       obtain⟨a23,h13,h⟩:=sm h
       rcases fk h with ⟨h14,h⟩ | ⟨h14,h⟩
       ·cases h
        exact pK1 (o18 (zy h11 (zae h12 (zab (zu zz h13) (zy h11 (zW h14 9 (zi h11 (zi h14 (zi h11 ob)))))))))
       ·cases h
        exact pK1 (o18 (zy h11 (zae h12 (zab (zu zz h13) (zy h11 (zy h14 (zae h9 (zab (zu zz h10) (zah h14 (zae h12 (zab (zu zz h13) (zX h14 (zi h11 (zi h14 (zi h11 ob)))))))))))))))
      ·cases h
       exact pK1 (o18 (zW h11 8 ob))
     ·cases h
      exact pK1 (o10 (zW h8 6 (zW (rfl:false=false) 8 ob)))
    ·cases h
     exact pK1 (o2 (zi h6 (zW h7 7 (zW (rfl:false=false) 14 ob))))
   ·rcases fk h with ⟨h15,h⟩ | ⟨h15,h⟩
    ·rcases fk h with ⟨h16,h⟩ | ⟨h16,h⟩
     ·rcases fk h with ⟨h17,h⟩ | ⟨h17,h⟩
      ·obtain⟨a24,h18,h⟩:=sm h
       cases h
       exact pK1 (o2 (zi h6 (zi h15 (zW h16 7 (zy h17 (zN (ht.zdc _ _ h18) (zi h17 ob)))))))
      ·cases h
       exact pK1 (o2 (zi h6 (zi h15 (zW h16 7 (zah h17 ob)))))
     ·cases h
      exact pK1 (o2 (zi h6 (zi h15 (zW h16 7 (zah (rfl:false=false) ob)))))
    ·rcases fk h with ⟨h19,h⟩ | ⟨h19,h⟩
     ·have h20:=h
      rcases r with a25 | a26
      ·exact pK1 (o2 (zi h6 (zi h15 (zi h19 (zI (zdv.ok ht n _ _ _ _ _ _ _ _ _ _ _ _ _ _ _ _ _ _ _ _ _ _ h20) ob)))))
      ·exact pK1 (o2 (zi h6 (zi h15 (zi h19 (zI (zdv.ok ht n _ _ _ _ _ _ _ _ _ _ _ _ _ _ _ _ _ _ _ _ _ _ h20) ob)))))
     ·rcases fk h with ⟨h21,h⟩ | ⟨h21,h⟩
      ·have h22:=h
       rcases r with a27 | a28
       ·exact pK1 (o2 (zi h6 (zi h15 (zi h19 (zi h21 (zI (zdv.ok ht n _ _ _ _ _ _ _ _ _ _ _ _ _ _ _ _ _ _ _ _ _ _ h22) ob))))))
       ·exact pK1 (o2 (zi h6 (zi h15 (zi h19 (zi h21 (zI (zdv.ok ht n _ _ _ _ _ _ _ _ _ _ _ _ _ _ _ _ _ _ _ _ _ _ h22) ob))))))
      ·have h23:=h
       rcases r with a29 | a30
       ·exact pK1 (o2 (zi h6 (zi h15 (zi h19 (zi h21 (zI (zdv.ok ht n _ _ _ _ _ _ _ _ _ _ _ _ _ _ _ _ _ _ _ _ _ _ h23) ob))))))
       ·exact pK1 (o2 (zi h6 (zi h15 (zi h19 (zi h21 (zI (zdv.ok ht n _ _ _ _ _ _ _ _ _ _ _ _ _ _ _ _ _ _ _ _ _ _ h23) ob))))))
theorem zd5.ok (ht:TabOk t call) (n:Nat) (a1 a2 a3 a4:Int) (a5:Bool) (a6:ByteArray) (a7:Bool) (a8:Int) (a9:List ByteArray) (a10:List Int) (a11 a12:Int) (a13:ByteArray) (a14 a15:List zh) (a16:Int) (a17:List zh) (a18:List GPred) (a19:List (List GStep)) (a20:List GBy) (a21:List ByteArray) (r:_) (h:zd5 t n a1 a2 a3 a4 a5 a6 a7 a8 a9 a10 a11 a12 a13 a14 a15 a16 a17 a18 a19 a20 a21=some r):exec (env Tryz.prog 55 Tryz.f55 call) n (sub [1,1,1,1,1,1,0,1,0,1,1,1,1,1,1,1] (zq Tryz.f55)) (mkSt 312 312 [(1,(.ptr 1 0 [] 0)),(3,(I6 a1)),(4,(I6 a2)),(5,(I6 a3)),(6,(I6 a4)),(7,(Bo a5)),(30,(Sr a6)),(65,(Bo a7))] [(1,(.t (.st [(.v (.int .i64 a8)),(.sl false 1 (texts a9)),(.sl false 1 (zA a10)),(.st [(.v (.int .i64 a11)),(.v (.int .i64 a12)),(.v (.string a13)),(.sl false 5 (zh.ts a14)),(.sl false 5 (zh.ts a15))]),(.st [(.v (.int .i64 a16)),(.sl false 5 (zh.ts a17)),(.sl false 3 (GPred.ts a18))]),(.sl false 1 (zo a19)),(.sl false 4 (GBy.ts a20)),(.sl false 1 (texts a21))])))])=some (zd5.to r):=by
 rw[zd5]at h
 rcases fk h with ⟨h1,h⟩ | ⟨h1,h⟩
 ·rcases fk h with ⟨h2,h⟩ | ⟨h2,h⟩
  ·cases h
   exact pK1 (zi h1 (zW h2 7 ob))
  ·cases h
   exact pK1 (zi h1 (zW h2 7 ob))
 ·rcases fk h with ⟨h3,h⟩ | ⟨h3,h⟩
  ·have h4:=h
   rcases r with a22 | a23
   ·exact pK1 (zi h1 (zi h3 (zI (zbk.ok ht n _ _ _ _ _ _ _ _ _ _ _ _ _ _ _ _ _ _ _ _ _ _ h4) ob)))
   ·exact pK1 (zi h1 (zi h3 (zI (zbk.ok ht n _ _ _ _ _ _ _ _ _ _ _ _ _ _ _ _ _ _ _ _ _ _ h4) ob)))
  ·rcases fk h with ⟨h5,h⟩ | ⟨h5,h⟩
   ·have h6:=h
    rcases r with a24 | a25
    ·exact pK1 (zi h1 (zi h3 (zi h5 (zI (zbk.ok ht n _ _ _ _ _ _ _ _ _ _ _ _ _ _ _ _ _ _ _ _ _ _ h6) ob))))
    ·exact pK1 (zi h1 (zi h3 (zi h5 (zI (zbk.ok ht n _ _ _ _ _ _ _ _ _ _ _ _ _ _ _ _ _ _ _ _ _ _ h6) ob))))
   ·rcases fk h with ⟨h7,h⟩ | ⟨h7,h⟩
    ·have h8:=h
     rcases r with a26 | a27
     ·exact pK1 (zi h1 (zi h3 (zi h5 (zi h7 (zI (zbk.ok ht n _ _ _ _ _ _ _ _ _ _ _ _ _ _ _ _ _ _ _ _ _ _ h8) ob)))))
     ·exact pK1 (zi h1 (zi h3 (zi h5 (zi h7 (zI (zbk.ok ht n _ _ _ _ _ _ _ _ _ _ _ _ _ _ _ _ _ _ _ _ _ _ h8) ob)))))
    ·rcases fk h with ⟨h9,h⟩ | ⟨h9,h⟩
     ·have h10:=h
      rcases r with a28 | a29
      ·exact pK1 (zi h1 (zi h3 (zi h5 (zi h7 (zi h9 (zI (zbk.ok ht n _ _ _ _ _ _ _ _ _ _ _ _ _ _ _ _ _ _ _ _ _ _ h10) ob))))))
      ·exact pK1 (zi h1 (zi h3 (zi h5 (zi h7 (zi h9 (zI (zbk.ok ht n _ _ _ _ _ _ _ _ _ _ _ _ _ _ _ _ _ _ _ _ _ _ h10) ob))))))
     ·have h11:=h
      rcases r with a30 | a31
      ·exact pK1 (zi h1 (zi h3 (zi h5 (zi h7 (zi h9 (zI (zbk.ok ht n _ _ _ _ _ _ _ _ _ _ _ _ _ _ _ _ _ _ _ _ _ _ h11) ob))))))
      ·exact pK1 (zi h1 (zi h3 (zi h5 (zi h7 (zi h9 (zI (zbk.ok ht n _ _ _ _ _ _ _ _ _ _ _ _ _ _ _ _ _ _ _ _ _ _ h11) ob))))))
theorem zaJ.ok (ht:TabOk t call) (n:Nat) (a1 a2 a3 a4:Int) (a5:Bool) (a6:ByteArray) (a7:Bool) (a8:Int) (a9:List ByteArray) (a10:List Int) (a11 a12:Int) (a13:ByteArray) (a14 a15:List zh) (a16:Int) (a17:List zh) (a18:List GPred) (a19:List (List GStep)) (a20:List GBy) (a21:List ByteArray) (r:_) (h:zaJ t n a1 a2 a3 a4 a5 a6 a7 a8 a9 a10 a11 a12 a13 a14 a15 a16 a17 a18 a19 a20 a21=some r):exec (env Tryz.prog 55 Tryz.f55 call) n (sub [1,1,1,1,1,1,0,1,0,1,1,1,1,1] (zq Tryz.f55)) (mkSt 312 312 [(1,(.ptr 1 0 [] 0)),(3,(I6 a1)),(4,(I6 a2)),(5,(I6 a3)),(6,(I6 a4)),(7,(Bo a5)),(30,(Sr a6)),(51,(Bo a7))] [(1,(.t (.st [(.v (.int .i64 a8)),(.sl false 1 (texts a9)),(.sl false 1 (zA a10)),(.st [(.v (.int .i64 a11)),(.v (.int .i64 a12)),(.v (.string a13)),(.sl false 5 (zh.ts a14)),(.sl false 5 (zh.ts a15))]),(.st [(.v (.int .i64 a16)),(.sl false 5 (zh.ts a17)),(.sl false 3 (GPred.ts a18))]),(.sl false 1 (zo a19)),(.sl false 4 (GBy.ts a20)),(.sl false 1 (texts a21))])))])=some (zaJ.to r):=by
 rw[zaJ]at h
 rcases fk h with ⟨h1,h⟩ | ⟨h1,h⟩
 ·cases h
  exact pK1 (zi h1 ob)
 ·rcases fk h with ⟨h2,h⟩ | ⟨h2,h⟩
  ·have h3:=h
   rcases r with a22 | a23
   ·exact pK1 (zi h1 (zi h2 (zI (zd5.ok ht n _ _ _ _ _ _ _ _ _ _ _ _ _ _ _ _ _ _ _ _ _ _ h3) ob)))
   ·exact pK1 (zi h1 (zi h2 (zI (zd5.ok ht n _ _ _ _ _ _ _ _ _ _ _ _ _ _ _ _ _ _ _ _ _ _ h3) ob)))
  ·have h4:=h
   rcases r with a24 | a25
   ·exact pK1 (zi h1 (zi h2 (zI (zd5.ok ht n _ _ _ _ _ _ _ _ _ _ _ _ _ _ _ _ _ _ _ _ _ _ h4) ob)))
   ·exact pK1 (zi h1 (zi h2 (zI (zd5.ok ht n _ _ _ _ _ _ _ _ _ _ _ _ _ _ _ _ _ _ _ _ _ _ h4) ob)))
theorem zc0.ok (ht:TabOk t call) (n:Nat) (a1 a2 a3 a4:Int) (a5:Bool) (a6:ByteArray) (a7:Bool) (a8:Int) (a9:List ByteArray) (a10:List Int) (a11 a12:Int) (a13:ByteArray) (a14 a15:List zh) (a16:Int) (a17:List zh) (a18:List GPred) (a19:List (List GStep)) (a20:List GBy) (a21:List ByteArray) (r:_) (h:zc0 t n a1 a2 a3 a4 a5 a6 a7 a8 a9 a10 a11 a12 a13 a14 a15 a16 a17 a18 a19 a20 a21=some r):exec (env Tryz.prog 55 Tryz.f55 call) n (sub [1,1,1,1,1,1,0,1,0,1,1,1] (zq Tryz.f55)) (mkSt 312 312 [(1,(.ptr 1 0 [] 0)),(3,(I6 a1)),(4,(I6 a2)),(5,(I6 a3)),(6,(I6 a4)),(7,(Bo a5)),(30,(Sr a6)),(33,(Bo a7))] [(1,(.t (.st [(.v (.int .i64 a8)),(.sl false 1 (texts a9)),(.sl false 1 (zA a10)),(.st [(.v (.int .i64 a11)),(.v (.int .i64 a12)),(.v (.string a13)),(.sl false 5 (zh.ts a14)),(.sl false 5 (zh.ts a15))]),(.st [(.v (.int .i64 a16)),(.sl false 5 (zh.ts a17)),(.sl false 3 (GPred.ts a18))]),(.sl false 1 (zo a19)),(.sl false 4 (GBy.ts a20)),(.sl false 1 (texts a21))])))])=some (zc0.to r):=by
 rw[zc0]at h
 rcases fk h with ⟨h1,h⟩ | ⟨h1,h⟩
 ·rcases fk h with ⟨h2,h⟩ | ⟨h2,h⟩
  ·rcases fk h with ⟨h3,h⟩ | ⟨h3,h⟩
   ·obtain⟨a22,h4,h⟩:=sm h
    cases h
    exact pK1 (zi h1 (zy h2 (zy h3 (zN (ht.zdc _ _ h4) (zi h3 ob)))))
   ·cases h
    exact pK1 (zi h1 (zy h2 (zah h3 ob)))
  ·cases h
   exact pK1 (zi h1 (zy h2 (zah (rfl:false=false) ob)))
 ·rcases fk h with ⟨h5,h⟩ | ⟨h5,h⟩
  ·have h6:=h
   rcases r with a23 | a24
   ·exact pK1 (zi h1 (zi h5 (zI (zaJ.ok ht n _ _ _ _ _ _ _ _ _ _ _ _ _ _ _ _ _ _ _ _ _ _ h6) ob)))
   ·exact pK1 (zi h1 (zi h5 (zI (zaJ.ok ht n _ _ _ _ _ _ _ _ _ _ _ _ _ _ _ _ _ _ _ _ _ _ h6) ob)))
  ·have o2 {os} (x:Obls (env Tryz.prog 55 Tryz.f55 call) n os):=zi h1 (zi h5 x)
   rcases fk h with ⟨h7,h⟩ | ⟨h7,h⟩
   ·have h8:=h
    rcases r with a25 | a26
    ·exact pK1 (o2 (zi h7 (zI (zaJ.ok ht n _ _ _ _ _ _ _ _ _ _ _ _ _ _ _ _ _ _ _ _ _ _ h8) ob)))
    ·exact pK1 (o2 (zi h7 (zI (zaJ.ok ht n _ _ _ _ _ _ _ _ _ _ _ _ _ _ _ _ _ _ _ _ _ _ h8) ob)))
   ·rcases fk h with ⟨h9,h⟩ | ⟨h9,h⟩
    ·have h10:=h
     rcases r with a27 | a28
     ·exact pK1 (o2 (zi h7 (zi h9 (zI (zaJ.ok ht n _ _ _ _ _ _ _ _ _ _ _ _ _ _ _ _ _ _ _ _ _ _ h10) ob))))
     ·exact pK1 (o2 (zi h7 (zi h9 (zI (zaJ.ok ht n _ _ _ _ _ _ _ _ _ _ _ _ _ _ _ _ _ _ _ _ _ _ h10) ob))))
    ·rcases fk h with ⟨h11,h⟩ | ⟨h11,h⟩
     ·have h12:=h
      rcases r with a29 | a30
      ·exact pK1 (o2 (zi h7 (zi h9 (zi h11 (zI (zaJ.ok ht n _ _ _ _ _ _ _ _ _ _ _ _ _ _ _ _ _ _ _ _ _ _ h12) ob)))))
      ·exact pK1 (o2 (zi h7 (zi h9 (zi h11 (zI (zaJ.ok ht n _ _ _ _ _ _ _ _ _ _ _ _ _ _ _ _ _ _ _ _ _ _ h12) ob)))))
     ·rcases fk h with ⟨h13,h⟩ | ⟨h13,h⟩
      ·have h14:=h
       rcases r with a31 | a32
       ·exact pK1 (o2 (zi h7 (zi h9 (zi h11 (zi h13 (zI (zaJ.ok ht n _ _ _ _ _ _ _ _ _ _ _ _ _ _ _ _ _ _ _ _ _ _ h14) ob))))))
       ·exact pK1 (o2 (zi h7 (zi h9 (zi h11 (zi h13 (zI (zaJ.ok ht n _ _ _ _ _ _ _ _ _ _ _ _ _ _ _ _ _ _ _ _ _ _ h14) ob))))))
      ·rcases fk h with ⟨h15,h⟩ | ⟨h15,h⟩
       ·have h16:=h
        rcases r with a33 | a34
        ·exact pK1 (o2 (zi h7 (zi h9 (zi h11 (zi h13 (zi h15 (zI (zaJ.ok ht n _ _ _ _ _ _ _ _ _ _ _ _ _ _ _ _ _ _ _ _ _ _ h16) ob)))))))
        ·exact pK1 (o2 (zi h7 (zi h9 (zi h11 (zi h13 (zi h15 (zI (zaJ.ok ht n _ _ _ _ _ _ _ _ _ _ _ _ _ _ _ _ _ _ _ _ _ _ h16) ob)))))))
       ·have h17:=h
        rcases r with a35 | a36
        ·exact pK1 (o2 (zi h7 (zi h9 (zi h11 (zi h13 (zi h15 (zI (zaJ.ok ht n _ _ _ _ _ _ _ _ _ _ _ _ _ _ _ _ _ _ _ _ _ _ h17) ob)))))))
        ·exact pK1 (o2 (zi h7 (zi h9 (zi h11 (zi h13 (zi h15 (zI (zaJ.ok ht n _ _ _ _ _ _ _ _ _ _ _ _ _ _ _ _ _ _ _ _ _ _ h17) ob)))))))
theorem zai.ok {n:Nat} {t:Tab} (ht:TabOk t (run Tryz.prog own kp X n)):∀(p1:GStep) r,zai t n p1=some r→run Tryz.prog own kp X (n+1) 55 [(.t (GStep.t p1))] []=some ((Bo r),[]):=by
 intro p1 r h
 obtain⟨a1,a2,a3,⟨a4,a5,a6,a7,a8⟩,⟨a9,a10,a11⟩,a12,a13,a14⟩:=p1
 rw[zai]at h
 obtain⟨a15,h1,h⟩:=sm h
 have o5 {os} (x:Obls (env Tryz.prog 55 Tryz.f55 (run Tryz.prog own kp X n)) n os):=zD (zn zJ (l:=a2)) (zD (zn zz (l:=a3)) (zD (zn zx (l:=a12)) (zD (zn GBy.zl (l:=a13)) (zN (ht.zaU _ _ h1) x))))
 rcases fk h with ⟨h2,h⟩ | ⟨h2,h⟩
 ·cases h
  exact zk Tryz.func55 (o5 (zi h2 ob)) (by kernel_rfl)
 ·rcases fk h with ⟨h3,h⟩ | ⟨h3,h⟩
  ·obtain⟨a16 | a17,h4,h⟩:=sm h
   ·cases h
    exact zk Tryz.func55 (o5 (zi h2 (zi h3 (zI (zc0.ok ht n _ _ _ _ _ _ _ _ _ _ _ _ _ _ _ _ _ _ _ _ _ _ h4) ob)))) (by kernel_rfl)
   ·cases h
    exact zk Tryz.func55 (o5 (zi h2 (zi h3 (zI (zc0.ok ht n _ _ _ _ _ _ _ _ _ _ _ _ _ _ _ _ _ _ _ _ _ _ h4) ob)))) (by kernel_rfl)
  ·obtain⟨a18 | a19,h5,h⟩:=sm h
   ·cases h
    exact zk Tryz.func55 (o5 (zi h2 (zi h3 (zI (zc0.ok ht n _ _ _ _ _ _ _ _ _ _ _ _ _ _ _ _ _ _ _ _ _ _ h5) ob)))) (by kernel_rfl)
   ·cases h
    exact zk Tryz.func55 (o5 (zi h2 (zi h3 (zI (zc0.ok ht n _ _ _ _ _ _ _ _ _ _ _ _ _ _ _ _ _ _ _ _ _ _ h5) ob)))) (by kernel_rfl)
theorem zbN.okL (ht:TabOk t call) (n:Nat):∀(k:Nat) (a1:List ByteArray) (a2:Int) (r:_),zbN t n k a1 a2=some r→loopN (exec (env Tryz.prog 56 Tryz.f56 call) n (sub [1,0,1,0,0] (zq Tryz.f56))) k (mkSt 19 19 [(0,(Sl 1 (texts a1))),(3,(I6 a2))] [])=some (zbN.to r)
 | 0,a1,a2,r,h=>by rw[zbN]at h;cases h
 | k+1,a1,a2,r,h=>by
  rw[zbN]at h
  rcases fk h with ⟨h1,h⟩ | ⟨h1,h⟩
  ·obtain⟨h2,h⟩:=ck h
   obtain⟨a3,h3,h⟩:=sm h
   obtain⟨a4,h4,h⟩:=sm h
   rcases fk h with ⟨h5,h⟩ | ⟨h5,h⟩
   ·exact zF (pK1 (zD (zn zJ (l:=a1)) (zi h1 (zae h2 (zab (zu zJ h3) (zN (ht.zb6 _ _ h4) (zi (ng h5) ob))))))) (zbN.okL ht n k _ _ _ h)
   ·cases h
    exact zw (pK1 (zD (zn zJ (l:=a1)) (zi h1 (zae h2 (zab (zu zJ h3) (zN (ht.zb6 _ _ h4) (zi (ng h5) ob))))))) (fun h=>by cases h)
  ·cases h
   exact zw (pK1 (zD (zn zJ (l:=a1)) (zi h1 ob))) (fun h=>by cases h)
theorem zbB.ok {n:Nat} {t:Tab} (ht:TabOk t (run Tryz.prog own kp X n)):∀(p1:List ByteArray) r,zbB t n p1=some r→run Tryz.prog own kp X (n+1) 56 [(Sl 1 (texts p1))] []=some ((Bo r),[]):=by
 intro p1 r h
 obtain⟨a1,rfl⟩:∃z_,z_=p1:=⟨_,rfl⟩
 rw[zbB]at h
 obtain⟨a2 | ⟨a3,a4,a5⟩,h1,h⟩:=sm h
 ·cases h
  exact zk Tryz.func56 (zaS (lk (sub [1,0,1,0] (zq Tryz.f56)) (by kernel_rfl) (zbN.okL ht n n _ _ _ h1)) ob) (by kernel_rfl)
 ·cases h
  exact zk Tryz.func56 (zaS (lk (sub [1,0,1,0] (zq Tryz.f56)) (by kernel_rfl) (zbN.okL ht n n _ _ _ h1)) (zD (zn zJ (l:=a3)) ob)) (by kernel_rfl)
theorem zce.ok {n:Nat} {t:Tab} (ht:TabOk t (run Tryz.prog own kp X n)):∀(p1:zh) r,zce t n p1=some r→run Tryz.prog own kp X (n+1) 57 [(.t (zh.t p1))] []=some ((I6 r),[]):=by
 intro p1 r h
 obtain⟨a1,a2,a3,a4,a5⟩:=p1
 rw[zce]at h
 obtain⟨a6,h1,h⟩:=sm h
 rcases fk h with ⟨h2,h⟩ | ⟨h2,h⟩
 ·cases h
  exact zk Tryz.func57 (zN (ht.za7 _ _ _ h1) (zi (ng h2) ob)) (by kernel_rfl)
 ·cases h
  exact zk Tryz.func57 (zN (ht.za7 _ _ _ h1) (zi (ng h2) ob)) (by kernel_rfl)
theorem zdB.ok {n:Nat} {t:Tab} (ht:TabOk t (run Tryz.prog own kp X n)):∀(p1:GPred) r,zdB t n p1=some r→run Tryz.prog own kp X (n+1) 58 [(.t (GPred.t p1))] []=some ((I6 r),[]):=by
 intro p1 r h
 obtain⟨a1,a2,a3⟩:=p1
 rw[zdB]at h
 obtain⟨a4,h1,h⟩:=sm h
 rcases fk h with ⟨h2,h⟩ | ⟨h2,h⟩
 ·cases h
  exact zk Tryz.func58 (zN (ht.zbp _ _ _ h1) (zi (ng h2) ob)) (by kernel_rfl)
 ·cases h
  exact zk Tryz.func58 (zN (ht.zbp _ _ _ h1) (zi (ng h2) ob)) (by kernel_rfl)
theorem zew.ok (ht:TabOk t call) (n:Nat) (a1:Int) (a2:List ByteArray) (r:_) (h:zew t n a1 a2=some r):exec (env Tryz.prog 59 Tryz.f59 call) n (sub [1,1,1] (zq Tryz.f59)) (mkSt 18 18 [(0,(I6 a1)),(3,(Sl 1 (texts a2)))] [])=some (zew.to r):=by
 rw[zew]at h
 obtain⟨h1,h⟩:=ck h
 obtain⟨a3,h2,h⟩:=sm h
 cases h
 exact pK1 (zae h1 (zab (zu zJ h2) ob))
theorem zef.ok (ht:TabOk t call) (n:Nat) (a1:Int) (a2:List ByteArray) (r:_) (h:zef t n a1 a2=some r):exec (env Tryz.prog 59 Tryz.f59 call) n (sub [1,1] (zq Tryz.f59)) (mkSt 18 18 [(0,(I6 a1)),(3,(Sl 1 (texts a2)))] [])=some (zef.to r):=by
 rw[zef]at h
 rcases fk h with ⟨h1,h⟩ | ⟨h1,h⟩
 ·cases h
  exact pK1 (zW h1 5 (zck 1 ob))
 ·rcases fk h with ⟨h2,h⟩ | ⟨h2,h⟩
  ·cases h
   exact pK1 (zy h1 (zD (zn zJ (l:=a2)) (zX h1 (zi h2 ob))))
  ·obtain⟨a3,rfl⟩:∃z_,z_=r:=⟨_,rfl⟩
   have h3:=h
   exact pK1 (zy h1 (zD (zn zJ (l:=a2)) (zX h1 (zi h2 (zI (zew.ok ht n _ _ _ h3) ob)))))
theorem zaU.ok {n:Nat} {t:Tab} (ht:TabOk t (run Tryz.prog own kp X n)):∀(p1:Int) r,zaU t n p1=some r→run Tryz.prog own kp X (n+1) 59 [(I6 p1)] []=some ((Sr r),[]):=by
 intro p1 r h
 obtain⟨a1,rfl⟩:∃z_,z_=p1:=⟨_,rfl⟩
 rw[zaU]at h
 obtain⟨a2,rfl⟩:∃z_,z_=r:=⟨_,rfl⟩
 have h1:=h
 exact zk Tryz.func59 (zI (zef.ok ht n _ _ _ h1) ob) (by kernel_rfl)
theorem zel.ok (ht:TabOk t call) (n:Nat) (a1 a2:Int) (a3:ByteArray) (a4:List GStep) (a5:Bool) (r:_) (h:zel t n a1 a2 a3 a4 a5=some r):exec (env Tryz.prog 60 Tryz.f60 call) n (sub [1,1] (zq Tryz.f60)) (mkSt 49 49 [(2,(I6 a1)),(3,(.ptr 3 0 [] 0))] [(3,(.t (.st [(.v (.int .i64 a2)),(.v (.string a3)),(.sl false 14 (GStep.ts a4)),(.v (.bool a5))])))])=some (zel.to r):=by
 rw[zel]at h
 rcases fk h with ⟨h1,h⟩ | ⟨h1,h⟩
 ·rcases fk h with ⟨h2,h⟩ | ⟨h2,h⟩
  ·cases h
   exact pK1 (zi h1 (zy h2 (zD (zn GStep.zl (l:=a4)) (zX h2 ob))))
  ·cases h
   exact pK1 (zi h1 (zW h2 5 ob))
 ·rcases fk h with ⟨h3,h⟩ | ⟨h3,h⟩
  ·obtain⟨a6,h4,h⟩:=sm h
   rcases fk h with ⟨h5,h⟩ | ⟨h5,h⟩
   ·cases h
    exact pK1 (zi h1 (zi h3 (zN (ht.zb6 _ _ h4) (zy h5 (zD (zn GStep.zl (l:=a4)) (zX h5 ob))))))
   ·cases h
    exact pK1 (zi h1 (zi h3 (zN (ht.zb6 _ _ h4) (zW h5 5 ob))))
  ·rcases fk h with ⟨h6,h⟩ | ⟨h6,h⟩
   ·rcases fk h with ⟨h7,h⟩ | ⟨h7,h⟩
    ·obtain⟨a7,rfl⟩:∃z_,z_=r:=⟨_,rfl⟩
     have h8:=h
     exact pK1 (zi h1 (zi h3 (zi h6 (zW h7 5 (zN (ht.zaT _ _ _ h8) (zi h7 ob))))))
    ·cases h
     exact pK1 (zi h1 (zi h3 (zi h6 (zW h7 6 ob))))
   ·cases h
    exact pK1 (zi h1 (zi h3 (zi h6 ob)))
theorem zeb.ok {n:Nat} {t:Tab} (ht:TabOk t (run Tryz.prog own kp X n)):∀(p1:GBy) (p2:Bool) (p3:Int) r,zeb t n p1 p2 p3=some r→run Tryz.prog own kp X (n+1) 60 [(.t (GBy.t p1)),(Bo p2),(I6 p3)] []=some ((Bo r),[]):=by
 intro p1 p2 p3 r h
 obtain⟨a1,a2,a3,a4⟩:=p1
 obtain⟨a5,rfl⟩:∃z_,z_=p2:=⟨_,rfl⟩
 obtain⟨a6,rfl⟩:∃z_,z_=p3:=⟨_,rfl⟩
 rw[zeb]at h
 rcases fk h with ⟨h1,h⟩ | ⟨h1,h⟩
 ·rcases fk h with ⟨h2,h⟩ | ⟨h2,h⟩
  ·obtain⟨a7,rfl⟩:∃z_,z_=r:=⟨_,rfl⟩
   have h3:=h
   exact zk Tryz.func60 (zy h1 (zi (ng h2) (zI (zel.ok ht n _ _ _ _ _ _ h3) ob))) (by kernel_rfl)
  ·cases h
   exact zk Tryz.func60 (zy h1 (zi (ng h2) ob)) (by kernel_rfl)
 ·obtain⟨a8,rfl⟩:∃z_,z_=r:=⟨_,rfl⟩
  have h4:=h
  exact zk Tryz.func60 (zy h1 (zi (rfl:false=false) (zI (zel.ok ht n _ _ _ _ _ _ h4) ob))) (by kernel_rfl)
theorem zdN.ok {n:Nat} {t:Tab} (ht:TabOk t (run Tryz.prog own kp X n)):∀(p1:List GStep) r,zdN t n p1=some r→run Tryz.prog own kp X (n+1) 50 [(Sl 14 (GStep.ts p1))] []=some ((I6 r),[]):=by
 intro p1 r h
 obtain⟨a1,rfl⟩:∃z_,z_=p1:=⟨_,rfl⟩
 rw[zdN]at h
 obtain⟨a2,rfl⟩:∃z_,z_=r:=⟨_,rfl⟩
 have h1:=h
 exact zk Tryz.func50 (zN (ht.zcK _ _ _ _ h1) ob) (by kernel_rfl)
theorem za9.ok {n:Nat} {t:Tab} (ht:TabOk t (run Tryz.prog own kp X n)):∀(p1:List GStep) (p2:Int) r,za9 t n p1 p2=some r→run Tryz.prog own kp X (n+1) 51 [(Sl 14 (GStep.ts p1)),(I6 p2)] []=some ((Bo r),[]):=by
 intro p1 p2 r h
 obtain⟨a1,rfl⟩:∃z_,z_=p1:=⟨_,rfl⟩
 obtain⟨a2,rfl⟩:∃z_,z_=p2:=⟨_,rfl⟩
 rw[za9]at h
 rcases fk h with ⟨h1,h⟩ | ⟨h1,h⟩
 ·obtain⟨a3,h2,h⟩:=sm h
  cases h
  exact zk Tryz.func51 (zy h1 (zN (ht.zP _ _ _ h2) (zX h1 ob))) (by kernel_rfl)
 ·cases h
  exact zk Tryz.func51 (zW h1 5 ob) (by kernel_rfl)
theorem zcE.okL (ht:TabOk t call) (n:Nat):∀(k:Nat) (a1:Int) (a2 a3:List GStep) (a4 a5:Int) (a6:List GBy) (a7 a8 a9:Int) (a10:List ByteArray) (a11:List Int) (a12 a13:Int) (a14:ByteArray) (a15 a16:List zh) (a17:Int) (a18:List zh) (a19:List GPred) (a20:List (List GStep)) (a21:List GBy) (a22:List ByteArray) (r:_),zcE t n k a1 a2 a3 a4 a5 a6 a7 a8 a9 a10 a11 a12 a13 a14 a15 a16 a17 a18 a19 a20 a21 a22=some r→loopN (exec (env Tryz.prog 22 Tryz.f22 call) n (sub [1,1,1,0,1,0,0,1,1,0,0,1,1,0,1,0,0] (zq Tryz.f22))) k (mkSt 73 73 [(1,(I6 a1)),(5,(.t (.sl true 14 (GStep.ts a2)))),(8,(.ptr 8 0 [] 0)),(13,(Sl 14 (GStep.ts a3))),(14,(I6 a4)),(15,(I6 a5)),(43,(Sl 4 (GBy.ts a6))),(44,(I6 a7)),(45,(I6 a8))] [(8,(.t (.st [(.v (.int .i64 a9)),(.sl true 1 (texts a10)),(.sl true 1 (zA a11)),(.st [(.v (.int .i64 a12)),(.v (.int .i64 a13)),(.v (.string a14)),(.sl false 5 (zh.ts a15)),(.sl false 5 (zh.ts a16))]),(.st [(.v (.int .i64 a17)),(.sl false 5 (zh.ts a18)),(.sl false 3 (GPred.ts a19))]),(.sl false 1 (zo a20)),(.sl true 4 (GBy.ts a21)),(.sl true 1 (texts a22))])))])=some (zcE.to r)
 | 0,a1,a2,a3,a4,a5,a6,a7,a8,a9,a10,a11,a12,a13,a14,a15,a16,a17,a18,a19,a20,a21,a22,r,h=>by rw[zcE]at h;cases h
 | k+1,a1,a2,a3,a4,a5,a6,a7,a8,a9,a10,a11,a12,a13,a14,a15,a16,a17,a18,a19,a20,a21,a22,r,h=>by
  rw[zcE]at h
  rcases fk h with ⟨h1,h⟩ | ⟨h1,h⟩
  ·obtain⟨h2,h⟩:=ck h
   obtain⟨⟨a23,a24,a25,a26⟩,h3,h⟩:=sm h
   obtain⟨a27,h4,h⟩:=sm h
   obtain⟨h5,h⟩:=cl h
   exact zF (pK1 (zi h1 (zae h2 (zab (zu GBy.zl h3) (zN (ht.za6 _ _ _ h4) (zfm (zes GBy.zl h5) (zfx (zeS GBy.zl (a:=a21) (b:=([(GBy.mk a23 a24 a27 a26)]:List GBy))) ob))))))) (zcE.okL ht n k _ _ _ _ _ _ _ _ _ _ _ _ _ _ _ _ _ _ _ _ _ _ _ h)
  ·cases h
   exact zw (pK1 (zi h1 ob)) (fun h=>by cases h)
theorem zda.ok (ht:TabOk t call) (n:Nat) (a1:Int) (a2 a3:List GStep) (a4 a5 a6:Int) (a7:List ByteArray) (a8:List Int) (a9 a10:Int) (a11:ByteArray) (a12 a13:List zh) (a14:Int) (a15:List zh) (a16:List GPred) (a17:List (List GStep)) (a18:List GBy) (a19:List ByteArray) (r:_) (h:zda t n a1 a2 a3 a4 a5 a6 a7 a8 a9 a10 a11 a12 a13 a14 a15 a16 a17 a18 a19=some r):exec (env Tryz.prog 22 Tryz.f22 call) n (sub [1,1,1,0,1,0,0,1,1,0,0,1,1,1] (zq Tryz.f22)) (mkSt 73 73 [(1,(I6 a1)),(5,(.t (.sl true 14 (GStep.ts a2)))),(8,(.ptr 8 0 [] 0)),(13,(Sl 14 (GStep.ts a3))),(14,(I6 a4)),(15,(I6 a5))] [(8,(.t (.st [(.v (.int .i64 a6)),(.sl true 1 (texts a7)),(.sl true 1 (zA a8)),(.st [(.v (.int .i64 a9)),(.v (.int .i64 a10)),(.v (.string a11)),(.sl false 5 (zh.ts a12)),(.sl false 5 (zh.ts a13))]),(.st [(.v (.int .i64 a14)),(.sl false 5 (zh.ts a15)),(.sl false 3 (GPred.ts a16))]),(.sl false 1 (zo a17)),(.sl true 4 (GBy.ts a18)),(.sl true 1 (texts a19))])))])=some (zda.to r):=by
 rw[zda]at h
 obtain⟨h1,h⟩:=cl h
 cases h
 exact pK1 (zfm (zes GStep.zl h1) (zfx (zeS GStep.zl (a:=a2) (b:=([(GStep.mk a6 a7 a8 (zh.mk a9 a10 a11 a12 a13) (GPred.mk a14 a15 a16) a17 a18 a19)]:List GStep))) ob))
theorem zcF.okL (ht:TabOk t call) (n:Nat):∀(k:Nat) (a1:Int) (a2 a3:List GStep) (a4 a5:Int) (r:_),zcF t n k a1 a2 a3 a4 a5=some r→loopN (exec (env Tryz.prog 22 Tryz.f22 call) n (sub [1,1,1,0,1,0,0] (zq Tryz.f22))) k (mkSt 73 73 [(1,(I6 a1)),(5,(.t (.sl true 14 (GStep.ts a2)))),(13,(Sl 14 (GStep.ts a3))),(14,(I6 a4)),(15,(I6 a5))] [])=some (zcF.to r)
 | 0,a1,a2,a3,a4,a5,r,h=>by rw[zcF]at h;cases h
 | k+1,a1,a2,a3,a4,a5,r,h=>by
  rw[zcF]at h
  rcases fk h with ⟨h1,h⟩ | ⟨h1,h⟩
  ·obtain⟨h2,h⟩:=ck h
   obtain⟨⟨a6,a7,a8,⟨a9,a10,a11,a12,a13⟩,⟨a14,a15,a16⟩,a17,a18,a19⟩,h3,h⟩:=sm h
   obtain⟨a20,h4,h⟩:=sm h
   obtain⟨a21,h5,h⟩:=sm h
   obtain⟨⟨a22,a23,a24,a25,a26⟩,h6,h⟩:=sm h
   obtain⟨⟨a27,a28,a29⟩,h7,h⟩:=sm h
   obtain⟨a30,h8,h⟩:=sm h
   obtain⟨a31,h9,h⟩:=sm h
   obtain⟨⟨a32,a33,a34,a35,a36,a37,a38,a39,a40,a41,a42,a43,a44,a45,a46,a47,a48,a49,a50,a51,a52,a53,a54⟩,h10,h⟩:=sm h
   obtain⟨⟨a55,a56,a57,a58,a59⟩,h11,h⟩:=sm h
   exact zF (pK1 (zi h1 (zae h2 (zab (zu GStep.zl h3) (zN (ht.slices_Clone_string _ _ h4) (zN (ht.slices_Clone_int _ _ h5) (zN (ht.zdq _ _ h6) (zN (ht.zeq _ _ h7) (zN (ht.slices_Clone_string _ _ h8) (zN (ht.zdU _ _ _ h9) (zD (zn GBy.zl (l:=a18)) (zaS (lk (sub [1,1,1,0,1,0,0,1,1,0,0,1,1,0,1,0] (zq Tryz.f22)) (by kernel_rfl) (zcE.okL ht n n _ _ _ _ _ _ _ _ _ _ _ _ _ _ _ _ _ _ _ _ _ _ _ h10)) (zI (zda.ok ht n _ _ _ _ _ _ _ _ _ _ _ _ _ _ _ _ _ _ _ _ h11) ob))))))))))))) (zcF.okL ht n k _ _ _ _ _ _ h)
  ·cases h
   exact zw (pK1 (zi h1 ob)) (fun h=>by cases h)
theorem za6.ok {n:Nat} {t:Tab} (ht:TabOk t (run Tryz.prog own kp X n)):∀(p1:List GStep) (p2:Int) r,za6 t n p1 p2=some r→run Tryz.prog own kp X (n+1) 22 [(Sl 14 (GStep.ts p1)),(I6 p2)] []=some ((Sl 14 (GStep.ts r)),[]):=by
 intro p1 p2 r h
 obtain⟨a1,rfl⟩:∃z_,z_=p1:=⟨_,rfl⟩
 obtain⟨a2,rfl⟩:∃z_,z_=p2:=⟨_,rfl⟩
 rw[za6]at h
 rcases fk h with ⟨h1,h⟩ | ⟨h1,h⟩
 ·cases h
  exact zk Tryz.func22 (zi h1 ob) (by kernel_rfl)
 ·obtain⟨⟨a3,a4,a5,a6,a7,a8⟩,h2,h⟩:=sm h
  cases h
  exact zk Tryz.func22 (zi h1 (zD (zn GStep.zl (l:=a1)) (zaS (lk (sub [1,1,1,0,1,0] (zq Tryz.f22)) (by kernel_rfl) (zcF.okL ht n n _ _ _ _ _ _ h2)) ob))) (by kernel_rfl)
theorem zdI.ok (ht:TabOk t call) (n:Nat) (a1:List zh) (a2 a3 a4:Int) (r:_) (h:zdI t n a1 a2 a3 a4=some r):exec (env Tryz.prog 61 Tryz.f61 call) n (sub [1,1,0,1,0,0,1] (zq Tryz.f61)) (mkSt 29 29 [(0,(Sl 5 (zh.ts a1))),(1,(I6 a2)),(5,(I6 a3)),(6,(I6 a4))] [])=some (zdI.to r):=by
 rw[zdI]at h
 obtain⟨h1,h⟩:=ck h
 obtain⟨⟨a5,a6,a7,a8,a9⟩,h2,h⟩:=sm h
 obtain⟨a10,h3,h⟩:=sm h
 cases h
 exact pK1 (zae h1 (zab (zu zh.zl h2) (zN (ht.zbZ _ _ _ h3) ob)))
theorem zcU.okL (ht:TabOk t call) (n:Nat):∀(k:Nat) (a1:List zh) (a2 a3 a4:Int) (r:_),zcU t n k a1 a2 a3 a4=some r→loopN (exec (env Tryz.prog 61 Tryz.f61 call) n (sub [1,1,0,1,0,0] (zq Tryz.f61))) k (mkSt 29 29 [(0,(Sl 5 (zh.ts a1))),(1,(I6 a2)),(5,(I6 a3)),(6,(I6 a4))] [])=some (zcU.to r)
 | 0,a1,a2,a3,a4,r,h=>by rw[zcU]at h;cases h
 | k+1,a1,a2,a3,a4,r,h=>by
  rw[zcU]at h
  rcases fk h with ⟨h1,h⟩ | ⟨h1,h⟩
  ·rcases fk h with ⟨h2,h⟩ | ⟨h2,h⟩
   ·obtain⟨⟨a5,a6,a7,a8⟩,h3,h⟩:=sm h
    exact zF (pK1 (zD (zn zh.zl (l:=a1)) (zah h1 (zi h2 (zI (zdI.ok ht n _ _ _ _ _ h3) ob))))) (zcU.okL ht n k _ _ _ _ _ h)
   ·cases h
    exact zw (pK1 (zD (zn zh.zl (l:=a1)) (zah h1 (zi h2 ob)))) (fun h=>by cases h)
  ·cases h
   exact zw (pK1 (zD (zn zh.zl (l:=a1)) (zah h1 (zi (rfl:false=false) ob)))) (fun h=>by cases h)
theorem zd6.ok {n:Nat} {t:Tab} (ht:TabOk t (run Tryz.prog own kp X n)):∀(p1:List zh) (p2:Int) r,zd6 t n p1 p2=some r→run Tryz.prog own kp X (n+1) 61 [(Sl 5 (zh.ts p1)),(I6 p2)] []=some ((I6 r),[]):=by
 intro p1 p2 r h
 obtain⟨a1,rfl⟩:∃z_,z_=p1:=⟨_,rfl⟩
 obtain⟨a2,rfl⟩:∃z_,z_=p2:=⟨_,rfl⟩
 rw[zd6]at h
 obtain⟨⟨a3,a4,a5,a6,a7⟩,h1,h⟩:=sm h
 cases h
 exact zk Tryz.func61 (zaS (lk (sub [1,1,0,1,0] (zq Tryz.f61)) (by kernel_rfl) (zcU.okL ht n n _ _ _ _ _ h1)) ob) (by kernel_rfl)
theorem zba.ok (ht:TabOk t call) (n:Nat) (a1 a2:Int) (a3:Bool) (a4 a5:Int) (a6:ByteArray) (a7 a8:List zh) (a9 a10:Int) (a11:ByteArray) (a12 a13:List zh) (r:_) (h:zba t n a1 a2 a3 a4 a5 a6 a7 a8 a9 a10 a11 a12 a13=some r):exec (env Tryz.prog 53 Tryz.f53 call) n (sub [1,1,1,1,0,1] (zq Tryz.f53)) (mkSt 54 54 [(2,(I6 a1)),(3,(.ptr 3 0 [] 0)),(4,(.ptr 4 0 [] 0)),(7,(I6 a2)),(32,(Bo a3))] [(3,(.t (.st [(.v (.int .i64 a4)),(.v (.int .i64 a5)),(.v (.string a6)),(.sl false 5 (zh.ts a7)),(.sl false 5 (zh.ts a8))]))),(4,(.t (.st [(.v (.int .i64 a9)),(.v (.int .i64 a10)),(.v (.string a11)),(.sl false 5 (zh.ts a12)),(.sl false 5 (zh.ts a13))])))])=some (zba.to r):=by
 rw[zba]at h
 rcases fk h with ⟨h1,h⟩ | ⟨h1,h⟩
 ·obtain⟨a14,h2,h⟩:=sm h
  cases h
  exact pK1 (zi h1 (zN (ht.zdV _ _ _ _ h2) ob))
 ·cases h
  exact pK1 (zi h1 ob)
theorem zcG.ok (ht:TabOk t call) (n:Nat) (a1 a2:Int) (a3:Bool) (a4 a5:Int) (a6:ByteArray) (a7 a8:List zh) (a9 a10:Int) (a11:ByteArray) (a12 a13:List zh) (r:_) (h:zcG t n a1 a2 a3 a4 a5 a6 a7 a8 a9 a10 a11 a12 a13=some r):exec (env Tryz.prog 53 Tryz.f53 call) n (sub [1,1,1,1,1,0,1] (zq Tryz.f53)) (mkSt 54 54 [(2,(I6 a1)),(3,(.ptr 3 0 [] 0)),(4,(.ptr 4 0 [] 0)),(7,(I6 a2)),(45,(Bo a3))] [(3,(.t (.st [(.v (.int .i64 a4)),(.v (.int .i64 a5)),(.v (.string a6)),(.sl false 5 (zh.ts a7)),(.sl false 5 (zh.ts a8))]))),(4,(.t (.st [(.v (.int .i64 a9)),(.v (.int .i64 a10)),(.v (.string a11)),(.sl false 5 (zh.ts a12)),(.sl false 5 (zh.ts a13))])))])=some (zcG.to r):=by
 rw[zcG]at h
 rcases fk h with ⟨h1,h⟩ | ⟨h1,h⟩
 ·obtain⟨a14,rfl⟩:∃z_,z_=r:=⟨_,rfl⟩
  have h2:=h
  exact pK1 (zi h1 (zN (ht.zdV _ _ _ _ h2) ob))
 ·cases h
  exact pK1 (zi h1 ob)
theorem zcH.ok (ht:TabOk t call) (n:Nat) (a1 a2 a3 a4:Int) (a5:ByteArray) (a6 a7:List zh) (a8 a9:Int) (a10:ByteArray) (a11 a12:List zh) (r:_) (h:zcH t n a1 a2 a3 a4 a5 a6 a7 a8 a9 a10 a11 a12=some r):exec (env Tryz.prog 53 Tryz.f53 call) n (sub [1,1,1,1,1] (zq Tryz.f53)) (mkSt 54 54 [(2,(I6 a1)),(3,(.ptr 3 0 [] 0)),(4,(.ptr 4 0 [] 0)),(7,(I6 a2))] [(3,(.t (.st [(.v (.int .i64 a3)),(.v (.int .i64 a4)),(.v (.string a5)),(.sl false 5 (zh.ts a6)),(.sl false 5 (zh.ts a7))]))),(4,(.t (.st [(.v (.int .i64 a8)),(.v (.int .i64 a9)),(.v (.string a10)),(.sl false 5 (zh.ts a11)),(.sl false 5 (zh.ts a12))])))])=some (zcH.to r):=by
 rw[zcH]at h
 rcases fk h with ⟨h1,h⟩ | ⟨h1,h⟩
 ·obtain⟨a13,rfl⟩:∃z_,z_=r:=⟨_,rfl⟩
  have h2:=h
  exact pK1 (zy h1 (zI (zcG.ok ht n _ _ _ _ _ _ _ _ _ _ _ _ _ _ h2) ob))
 ·obtain⟨a14,rfl⟩:∃z_,z_=r:=⟨_,rfl⟩
  have h3:=h
  exact pK1 (zy h1 (zI (zcG.ok ht n _ _ _ _ _ _ _ _ _ _ _ _ _ _ h3) ob))
theorem zcI.ok (ht:TabOk t call) (n:Nat) (a1 a2 a3 a4:Int) (a5:ByteArray) (a6 a7:List zh) (a8 a9:Int) (a10:ByteArray) (a11 a12:List zh) (r:_) (h:zcI t n a1 a2 a3 a4 a5 a6 a7 a8 a9 a10 a11 a12=some r):exec (env Tryz.prog 53 Tryz.f53 call) n (sub [1,1,1,1] (zq Tryz.f53)) (mkSt 54 54 [(2,(I6 a1)),(3,(.ptr 3 0 [] 0)),(4,(.ptr 4 0 [] 0)),(7,(I6 a2))] [(3,(.t (.st [(.v (.int .i64 a3)),(.v (.int .i64 a4)),(.v (.string a5)),(.sl false 5 (zh.ts a6)),(.sl false 5 (zh.ts a7))]))),(4,(.t (.st [(.v (.int .i64 a8)),(.v (.int .i64 a9)),(.v (.string a10)),(.sl false 5 (zh.ts a11)),(.sl false 5 (zh.ts a12))])))])=some (zcI.to r):=by
 rw[zcI]at h
 rcases fk h with ⟨h1,h⟩ | ⟨h1,h⟩
 ·obtain⟨⟨a13,a14,a15,a16,a17,a18,a19,a20,a21,a22,a23,a24⟩,h2,h⟩:=sm h
  obtain⟨a25,rfl⟩:∃z_,z_=r:=⟨_,rfl⟩
  have h3:=h
  exact pK1 (zy h1 (zI (zba.ok ht n _ _ _ _ _ _ _ _ _ _ _ _ _ _ h2) (zI (zcH.ok ht n _ _ _ _ _ _ _ _ _ _ _ _ _ h3) ob)))
 ·obtain⟨⟨a26,a27,a28,a29,a30,a31,a32,a33,a34,a35,a36,a37⟩,h4,h⟩:=sm h
  obtain⟨a38,rfl⟩:∃z_,z_=r:=⟨_,rfl⟩
  have h5:=h
  exact pK1 (zy h1 (zI (zba.ok ht n _ _ _ _ _ _ _ _ _ _ _ _ _ _ h4) (zI (zcH.ok ht n _ _ _ _ _ _ _ _ _ _ _ _ _ h5) ob)))
theorem zcJ.ok (ht:TabOk t call) (n:Nat) (a1 a2 a3 a4:Int) (a5:ByteArray) (a6 a7:List zh) (a8 a9:Int) (a10:ByteArray) (a11 a12:List zh) (r:_) (h:zcJ t n a1 a2 a3 a4 a5 a6 a7 a8 a9 a10 a11 a12=some r):exec (env Tryz.prog 53 Tryz.f53 call) n (sub [1,1,1] (zq Tryz.f53)) (mkSt 54 54 [(2,(I6 a1)),(3,(.ptr 3 0 [] 0)),(4,(.ptr 4 0 [] 0)),(7,(I6 a2))] [(3,(.t (.st [(.v (.int .i64 a3)),(.v (.int .i64 a4)),(.v (.string a5)),(.sl false 5 (zh.ts a6)),(.sl false 5 (zh.ts a7))]))),(4,(.t (.st [(.v (.int .i64 a8)),(.v (.int .i64 a9)),(.v (.string a10)),(.sl false 5 (zh.ts a11)),(.sl false 5 (zh.ts a12))])))])=some (zcJ.to r):=by
 rw[zcJ]at h
 rcases fk h with ⟨h1,h⟩ | ⟨h1,h⟩
 ·obtain⟨a13,h2,h⟩:=sm h
  obtain⟨a14,rfl⟩:∃z_,z_=r:=⟨_,rfl⟩
  have h3:=h
  exact pK1 (zi h1 (zN (ht.zdY _ _ _ h2) (zI (zcI.ok ht n _ _ _ _ _ _ _ _ _ _ _ _ _ h3) ob)))
 ·obtain⟨a15,rfl⟩:∃z_,z_=r:=⟨_,rfl⟩
  have h4:=h
  exact pK1 (zi h1 (zI (zcI.ok ht n _ _ _ _ _ _ _ _ _ _ _ _ _ h4) ob))
theorem zaG.ok {n:Nat} {t:Tab} (ht:TabOk t (run Tryz.prog own kp X n)):∀(p1:zh) (p2:zh) (p3:Int) r,zaG t n p1 p2 p3=some r→run Tryz.prog own kp X (n+1) 53 [(.t (zh.t p1)),(.t (zh.t p2)),(I6 p3)] []=some ((I6 r),[]):=by
 intro p1 p2 p3 r h
 obtain⟨a1,a2,a3,a4,a5⟩:=p1
 obtain⟨a6,a7,a8,a9,a10⟩:=p2
 obtain⟨a11,rfl⟩:∃z_,z_=p3:=⟨_,rfl⟩
 rw[zaG]at h
 obtain⟨a12,h1,h⟩:=sm h
 rcases fk h with ⟨h2,h⟩ | ⟨h2,h⟩
 ·obtain⟨a13,h3,h⟩:=sm h
  obtain⟨a14,rfl⟩:∃z_,z_=r:=⟨_,rfl⟩
  have h4:=h
  exact zk Tryz.func53 (zN (ht.zbo _ _ _ h1) (zi h2 (zN (ht.zbo _ _ _ h3) (zI (zcJ.ok ht n _ _ _ _ _ _ _ _ _ _ _ _ _ h4) ob)))) (by kernel_rfl)
 ·obtain⟨a15,rfl⟩:∃z_,z_=r:=⟨_,rfl⟩
  have h5:=h
  exact zk Tryz.func53 (zN (ht.zbo _ _ _ h1) (zi h2 (zI (zcJ.ok ht n _ _ _ _ _ _ _ _ _ _ _ _ _ h5) ob))) (by kernel_rfl)
theorem zbF.okL (ht:TabOk t call) (n:Nat):∀(k:Nat) (a1 a2:List zh) (a3:Int) (r:_),zbF t n k a1 a2 a3=some r→loopN (exec (env Tryz.prog 54 Tryz.f54 call) n (sub [1,1,0,1,0,0] (zq Tryz.f54))) k (mkSt 27 27 [(0,(Sl 5 (zh.ts a1))),(1,(Sl 5 (zh.ts a2))),(5,(I6 a3))] [])=some (zbF.to r)
 | 0,a1,a2,a3,r,h=>by rw[zbF]at h;cases h
 | k+1,a1,a2,a3,r,h=>by
  rw[zbF]at h
  rcases fk h with ⟨h1,h⟩ | ⟨h1,h⟩
  ·obtain⟨h2,h⟩:=ck h
   obtain⟨⟨a4,a5,a6,a7,a8⟩,h3,h⟩:=sm h
   obtain⟨⟨a9,a10,a11,a12,a13⟩,h4,h⟩:=sm h
   obtain⟨a14,h5,h⟩:=sm h
   have o7 {os} (x:Obls (env Tryz.prog 54 Tryz.f54 call) n os):=zD (zn zh.zl (l:=a1)) (zi h1 (zae h2 (zab (zu zh.zl h3) (zae h2 (zab (zu zh.zl h4) (zN (ht.zcD _ _ _ h5) x))))))
   rcases fk h with ⟨h6,h⟩ | ⟨h6,h⟩
   ·exact zF (pK1 (o7 (zi (ng h6) ob))) (zbF.okL ht n k _ _ _ _ h)
   ·cases h
    exact zw (pK1 (o7 (zi (ng h6) ob))) (fun h=>by cases h)
  ·cases h
   exact zw (pK1 (zD (zn zh.zl (l:=a1)) (zi h1 ob))) (fun h=>by cases h)
theorem zbO.ok {n:Nat} {t:Tab} (ht:TabOk t (run Tryz.prog own kp X n)):∀(p1:List zh) (p2:List zh) r,zbO t n p1 p2=some r→run Tryz.prog own kp X (n+1) 54 [(Sl 5 (zh.ts p1)),(Sl 5 (zh.ts p2))] []=some ((Bo r),[]):=by
 intro p1 p2 r h
 obtain⟨a1,rfl⟩:∃z_,z_=p1:=⟨_,rfl⟩
 obtain⟨a2,rfl⟩:∃z_,z_=p2:=⟨_,rfl⟩
 rw[zbO]at h
 have o2 {os} (x:Obls (env Tryz.prog 54 Tryz.f54 (run Tryz.prog own kp X n)) n os):=zD (zn zh.zl (l:=a1)) (zD (zn zh.zl (l:=a2)) x)
 rcases fk h with ⟨h1,h⟩ | ⟨h1,h⟩
 ·cases h
  exact zk Tryz.func54 (o2 (zi h1 ob)) (by kernel_rfl)
 ·obtain⟨a3 | ⟨a4,a5,a6,a7⟩,h2,h⟩:=sm h
  ·cases h
   exact zk Tryz.func54 (o2 (zi h1 (zaS (lk (sub [1,1,0,1,0] (zq Tryz.f54)) (by kernel_rfl) (zbF.okL ht n n _ _ _ _ h2)) ob))) (by kernel_rfl)
  ·cases h
   exact zk Tryz.func54 (o2 (zi h1 (zaS (lk (sub [1,1,0,1,0] (zq Tryz.f54)) (by kernel_rfl) (zbF.okL ht n n _ _ _ _ h2)) ob))) (by kernel_rfl)
theorem zd7.ok {n:Nat} {t:Tab} (ht:TabOk t (run Tryz.prog own kp X n)):∀(p1:List GCode) (p2:List GCode) r,zd7 t n p1 p2=some r→run Tryz.prog own kp X (n+1) 42 [(Sl 14 (GCode.ts p1)),(Sl 14 (GCode.ts p2))] []=some ((Bo r),[]):=by
 intro p1 p2 r h
 obtain⟨a1,rfl⟩:∃z_,z_=p1:=⟨_,rfl⟩
 obtain⟨a2,rfl⟩:∃z_,z_=p2:=⟨_,rfl⟩
 rw[zd7]at h
 obtain⟨a3,rfl⟩:∃z_,z_=r:=⟨_,rfl⟩
 have h1:=h
 exact zk Tryz.func42 (zN (ht.zaH _ _ _ h1) ob) (by kernel_rfl)
theorem zc1.okL (ht:TabOk t call) (n:Nat):∀(k:Nat) (a1:List Int) (a2:Int) (r:_),zc1 t n k a1 a2=some r→loopN (exec (env Tryz.prog 76 Tryz.f76 call) n (sub [1,0,1,0,0] (zq Tryz.f76))) k (mkSt 15 15 [(0,(Sl 1 (zA a1))),(3,(I6 a2))] [])=some (zc1.to r)
 | 0,a1,a2,r,h=>by rw[zc1]at h;cases h
 | k+1,a1,a2,r,h=>by
  rw[zc1]at h
  rcases fk h with ⟨h1,h⟩ | ⟨h1,h⟩
  ·obtain⟨h2,h⟩:=ck h
   obtain⟨a3,h3,h⟩:=sm h
   rcases fk h with ⟨h4,h⟩ | ⟨h4,h⟩
   ·cases h
    exact zw (pK1 (zD (zn zz (l:=a1)) (zi h1 (zae h2 (zab (zu zz h3) (zi h4 ob)))))) (fun h=>by cases h)
   ·exact zF (pK1 (zD (zn zz (l:=a1)) (zi h1 (zae h2 (zab (zu zz h3) (zi h4 ob)))))) (zc1.okL ht n k _ _ _ h)
  ·cases h
   exact zw (pK1 (zD (zn zz (l:=a1)) (zi h1 ob))) (fun h=>by cases h)
theorem zdc.ok {n:Nat} {t:Tab} (ht:TabOk t (run Tryz.prog own kp X n)):∀(p1:List Int) r,zdc t n p1=some r→run Tryz.prog own kp X (n+1) 76 [(Sl 1 (zA p1))] []=some ((Bo r),[]):=by
 intro p1 r h
 obtain⟨a1,rfl⟩:∃z_,z_=p1:=⟨_,rfl⟩
 rw[zdc]at h
 obtain⟨a2 | ⟨a3,a4,a5⟩,h1,h⟩:=sm h
 ·cases h
  exact zk Tryz.func76 (zaS (lk (sub [1,0,1,0] (zq Tryz.f76)) (by kernel_rfl) (zc1.okL ht n n _ _ _ h1)) ob) (by kernel_rfl)
 ·cases h
  exact zk Tryz.func76 (zaS (lk (sub [1,0,1,0] (zq Tryz.f76)) (by kernel_rfl) (zc1.okL ht n n _ _ _ h1)) ob) (by kernel_rfl)
theorem zcm.okL (ht:TabOk t call) (n:Nat):∀(k:Nat) (a1:List ByteArray) (a2 a3:Int) (r:_),zcm t n k a1 a2 a3=some r→loopN (exec (env Tryz.prog 77 Tryz.f77 call) n (sub [1,0,1,0,0,1,0,0,1,0,0] (zq Tryz.f77))) k (mkSt 25 25 [(0,(Sl 1 (texts a1))),(3,(I6 a2)),(4,(I6 a3))] [])=some (zcm.to r)
 | 0,a1,a2,a3,r,h=>by rw[zcm]at h;cases h
 | k+1,a1,a2,a3,r,h=>by
  rw[zcm]at h
  rcases fk h with ⟨h1,h⟩ | ⟨h1,h⟩
  ·obtain⟨h2,h⟩:=ck h
   obtain⟨a4,h3,h⟩:=sm h
   obtain⟨h4,h⟩:=ck h
   obtain⟨a5,h5,h⟩:=sm h
   rcases fk h with ⟨h6,h⟩ | ⟨h6,h⟩
   ·cases h
    exact zw (pK1 (zi h1 (zae h2 (zab (zu zJ h3) (zae h4 (zab (zu zJ h5) (zi h6 ob))))))) (fun h=>by cases h)
   ·exact zF (pK1 (zi h1 (zae h2 (zab (zu zJ h3) (zae h4 (zab (zu zJ h5) (zi h6 ob))))))) (zcm.okL ht n k _ _ _ _ h)
  ·cases h
   exact zw (pK1 (zi h1 ob)) (fun h=>by cases h)
theorem zcn.okL (ht:TabOk t call) (n:Nat):∀(k:Nat) (a1:List ByteArray) (a2:Int) (r:_),zcn t n k a1 a2=some r→loopN (exec (env Tryz.prog 77 Tryz.f77 call) n (sub [1,0,1,0,0] (zq Tryz.f77))) k (mkSt 25 25 [(0,(Sl 1 (texts a1))),(3,(I6 a2))] [])=some (zcn.to r)
 | 0,a1,a2,r,h=>by rw[zcn]at h;cases h
 | k+1,a1,a2,r,h=>by
  rw[zcn]at h
  rcases fk h with ⟨h1,h⟩ | ⟨h1,h⟩
  ·obtain⟨a3 | ⟨a4,a5,a6,a7⟩,h2,h⟩:=sm h
   ·cases h
    exact zw (pK1 (zD (zn zJ (l:=a1)) (zi h1 (zaS (lk (sub [1,0,1,0,0,1,0,0,1,0] (zq Tryz.f77)) (by kernel_rfl) (zcm.okL ht n n _ _ _ _ h2)) ob)))) (fun h=>by cases h)
   ·exact zF (pK1 (zD (zn zJ (l:=a1)) (zi h1 (zaS (lk (sub [1,0,1,0,0,1,0,0,1,0] (zq Tryz.f77)) (by kernel_rfl) (zcm.okL ht n n _ _ _ _ h2)) ob)))) (zcn.okL ht n k _ _ _ h)
  ·cases h
   exact zw (pK1 (zD (zn zJ (l:=a1)) (zi h1 ob))) (fun h=>by cases h)
theorem zdp.ok {n:Nat} {t:Tab} (ht:TabOk t (run Tryz.prog own kp X n)):∀(p1:List ByteArray) r,zdp t n p1=some r→run Tryz.prog own kp X (n+1) 77 [(Sl 1 (texts p1))] []=some ((Bo r),[]):=by
 intro p1 r h
 obtain⟨a1,rfl⟩:∃z_,z_=p1:=⟨_,rfl⟩
 rw[zdp]at h
 obtain⟨a2 | ⟨a3,a4,a5⟩,h1,h⟩:=sm h
 ·cases h
  exact zk Tryz.func77 (zaS (lk (sub [1,0,1,0] (zq Tryz.f77)) (by kernel_rfl) (zcn.okL ht n n _ _ _ h1)) ob) (by kernel_rfl)
 ·cases h
  exact zk Tryz.func77 (zaS (lk (sub [1,0,1,0] (zq Tryz.f77)) (by kernel_rfl) (zcn.okL ht n n _ _ _ h1)) ob) (by kernel_rfl)
theorem zac.ok (ht:TabOk t call) (n:Nat) (a1:ByteArray) (a2 a3:Int) (a4:Bool) (r:_) (h:zac t n a1 a2 a3 a4=some r):exec (env Tryz.prog 78 Tryz.f78 call) n (sub [1,0,1,0,0,1,0,0,1,1] (zq Tryz.f78)) (mkSt 55 55 [(0,(Sr a1)),(3,(I6 a2)),(4,(.t (.v (.int .u8 a3)))),(5,(Bo a4))] [])=some (zac.to r):=by
 rw[zac]at h
 rcases fk h with ⟨h1,h⟩ | ⟨h1,h⟩
 ·cases h
  exact pK1 (zW (ng h1) 7 (zi (rfl:false=false) ob))
 ·rcases fk h with ⟨h2,h⟩ | ⟨h2,h⟩
  ·cases h
   exact pK1 (zy (ng h1) (zX h2 (zi (ng h1) (zi h2 (zi (ng h1) (zck 2 (zi (ng h1) (zck 1 (zi (ng h1) (zck 1 ob))))))))))
  ·have o8 {os} (x:Obls (env Tryz.prog 78 Tryz.f78 call) n os):=zy (ng h1) (zX h2 (zi (ng h1) (zi h2 (zi (ng h1) x))))
   rcases fk h with ⟨h3,h⟩ | ⟨h3,h⟩
   ·cases h
    exact pK1 (o8 (zX h3 (zi (ng h1) (zi h3 (zi (ng h1) (zck 1 ob))))))
   ·rcases fk h with ⟨h4,h⟩ | ⟨h4,h⟩
    ·cases h
     exact pK1 (o8 (zX h3 (zi (ng h1) (zi h3 (zi (ng h1) (zi h4 ob))))))
    ·cases h
     exact pK1 (o8 (zX h3 (zi (ng h1) (zi h3 (zi (ng h1) (zi h4 ob))))))
theorem zau.okL (ht:TabOk t call) (n:Nat):∀(k:Nat) (a1:ByteArray) (a2:Int) (r:_),zau t n k a1 a2=some r→loopN (exec (env Tryz.prog 78 Tryz.f78 call) n (sub [1,0,1,0,0] (zq Tryz.f78))) k (mkSt 55 55 [(0,(Sr a1)),(3,(I6 a2))] [])=some (zau.to r)
 | 0,a1,a2,r,h=>by rw[zau]at h;cases h
 | k+1,a1,a2,r,h=>by
  rw[zau]at h
  rcases fk h with ⟨h1,h⟩ | ⟨h1,h⟩
  ·obtain⟨a3,h2,h⟩:=sm h
   have o2 {os} (x:Obls (env Tryz.prog 78 Tryz.f78 call) n os):=zi h1 (zD (zh0 (P:=Tryz.prog) (t:=9) (k:=.i64) (by kernel_rfl) h2) x)
   rcases fk h with ⟨h3,h⟩ | ⟨h3,h⟩
   ·have o5 {os} (x:Obls (env Tryz.prog 78 Tryz.f78 call) n os):=o2 (zy h3 x)
    rcases fk h with ⟨h4,h⟩ | ⟨h4,h⟩
    ·obtain⟨⟨a4,a5⟩ | a6,h5,h⟩:=sm h
     ·exact zF (pK1 (o5 (zW h4 5 (zck 3 (zI (zac.ok ht n _ _ _ _ _ h5) ob))))) (zau.okL ht n k _ _ _ h)
     ·cases h
      exact zw (pK1 (o5 (zW h4 5 (zck 3 (zI (zac.ok ht n _ _ _ _ _ h5) ob))))) (fun h=>by cases h)
    ·rcases fk h with ⟨h6,h⟩ | ⟨h6,h⟩
     ·have o13 {os} (x:Obls (env Tryz.prog 78 Tryz.f78 call) n os):=o5 (zy h4 (zX h6 (zi h4 (zi h6 (zi h4 x)))))
      rcases fk h with ⟨h7,h⟩ | ⟨h7,h⟩
      ·obtain⟨⟨a7,a8⟩ | a9,h8,h⟩:=sm h
       ·exact zF (pK1 (o13 (zy h7 (zI (zac.ok ht n _ _ _ _ _ h8) ob)))) (zau.okL ht n k _ _ _ h)
       ·cases h
        exact zw (pK1 (o13 (zy h7 (zI (zac.ok ht n _ _ _ _ _ h8) ob)))) (fun h=>by cases h)
      ·obtain⟨⟨a10,a11⟩ | a12,h9,h⟩:=sm h
       ·exact zF (pK1 (o13 (zy h7 (zI (zac.ok ht n _ _ _ _ _ h9) ob)))) (zau.okL ht n k _ _ _ h)
       ·cases h
        exact zw (pK1 (o13 (zy h7 (zI (zac.ok ht n _ _ _ _ _ h9) ob)))) (fun h=>by cases h)
     ·have o16 {os} (x:Obls (env Tryz.prog 78 Tryz.f78 call) n os):=o5 (zy h4 (zX h6 (zi h4 (zi h6 (zi h4 (zy (rfl:false=false) x))))))
      obtain⟨⟨a13,a14⟩ | a15,h10,h⟩:=sm h
      ·exact zF (pK1 (o16 (zI (zac.ok ht n _ _ _ _ _ h10) ob))) (zau.okL ht n k _ _ _ h)
      ·cases h
       exact zw (pK1 (o16 (zI (zac.ok ht n _ _ _ _ _ h10) ob))) (fun h=>by cases h)
   ·have o8 {os} (x:Obls (env Tryz.prog 78 Tryz.f78 call) n os):=o2 (zy h3 (zy (rfl:false=false) x))
    rcases fk h with ⟨h11,h⟩ | ⟨h11,h⟩
    ·have o13 {os} (x:Obls (env Tryz.prog 78 Tryz.f78 call) n os):=o8 (zX h11 (zi (rfl:false=false) (zi h11 (zi (rfl:false=false) x))))
     rcases fk h with ⟨h12,h⟩ | ⟨h12,h⟩
     ·obtain⟨⟨a16,a17⟩ | a18,h13,h⟩:=sm h
      ·exact zF (pK1 (o13 (zy h12 (zI (zac.ok ht n _ _ _ _ _ h13) ob)))) (zau.okL ht n k _ _ _ h)
      ·cases h
       exact zw (pK1 (o13 (zy h12 (zI (zac.ok ht n _ _ _ _ _ h13) ob)))) (fun h=>by cases h)
     ·obtain⟨⟨a19,a20⟩ | a21,h14,h⟩:=sm h
      ·exact zF (pK1 (o13 (zy h12 (zI (zac.ok ht n _ _ _ _ _ h14) ob)))) (zau.okL ht n k _ _ _ h)
      ·cases h
       exact zw (pK1 (o13 (zy h12 (zI (zac.ok ht n _ _ _ _ _ h14) ob)))) (fun h=>by cases h)
    ·have o16 {os} (x:Obls (env Tryz.prog 78 Tryz.f78 call) n os):=o8 (zX h11 (zi (rfl:false=false) (zi h11 (zah (rfl:false=false) x))))
     obtain⟨⟨a22,a23⟩ | a24,h15,h⟩:=sm h
     ·exact zF (pK1 (o16 (zI (zac.ok ht n _ _ _ _ _ h15) ob))) (zau.okL ht n k _ _ _ h)
     ·cases h
      exact zw (pK1 (o16 (zI (zac.ok ht n _ _ _ _ _ h15) ob))) (fun h=>by cases h)
  ·cases h
   exact zw (pK1 (zi h1 ob)) (fun h=>by cases h)
theorem zex.ok (ht:TabOk t call) (n:Nat) (a1:ByteArray) (r:_) (h:zex t n a1=some r):exec (env Tryz.prog 78 Tryz.f78 call) n (sub [1,1] (zq Tryz.f78)) (mkSt 55 55 [(0,(Sr a1))] [])=some (zex.to r):=by
 rw[zex]at h
 rcases fk h with ⟨h1,h⟩ | ⟨h1,h⟩
 ·cases h
  exact pK1 (zah h1 ob)
 ·cases h
  exact pK1 (zah h1 ob)
theorem zb6.ok {n:Nat} {t:Tab} (ht:TabOk t (run Tryz.prog own kp X n)):∀(p1:ByteArray) r,zb6 t n p1=some r→run Tryz.prog own kp X (n+1) 78 [(Sr p1)] []=some ((Bo r),[]):=by
 intro p1 r h
 obtain⟨a1,rfl⟩:∃z_,z_=p1:=⟨_,rfl⟩
 rw[zb6]at h
 obtain⟨a2 | ⟨a3,a4,a5⟩,h1,h⟩:=sm h
 ·cases h
  exact zk Tryz.func78 (zaS (lk (sub [1,0,1,0] (zq Tryz.f78)) (by kernel_rfl) (zau.okL ht n n _ _ _ h1)) ob) (by kernel_rfl)
 ·obtain⟨a6,rfl⟩:∃z_,z_=r:=⟨_,rfl⟩
  have h2:=h
  exact zk Tryz.func78 (zaS (lk (sub [1,0,1,0] (zq Tryz.f78)) (by kernel_rfl) (zau.okL ht n n _ _ _ h1)) (zI (zex.ok ht n _ _ h2) ob)) (by kernel_rfl)
theorem zaV.okL (ht:TabOk t call) (n:Nat):∀(k:Nat) (a1 a2 a3 a4:Int) (a5:ByteArray) (a6 a7:List zh) (r:_),zaV t n k a1 a2 a3 a4 a5 a6 a7=some r→loopN (exec (env Tryz.prog 79 Tryz.f79 call) n (sub [1,1,0,1,0,0] (zq Tryz.f79))) k (mkSt 68 68 [(1,(I6 a1)),(2,(.ptr 2 0 [] 0)),(5,(I6 a2))] [(2,(.t (.st [(.v (.int .i64 a3)),(.v (.int .i64 a4)),(.v (.string a5)),(.sl false 5 (zh.ts a6)),(.sl false 5 (zh.ts a7))])))])=some (zaV.to r)
 | 0,a1,a2,a3,a4,a5,a6,a7,r,h=>by rw[zaV]at h;cases h
 | k+1,a1,a2,a3,a4,a5,a6,a7,r,h=>by
  rw[zaV]at h
  rcases fk h with ⟨h1,h⟩ | ⟨h1,h⟩
  ·obtain⟨h2,h⟩:=ck h
   obtain⟨⟨a8,a9,a10,a11,a12⟩,h3,h⟩:=sm h
   obtain⟨a13,h4,h⟩:=sm h
   have o5 {os} (x:Obls (env Tryz.prog 79 Tryz.f79 call) n os):=zD (zn zh.zl (l:=a6)) (zi h1 (zae h2 (zab (zu zh.zl h3) (zN (ht.za7 _ _ _ h4) x))))
   rcases fk h with ⟨h5,h⟩ | ⟨h5,h⟩
   ·rcases fk h with ⟨h6,h⟩ | ⟨h6,h⟩
    ·rcases fk h with ⟨h7,h⟩ | ⟨h7,h⟩
     ·obtain⟨h8,h⟩:=ck h
      obtain⟨⟨a14,a15,a16,a17,a18⟩,h9,h⟩:=sm h
      obtain⟨a19,h10,h⟩:=sm h
      have o28 {os} (x:Obls (env Tryz.prog 79 Tryz.f79 call) n os):=o5 (zi (ng h5) (zy h6 (zW h7 5 (zae h8 (zab (zu zh.zl h9) (zW h7 5 (zae h2 (zab (zu zh.zl h3) (zX h7 (zN (ht.zeB _ _ _ h10) (zX h7 x)))))))))))
      rcases fk h with ⟨h11,h⟩ | ⟨h11,h⟩
      ·cases h
       exact zw (pK1 (o28 (zi h11 ob))) (fun h=>by cases h)
      ·exact zF (pK1 (o28 (zi h11 ob))) (zaV.okL ht n k _ _ _ _ _ _ _ _ h)
     ·exact zF (pK1 (o5 (zi (ng h5) (zy h6 (zW h7 14 (zi (rfl:false=false) ob)))))) (zaV.okL ht n k _ _ _ _ _ _ _ _ h)
    ·exact zF (pK1 (o5 (zi (ng h5) (zy h6 (zW (rfl:false=false) 15 ob))))) (zaV.okL ht n k _ _ _ _ _ _ _ _ h)
   ·cases h
    exact zw (pK1 (o5 (zi (ng h5) ob))) (fun h=>by cases h)
  ·cases h
   exact zw (pK1 (zD (zn zh.zl (l:=a6)) (zi h1 ob))) (fun h=>by cases h)
theorem zbP.okL (ht:TabOk t call) (n:Nat):∀(k:Nat) (a1 a2 a3 a4:Int) (a5:ByteArray) (a6 a7:List zh) (r:_),zbP t n k a1 a2 a3 a4 a5 a6 a7=some r→loopN (exec (env Tryz.prog 79 Tryz.f79 call) n (sub [1,1,1,0,1,0,0] (zq Tryz.f79))) k (mkSt 68 68 [(1,(I6 a1)),(2,(.ptr 2 0 [] 0)),(6,(I6 a2))] [(2,(.t (.st [(.v (.int .i64 a3)),(.v (.int .i64 a4)),(.v (.string a5)),(.sl false 5 (zh.ts a6)),(.sl false 5 (zh.ts a7))])))])=some (zbP.to r)
 | 0,a1,a2,a3,a4,a5,a6,a7,r,h=>by rw[zbP]at h;cases h
 | k+1,a1,a2,a3,a4,a5,a6,a7,r,h=>by
  rw[zbP]at h
  rcases fk h with ⟨h1,h⟩ | ⟨h1,h⟩
  ·obtain⟨h2,h⟩:=ck h
   obtain⟨⟨a8,a9,a10,a11,a12⟩,h3,h⟩:=sm h
   obtain⟨a13,h4,h⟩:=sm h
   rcases fk h with ⟨h5,h⟩ | ⟨h5,h⟩
   ·exact zF (pK1 (zD (zn zh.zl (l:=a7)) (zi h1 (zae h2 (zab (zu zh.zl h3) (zN (ht.za7 _ _ _ h4) (zi (ng h5) ob))))))) (zbP.okL ht n k _ _ _ _ _ _ _ _ h)
   ·cases h
    exact zw (pK1 (zD (zn zh.zl (l:=a7)) (zi h1 (zae h2 (zab (zu zh.zl h3) (zN (ht.za7 _ _ _ h4) (zi (ng h5) ob))))))) (fun h=>by cases h)
  ·cases h
   exact zw (pK1 (zD (zn zh.zl (l:=a7)) (zi h1 ob))) (fun h=>by cases h)
theorem zem.ok (ht:TabOk t call) (n:Nat) (a1 a2 a3:Int) (a4:ByteArray) (a5 a6:List zh) (r:_) (h:zem t n a1 a2 a3 a4 a5 a6=some r):exec (env Tryz.prog 79 Tryz.f79 call) n (sub [1,1,1] (zq Tryz.f79)) (mkSt 68 68 [(1,(I6 a1)),(2,(.ptr 2 0 [] 0))] [(2,(.t (.st [(.v (.int .i64 a2)),(.v (.int .i64 a3)),(.v (.string a4)),(.sl false 5 (zh.ts a5)),(.sl false 5 (zh.ts a6))])))])=some (zem.to r):=by
 rw[zem]at h
 obtain⟨a7 | ⟨a8,a9,a10,a11,a12,a13,a14,a15⟩,h1,h⟩:=sm h
 ·cases h
  exact pK1 (zaS (lk (sub [1,1,1,0,1,0] (zq Tryz.f79)) (by kernel_rfl) (zbP.okL ht n n _ _ _ _ _ _ _ _ h1)) ob)
 ·cases h
  exact pK1 (zaS (lk (sub [1,1,1,0,1,0] (zq Tryz.f79)) (by kernel_rfl) (zbP.okL ht n n _ _ _ _ _ _ _ _ h1)) ob)
theorem zen.ok (ht:TabOk t call) (n:Nat) (a1 a2 a3:Int) (a4:ByteArray) (a5 a6:List zh) (r:_) (h:zen t n a1 a2 a3 a4 a5 a6=some r):exec (env Tryz.prog 79 Tryz.f79 call) n (sub [1,1] (zq Tryz.f79)) (mkSt 68 68 [(1,(I6 a1)),(2,(.ptr 2 0 [] 0))] [(2,(.t (.st [(.v (.int .i64 a2)),(.v (.int .i64 a3)),(.v (.string a4)),(.sl false 5 (zh.ts a5)),(.sl false 5 (zh.ts a6))])))])=some (zen.to r):=by
 rw[zen]at h
 obtain⟨a7 | ⟨a8,a9,a10,a11,a12,a13,a14,a15⟩,h1,h⟩:=sm h
 ·cases h
  exact pK1 (zaS (lk (sub [1,1,0,1,0] (zq Tryz.f79)) (by kernel_rfl) (zaV.okL ht n n _ _ _ _ _ _ _ _ h1)) ob)
 ·obtain⟨a16,rfl⟩:∃z_,z_=r:=⟨_,rfl⟩
  have h2:=h
  exact pK1 (zaS (lk (sub [1,1,0,1,0] (zq Tryz.f79)) (by kernel_rfl) (zaV.okL ht n n _ _ _ _ _ _ _ _ h1)) (zI (zem.ok ht n _ _ _ _ _ _ _ h2) ob))
theorem za7.ok {n:Nat} {t:Tab} (ht:TabOk t (run Tryz.prog own kp X n)):∀(p1:zh) (p2:Int) r,za7 t n p1 p2=some r→run Tryz.prog own kp X (n+1) 79 [(.t (zh.t p1)),(I6 p2)] []=some ((Bo r),[]):=by
 intro p1 p2 r h
 obtain⟨a1,a2,a3,a4,a5⟩:=p1
 obtain⟨a6,rfl⟩:∃z_,z_=p2:=⟨_,rfl⟩
 rw[za7]at h
 rcases fk h with ⟨h1,h⟩ | ⟨h1,h⟩
 ·cases h
  exact zk Tryz.func79 (zah h1 (zck 1 ob)) (by kernel_rfl)
 ·obtain⟨a7,h2,h⟩:=sm h
  rcases fk h with ⟨h3,h⟩ | ⟨h3,h⟩
  ·obtain⟨a8,rfl⟩:∃z_,z_=r:=⟨_,rfl⟩
   have h4:=h
   exact zk Tryz.func79 (zX h1 (zN (ht.zdw _ _ h2) (zX h1 (zi (ng h3) (zI (zen.ok ht n _ _ _ _ _ _ _ h4) ob))))) (by kernel_rfl)
  ·cases h
   exact zk Tryz.func79 (zX h1 (zN (ht.zdw _ _ h2) (zX h1 (zi (ng h3) ob)))) (by kernel_rfl)
theorem zbQ.ok (ht:TabOk t call) (n:Nat) (a1 a2 a3:Int) (a4 a5:Bool) (a6:Int) (a7:List zh) (a8:List GPred) (r:_) (h:zbQ t n a1 a2 a3 a4 a5 a6 a7 a8=some r):exec (env Tryz.prog 80 Tryz.f80 call) n (sub [1,1,1,1,0,1,0,1,1,1,1,1,1,1,1,1] (zq Tryz.f80)) (mkSt 105 105 [(1,(I6 a1)),(2,(.ptr 2 0 [] 0)),(5,(I6 a2)),(6,(I6 a3)),(7,(Bo a4)),(59,(Bo a5))] [(2,(.t (.st [(.v (.int .i64 a6)),(.sl false 5 (zh.ts a7)),(.sl false 3 (GPred.ts a8))])))])=some (zbQ.to r):=by
 rw[zbQ]at h
 rcases fk h with ⟨h1,h⟩ | ⟨h1,h⟩
 ·rcases fk h with ⟨h2,h⟩ | ⟨h2,h⟩
  ·rcases fk h with ⟨h3,h⟩ | ⟨h3,h⟩
   ·cases h
    exact pK1 (zi h1 (zy h2 (zy h3 ob)))
   ·cases h
    exact pK1 (zi h1 (zy h2 (zy h3 ob)))
  ·cases h
   exact pK1 (zi h1 (zy h2 (zy (rfl:false=false) ob)))
 ·cases h
  exact pK1 (zi h1 ob)
theorem zaW.ok (ht:TabOk t call) (n:Nat) (a1 a2 a3:Int) (a4:Bool) (a5:Int) (a6:Bool) (a7:Int) (a8:List zh) (a9:List GPred) (r:_) (h:zaW t n a1 a2 a3 a4 a5 a6 a7 a8 a9=some r):exec (env Tryz.prog 80 Tryz.f80 call) n (sub [1,1,1,1,0,1,0,1,1,1,1,1] (zq Tryz.f80)) (mkSt 105 105 [(1,(I6 a1)),(2,(.ptr 2 0 [] 0)),(5,(I6 a2)),(6,(I6 a3)),(7,(Bo a4)),(18,(I6 a5)),(42,(Bo a6))] [(2,(.t (.st [(.v (.int .i64 a7)),(.sl false 5 (zh.ts a8)),(.sl false 3 (GPred.ts a9))])))])=some (zaW.to r):=by
 rw[zaW]at h
 rcases fk h with ⟨h1,h⟩ | ⟨h1,h⟩
 ·rcases fk h with ⟨h2,h⟩ | ⟨h2,h⟩
  ·cases h
   exact pK1 (zi h1 (zy h2 ob))
  ·cases h
   exact pK1 (zi h1 (zy h2 ob))
 ·rcases fk h with ⟨h3,h⟩ | ⟨h3,h⟩
  ·rcases fk h with ⟨h4,h⟩ | ⟨h4,h⟩
   ·cases h
    exact pK1 (zi h1 (zi h3 (zy h4 ob)))
   ·cases h
    exact pK1 (zi h1 (zi h3 (zy h4 ob)))
  ·rcases fk h with ⟨h5,h⟩ | ⟨h5,h⟩
   ·obtain⟨a10,a11,a12,a13,a14,a15,a16⟩:=r
    have h6:=h
    exact pK1 (zi h1 (zi h3 (zi h5 (zI (zbQ.ok ht n _ _ _ _ _ _ _ _ _ h6) ob))))
   ·obtain⟨a17,a18,a19,a20,a21,a22,a23⟩:=r
    have h7:=h
    exact pK1 (zi h1 (zi h3 (zi h5 (zI (zbQ.ok ht n _ _ _ _ _ _ _ _ _ h7) ob))))
theorem zaD.ok (ht:TabOk t call) (n:Nat) (a1 a2 a3:Int) (a4:Bool) (a5:Int) (a6:Bool) (a7:Int) (a8:List zh) (a9:List GPred) (r:_) (h:zaD t n a1 a2 a3 a4 a5 a6 a7 a8 a9=some r):exec (env Tryz.prog 80 Tryz.f80 call) n (sub [1,1,1,1,0,1,0,1,1,1] (zq Tryz.f80)) (mkSt 105 105 [(1,(I6 a1)),(2,(.ptr 2 0 [] 0)),(5,(I6 a2)),(6,(I6 a3)),(7,(Bo a4)),(18,(I6 a5)),(32,(Bo a6))] [(2,(.t (.st [(.v (.int .i64 a7)),(.sl false 5 (zh.ts a8)),(.sl false 3 (GPred.ts a9))])))])=some (zaD.to r):=by
 rw[zaD]at h
 rcases fk h with ⟨h1,h⟩ | ⟨h1,h⟩
 ·rcases fk h with ⟨h2,h⟩ | ⟨h2,h⟩
  ·cases h
   exact pK1 (zi h1 (zy h2 ob))
  ·cases h
   exact pK1 (zi h1 (zy h2 ob))
 ·rcases fk h with ⟨h3,h⟩ | ⟨h3,h⟩
  ·obtain⟨a10,a11,a12,a13,a14,a15,a16⟩:=r
   have h4:=h
   exact pK1 (zi h1 (zi h3 (zI (zaW.ok ht n _ _ _ _ _ _ _ _ _ _ h4) ob)))
  ·obtain⟨a17,a18,a19,a20,a21,a22,a23⟩:=r
   have h5:=h
   exact pK1 (zi h1 (zi h3 (zI (zaW.ok ht n _ _ _ _ _ _ _ _ _ _ h5) ob)))
theorem zZ.ok (ht:TabOk t call) (n:Nat) (a1 a2 a3:Int) (a4:Bool) (a5:Int) (a6:Bool) (a7:Int) (a8:List zh) (a9:List GPred) (r:_) (h:zZ t n a1 a2 a3 a4 a5 a6 a7 a8 a9=some r):exec (env Tryz.prog 80 Tryz.f80 call) n (sub [1,1,1,1,0,1,0,1] (zq Tryz.f80)) (mkSt 105 105 [(1,(I6 a1)),(2,(.ptr 2 0 [] 0)),(5,(I6 a2)),(6,(I6 a3)),(7,(Bo a4)),(18,(I6 a5)),(19,(Bo a6))] [(2,(.t (.st [(.v (.int .i64 a7)),(.sl false 5 (zh.ts a8)),(.sl false 3 (GPred.ts a9))])))])=some (zZ.to r):=by
 rw[zZ]at h
 rcases fk h with ⟨h1,h⟩ | ⟨h1,h⟩
 ·rcases fk h with ⟨h2,h⟩ | ⟨h2,h⟩
  ·cases h
   exact pK1 (zi h1 (zy h2 ob))
  ·cases h
   exact pK1 (zi h1 (zy h2 ob))
 ·rcases fk h with ⟨h3,h⟩ | ⟨h3,h⟩
  ·obtain⟨a10,a11,a12,a13,a14,a15,a16⟩:=r
   have h4:=h
   exact pK1 (zi h1 (zi h3 (zI (zaD.ok ht n _ _ _ _ _ _ _ _ _ _ h4) ob)))
  ·rcases fk h with ⟨h5,h⟩ | ⟨h5,h⟩
   ·obtain⟨a17,a18,a19,a20,a21,a22,a23⟩:=r
    have h6:=h
    exact pK1 (zi h1 (zi h3 (zi h5 (zI (zaD.ok ht n _ _ _ _ _ _ _ _ _ _ h6) ob))))
   ·obtain⟨a24,a25,a26,a27,a28,a29,a30⟩:=r
    have h7:=h
    exact pK1 (zi h1 (zi h3 (zi h5 (zI (zaD.ok ht n _ _ _ _ _ _ _ _ _ _ h7) ob))))
theorem zbR.okL (ht:TabOk t call) (n:Nat):∀(k:Nat) (a1 a2 a3 a4 a5:Int) (a6:List zh) (a7:List GPred) (r:_),zbR t n k a1 a2 a3 a4 a5 a6 a7=some r→loopN (exec (env Tryz.prog 80 Tryz.f80 call) n (sub [1,1,1,1,1,1,0,1,0,0] (zq Tryz.f80))) k (mkSt 105 105 [(1,(I6 a1)),(2,(.ptr 2 0 [] 0)),(5,(I6 a2)),(6,(I6 a3)),(8,(I6 a4))] [(2,(.t (.st [(.v (.int .i64 a5)),(.sl false 5 (zh.ts a6)),(.sl false 3 (GPred.ts a7))])))])=some (zbR.to r)
 | 0,a1,a2,a3,a4,a5,a6,a7,r,h=>by rw[zbR]at h;cases h
 | k+1,a1,a2,a3,a4,a5,a6,a7,r,h=>by
  rw[zbR]at h
  rcases fk h with ⟨h1,h⟩ | ⟨h1,h⟩
  ·obtain⟨h2,h⟩:=ck h
   obtain⟨⟨a8,a9,a10,a11,a12⟩,h3,h⟩:=sm h
   obtain⟨a13,h4,h⟩:=sm h
   rcases fk h with ⟨h5,h⟩ | ⟨h5,h⟩
   ·cases h
    exact zw (pK1 (zi h1 (zae h2 (zab (zu zh.zl h3) (zN (ht.zce _ _ h4) (zi h5 ob)))))) (fun h=>by cases h)
   ·exact zF (pK1 (zi h1 (zae h2 (zab (zu zh.zl h3) (zN (ht.zce _ _ h4) (zi h5 ob)))))) (zbR.okL ht n k _ _ _ _ _ _ _ _ h)
  ·cases h
   exact zw (pK1 (zi h1 ob)) (fun h=>by cases h)
theorem zbS.okL (ht:TabOk t call) (n:Nat):∀(k:Nat) (a1 a2 a3 a4:Int) (a5:List zh) (a6:List GPred) (r:_),zbS t n k a1 a2 a3 a4 a5 a6=some r→loopN (exec (env Tryz.prog 80 Tryz.f80 call) n (sub [1,1,1,1,1,1,1,0,1,0,0] (zq Tryz.f80))) k (mkSt 105 105 [(1,(I6 a1)),(2,(.ptr 2 0 [] 0)),(6,(I6 a2)),(10,(I6 a3))] [(2,(.t (.st [(.v (.int .i64 a4)),(.sl false 5 (zh.ts a5)),(.sl false 3 (GPred.ts a6))])))])=some (zbS.to r)
 | 0,a1,a2,a3,a4,a5,a6,r,h=>by rw[zbS]at h;cases h
 | k+1,a1,a2,a3,a4,a5,a6,r,h=>by
  rw[zbS]at h
  rcases fk h with ⟨h1,h⟩ | ⟨h1,h⟩
  ·obtain⟨h2,h⟩:=ck h
   obtain⟨⟨a7,a8,a9⟩,h3,h⟩:=sm h
   obtain⟨a10,h4,h⟩:=sm h
   rcases fk h with ⟨h5,h⟩ | ⟨h5,h⟩
   ·exact zF (pK1 (zi h1 (zae h2 (zab (zu GPred.zl h3) (zN (ht.zbp _ _ _ h4) (zi (ng h5) ob)))))) (zbS.okL ht n k _ _ _ _ _ _ _ h)
   ·cases h
    exact zw (pK1 (zi h1 (zae h2 (zab (zu GPred.zl h3) (zN (ht.zbp _ _ _ h4) (zi (ng h5) ob)))))) (fun h=>by cases h)
  ·cases h
   exact zw (pK1 (zi h1 ob)) (fun h=>by cases h)
theorem zeo.ok (ht:TabOk t call) (n:Nat) (a1 a2 a3:Int) (a4:List zh) (a5:List GPred) (r:_) (h:zeo t n a1 a2 a3 a4 a5=some r):exec (env Tryz.prog 80 Tryz.f80 call) n (sub [1,1,1,1,1,1,1] (zq Tryz.f80)) (mkSt 105 105 [(1,(I6 a1)),(2,(.ptr 2 0 [] 0)),(6,(I6 a2))] [(2,(.t (.st [(.v (.int .i64 a3)),(.sl false 5 (zh.ts a4)),(.sl false 3 (GPred.ts a5))])))])=some (zeo.to r):=by
 rw[zeo]at h
 obtain⟨a6 | ⟨a7,a8,a9,a10,a11,a12,a13⟩,h1,h⟩:=sm h
 ·cases h
  exact pK1 (zaS (lk (sub [1,1,1,1,1,1,1,0,1,0] (zq Tryz.f80)) (by kernel_rfl) (zbS.okL ht n n _ _ _ _ _ _ _ h1)) ob)
 ·cases h
  exact pK1 (zaS (lk (sub [1,1,1,1,1,1,1,0,1,0] (zq Tryz.f80)) (by kernel_rfl) (zbS.okL ht n n _ _ _ _ _ _ _ h1)) ob)
theorem zdC.ok (ht:TabOk t call) (n:Nat) (a1 a2 a3 a4:Int) (a5:List zh) (a6:List GPred) (r:_) (h:zdC t n a1 a2 a3 a4 a5 a6=some r):exec (env Tryz.prog 80 Tryz.f80 call) n (sub [1,1,1,1,1,1] (zq Tryz.f80)) (mkSt 105 105 [(1,(I6 a1)),(2,(.ptr 2 0 [] 0)),(5,(I6 a2)),(6,(I6 a3))] [(2,(.t (.st [(.v (.int .i64 a4)),(.sl false 5 (zh.ts a5)),(.sl false 3 (GPred.ts a6))])))])=some (zdC.to r):=by
 rw[zdC]at h
 obtain⟨a7 | ⟨a8,a9,a10,a11,a12,a13,a14,a15⟩,h1,h⟩:=sm h
 ·cases h
  exact pK1 (zaS (lk (sub [1,1,1,1,1,1,0,1,0] (zq Tryz.f80)) (by kernel_rfl) (zbR.okL ht n n _ _ _ _ _ _ _ _ h1)) ob)
 ·obtain⟨a16,rfl⟩:∃z_,z_=r:=⟨_,rfl⟩
  have h2:=h
  exact pK1 (zaS (lk (sub [1,1,1,1,1,1,0,1,0] (zq Tryz.f80)) (by kernel_rfl) (zbR.okL ht n n _ _ _ _ _ _ _ _ h1)) (zI (zeo.ok ht n _ _ _ _ _ _ h2) ob))
theorem zaF.ok (ht:TabOk t call) (n:Nat) (a1 a2 a3:Int) (a4:Bool) (a5:Int) (a6:List zh) (a7:List GPred) (r:_) (h:zaF t n a1 a2 a3 a4 a5 a6 a7=some r):exec (env Tryz.prog 80 Tryz.f80 call) n (sub [1,1,1,1,1] (zq Tryz.f80)) (mkSt 105 105 [(1,(I6 a1)),(2,(.ptr 2 0 [] 0)),(5,(I6 a2)),(6,(I6 a3)),(7,(Bo a4))] [(2,(.t (.st [(.v (.int .i64 a5)),(.sl false 5 (zh.ts a6)),(.sl false 3 (GPred.ts a7))])))])=some (zaF.to r):=by
 rw[zaF]at h
 rcases fk h with ⟨h1,h⟩ | ⟨h1,h⟩
 ·rcases fk h with ⟨h2,h⟩ | ⟨h2,h⟩
  ·cases h
   exact pK1 (zy (ng h1) (zi h2 ob))
  ·obtain⟨a8,rfl⟩:∃z_,z_=r:=⟨_,rfl⟩
   have h3:=h
   exact pK1 (zy (ng h1) (zi h2 (zI (zdC.ok ht n _ _ _ _ _ _ _ h3) ob)))
 ·cases h
  exact pK1 (zy (ng h1) (zck 1 ob))
theorem zbp.ok {n:Nat} {t:Tab} (ht:TabOk t (run Tryz.prog own kp X n)):∀(p1:GPred) (p2:Int) r,zbp t n p1 p2=some r→run Tryz.prog own kp X (n+1) 80 [(.t (GPred.t p1)),(I6 p2)] []=some ((Bo r),[]):=by
 intro p1 p2 r h
 obtain⟨a1,a2,a3⟩:=p1
 obtain⟨a4,rfl⟩:∃z_,z_=p2:=⟨_,rfl⟩
 rw[zbp]at h
 have o2 {os} (x:Obls (env Tryz.prog 80 Tryz.f80 (run Tryz.prog own kp X n)) n os):=zD (zn zh.zl (l:=a2)) (zD (zn GPred.zl (l:=a3)) x)
 rcases fk h with ⟨h1,h⟩ | ⟨h1,h⟩
 ·obtain⟨⟨a5,a6,a7,a8,a9,a10,a11⟩,h2,h⟩:=sm h
  obtain⟨a12,rfl⟩:∃z_,z_=r:=⟨_,rfl⟩
  have h3:=h
  exact zk Tryz.func80 (o2 (zi h1 (zI (zZ.ok ht n _ _ _ _ _ _ _ _ _ _ h2) (zI (zaF.ok ht n _ _ _ _ _ _ _ _ h3) ob)))) (by kernel_rfl)
 ·rcases fk h with ⟨h4,h⟩ | ⟨h4,h⟩
  ·obtain⟨⟨a13,a14,a15,a16,a17,a18,a19⟩,h5,h⟩:=sm h
   obtain⟨a20,rfl⟩:∃z_,z_=r:=⟨_,rfl⟩
   have h6:=h
   exact zk Tryz.func80 (o2 (zi h1 (zi h4 (zI (zZ.ok ht n _ _ _ _ _ _ _ _ _ _ h5) (zI (zaF.ok ht n _ _ _ _ _ _ _ _ h6) ob))))) (by kernel_rfl)
  ·rcases fk h with ⟨h7,h⟩ | ⟨h7,h⟩
   ·obtain⟨⟨a21,a22,a23,a24,a25,a26,a27⟩,h8,h⟩:=sm h
    obtain⟨a28,rfl⟩:∃z_,z_=r:=⟨_,rfl⟩
    have h9:=h
    exact zk Tryz.func80 (o2 (zi h1 (zi h4 (zi h7 (zI (zZ.ok ht n _ _ _ _ _ _ _ _ _ _ h8) (zI (zaF.ok ht n _ _ _ _ _ _ _ _ h9) ob)))))) (by kernel_rfl)
   ·rcases fk h with ⟨h10,h⟩ | ⟨h10,h⟩
    ·obtain⟨⟨a29,a30,a31,a32,a33,a34,a35⟩,h11,h⟩:=sm h
     obtain⟨a36,rfl⟩:∃z_,z_=r:=⟨_,rfl⟩
     have h12:=h
     exact zk Tryz.func80 (o2 (zi h1 (zi h4 (zi h7 (zi h10 (zI (zZ.ok ht n _ _ _ _ _ _ _ _ _ _ h11) (zI (zaF.ok ht n _ _ _ _ _ _ _ _ h12) ob))))))) (by kernel_rfl)
    ·rcases fk h with ⟨h13,h⟩ | ⟨h13,h⟩
     ·obtain⟨⟨a37,a38,a39,a40,a41,a42,a43⟩,h14,h⟩:=sm h
      obtain⟨a44,rfl⟩:∃z_,z_=r:=⟨_,rfl⟩
      have h15:=h
      exact zk Tryz.func80 (o2 (zi h1 (zi h4 (zi h7 (zi h10 (zi h13 (zI (zZ.ok ht n _ _ _ _ _ _ _ _ _ _ h14) (zI (zaF.ok ht n _ _ _ _ _ _ _ _ h15) ob)))))))) (by kernel_rfl)
     ·obtain⟨⟨a45,a46,a47,a48,a49,a50,a51⟩,h16,h⟩:=sm h
      obtain⟨a52,rfl⟩:∃z_,z_=r:=⟨_,rfl⟩
      have h17:=h
      exact zk Tryz.func80 (o2 (zi h1 (zi h4 (zi h7 (zi h10 (zi h13 (zI (zZ.ok ht n _ _ _ _ _ _ _ _ _ _ h16) (zI (zaF.ok ht n _ _ _ _ _ _ _ _ h17) ob)))))))) (by kernel_rfl)
theorem zb2.ok (ht:TabOk t call) (n:Nat) (a1 a2 a3:Int) (a4 a5:List GStep) (a6 a7:Int) (a8:List (List GStep)) (a9 a10:Int) (a11:Bool) (r:_) (h:zb2 t n a1 a2 a3 a4 a5 a6 a7 a8 a9 a10 a11=some r):exec (env Tryz.prog 69 Tryz.f69 call) n (sub [1,1,0,1,0,0,1,1,0,0,1,1,1,0,0,1,1,0,0,1,1] (zq Tryz.f69)) (mkSt 50 50 [(1,(I6 a1)),(2,(I6 a2)),(7,(I6 a3)),(11,(Sl 14 (GStep.ts a4))),(12,(Sl 14 (GStep.ts a5))),(13,(I6 a6)),(14,(I6 a7)),(25,(Sl 1 (zo a8))),(26,(I6 a9)),(27,(I6 a10)),(37,(Bo a11))] [])=some (zb2.to r):=by
 rw[zb2]at h
 rcases fk h with ⟨h1,h⟩ | ⟨h1,h⟩
 ·obtain⟨a12,h2,h⟩:=sm h
  cases h
  exact pK1 (zi h1 (zN (ht.zcK _ _ _ _ h2) ob))
 ·cases h
  exact pK1 (zi h1 ob)
theorem za3.okL (ht:TabOk t call) (n:Nat):∀(k:Nat) (a1 a2 a3:Int) (a4:List GStep) (a5 a6:Int) (a7:List (List GStep)) (a8 a9:Int) (r:_),za3 t n k a1 a2 a3 a4 a5 a6 a7 a8 a9=some r→loopN (exec (env Tryz.prog 69 Tryz.f69 call) n (sub [1,1,0,1,0,0,1,1,0,0,1,1,1,0,0] (zq Tryz.f69))) k (mkSt 50 50 [(1,(I6 a1)),(2,(I6 a2)),(7,(I6 a3)),(12,(Sl 14 (GStep.ts a4))),(13,(I6 a5)),(14,(I6 a6)),(25,(Sl 1 (zo a7))),(26,(I6 a8)),(27,(I6 a9))] [])=some (za3.to r)
 | 0,a1,a2,a3,a4,a5,a6,a7,a8,a9,r,h=>by rw[za3]at h;cases h
 | k+1,a1,a2,a3,a4,a5,a6,a7,a8,a9,r,h=>by
  rw[za3]at h
  rcases fk h with ⟨h1,h⟩ | ⟨h1,h⟩
  ·obtain⟨h2,h⟩:=ck h
   obtain⟨a10,h3,h⟩:=sm h
   rcases fk h with ⟨h4,h⟩ | ⟨h4,h⟩
   ·obtain⟨⟨a11,a12,a13,a14,a15,a16,a17,a18,a19⟩,h5,h⟩:=sm h
    exact zF (pK1 (zi h1 (zae h2 (zab (zu zx h3) (zah h4 (zI (zb2.ok ht n _ _ _ _ _ _ _ _ _ _ _ _ h5) ob)))))) (za3.okL ht n k _ _ _ _ _ _ _ _ _ _ h)
   ·obtain⟨⟨a20,a21,a22,a23,a24,a25,a26,a27,a28⟩,h6,h⟩:=sm h
    exact zF (pK1 (zi h1 (zae h2 (zab (zu zx h3) (zah h4 (zI (zb2.ok ht n _ _ _ _ _ _ _ _ _ _ _ _ h6) ob)))))) (za3.okL ht n k _ _ _ _ _ _ _ _ _ _ h)
  ·cases h
   exact zw (pK1 (zi h1 ob)) (fun h=>by cases h)
theorem zbm.okL (ht:TabOk t call) (n:Nat):∀(k:Nat) (a1 a2 a3:Int) (a4:List GStep) (a5 a6:Int) (r:_),zbm t n k a1 a2 a3 a4 a5 a6=some r→loopN (exec (env Tryz.prog 69 Tryz.f69 call) n (sub [1,1,0,1,0,0] (zq Tryz.f69))) k (mkSt 50 50 [(1,(I6 a1)),(2,(I6 a2)),(7,(I6 a3)),(12,(Sl 14 (GStep.ts a4))),(13,(I6 a5)),(14,(I6 a6))] [])=some (zbm.to r)
 | 0,a1,a2,a3,a4,a5,a6,r,h=>by rw[zbm]at h;cases h
 | k+1,a1,a2,a3,a4,a5,a6,r,h=>by
  rw[zbm]at h
  rcases fk h with ⟨h1,h⟩ | ⟨h1,h⟩
  ·obtain⟨h2,h⟩:=ck h
   obtain⟨⟨a7,a8,a9,⟨a10,a11,a12,a13,a14⟩,⟨a15,a16,a17⟩,a18,a19,a20⟩,h3,h⟩:=sm h
   rcases fk h with ⟨h4,h⟩ | ⟨h4,h⟩
   ·cases h
    exact zw (pK1 (zi h1 (zae h2 (zab (zu GStep.zl h3) (zi h4 ob))))) (fun h=>by cases h)
   ·obtain⟨a21,h5,h⟩:=sm h
    obtain⟨⟨a22,a23,a24,a25,a26,a27,a28,a29,a30,a31⟩,h6,h⟩:=sm h
    exact zF (pK1 (zi h1 (zae h2 (zab (zu GStep.zl h3) (zi h4 (zN (ht.zdW _ _ h5) (zD (zn zx (l:=a21)) (zaS (lk (sub [1,1,0,1,0,0,1,1,0,0,1,1,1,0] (zq Tryz.f69)) (by kernel_rfl) (za3.okL ht n n _ _ _ _ _ _ _ _ _ _ h6)) ob)))))))) (zbm.okL ht n k _ _ _ _ _ _ _ h)
  ·cases h
   exact zw (pK1 (zi h1 ob)) (fun h=>by cases h)
theorem zcK.ok {n:Nat} {t:Tab} (ht:TabOk t (run Tryz.prog own kp X n)):∀(p1:List GStep) (p2:Int) (p3:Int) r,zcK t n p1 p2 p3=some r→run Tryz.prog own kp X (n+1) 69 [(Sl 14 (GStep.ts p1)),(I6 p2),(I6 p3)] []=some ((I6 r),[]):=by
 intro p1 p2 p3 r h
 obtain⟨a1,rfl⟩:∃z_,z_=p1:=⟨_,rfl⟩
 obtain⟨a2,rfl⟩:∃z_,z_=p2:=⟨_,rfl⟩
 obtain⟨a3,rfl⟩:∃z_,z_=p3:=⟨_,rfl⟩
 rw[zcK]at h
 obtain⟨a4 | ⟨a5,a6,a7,a8,a9,a10,a11⟩,h1,h⟩:=sm h
 ·cases h
  exact zk Tryz.func69 (zD (zn GStep.zl (l:=a1)) (zaS (lk (sub [1,1,0,1,0] (zq Tryz.f69)) (by kernel_rfl) (zbm.okL ht n n _ _ _ _ _ _ _ h1)) ob)) (by kernel_rfl)
 ·cases h
  exact zk Tryz.func69 (zD (zn GStep.zl (l:=a1)) (zaS (lk (sub [1,1,0,1,0] (zq Tryz.f69)) (by kernel_rfl) (zbm.okL ht n n _ _ _ _ _ _ _ h1)) ob)) (by kernel_rfl)
theorem zP.ok {n:Nat} {t:Tab} (ht:TabOk t (run Tryz.prog own kp X n)):∀(p1:List GStep) (p2:Int) r,zP t n p1 p2=some r→run Tryz.prog own kp X (n+1) 70 [(Sl 14 (GStep.ts p1)),(.fn 71 [(.ref (.v (.int .i64 p2)))])] []=some ((Bo r),[]):=by
 intro p1 p2 r h
 obtain⟨a1,rfl⟩:∃z_,z_=p1:=⟨_,rfl⟩
 obtain⟨a2,rfl⟩:∃z_,z_=p2:=⟨_,rfl⟩
 rw[zP]at h
 obtain⟨a3,h1,h⟩:=sm h
 cases h
 exact zk Tryz.func70 (zN (ht.zaj _ _ _ h1) ob) (by kernel_rfl)
theorem zdq.ok {n:Nat} {t:Tab} (ht:TabOk t (run Tryz.prog own kp X n)):∀(p1:zh) r,zdq t n p1=some r→run Tryz.prog own kp X (n+1) 47 [(.t (zh.t p1))] []=some ((.t (zh.t r)),[]):=by
 intro p1 r h
 obtain⟨a1,a2,a3,a4,a5⟩:=p1
 rw[zdq]at h
 obtain⟨a6,a7,a8,a9,a10⟩:=r
 have h1:=h
 exact zk Tryz.func47 (zN (ht.zdr _ _ _ h1) ob) (by kernel_rfl)
theorem zeq.ok {n:Nat} {t:Tab} (ht:TabOk t (run Tryz.prog own kp X n)):∀(p1:GPred) r,zeq t n p1=some r→run Tryz.prog own kp X (n+1) 48 [(.t (GPred.t p1))] []=some ((.t (GPred.t r)),[]):=by
 intro p1 r h
 obtain⟨a1,a2,a3⟩:=p1
 rw[zeq]at h
 obtain⟨a4,a5,a6⟩:=r
 have h1:=h
 exact zk Tryz.func48 (zN (ht.zdL _ _ _ h1) ob) (by kernel_rfl)
theorem zdd.okL (ht:TabOk t call) (n:Nat):∀(k:Nat) (a1:Int) (a2 a3:List (List GStep)) (a4 a5:Int) (r:_),zdd t n k a1 a2 a3 a4 a5=some r→loopN (exec (env Tryz.prog 49 Tryz.f49 call) n (sub [1,1,0,1,0,0] (zq Tryz.f49))) k (mkSt 22 22 [(1,(I6 a1)),(5,(.t (.sl true 1 (zo a2)))),(8,(Sl 1 (zo a3))),(9,(I6 a4)),(10,(I6 a5))] [])=some (zdd.to r)
 | 0,a1,a2,a3,a4,a5,r,h=>by rw[zdd]at h;cases h
 | k+1,a1,a2,a3,a4,a5,r,h=>by
  rw[zdd]at h
  rcases fk h with ⟨h1,h⟩ | ⟨h1,h⟩
  ·obtain⟨h2,h⟩:=ck h
   obtain⟨a6,h3,h⟩:=sm h
   obtain⟨a7,h4,h⟩:=sm h
   obtain⟨h5,h⟩:=cl h
   exact zF (pK1 (zi h1 (zae h2 (zab (zu zx h3) (zN (ht.za6 _ _ _ h4) (zfm (zes zx h5) (zfx (zeS zx (a:=a2) (b:=([a7]:List (List GStep)))) ob))))))) (zdd.okL ht n k _ _ _ _ _ _ h)
  ·cases h
   exact zw (pK1 (zi h1 ob)) (fun h=>by cases h)
theorem zdU.ok {n:Nat} {t:Tab} (ht:TabOk t (run Tryz.prog own kp X n)):∀(p1:List (List GStep)) (p2:Int) r,zdU t n p1 p2=some r→run Tryz.prog own kp X (n+1) 49 [(Sl 1 (zo p1)),(I6 p2)] []=some ((Sl 1 (zo r)),[]):=by
 intro p1 p2 r h
 obtain⟨a1,rfl⟩:∃z_,z_=p1:=⟨_,rfl⟩
 obtain⟨a2,rfl⟩:∃z_,z_=p2:=⟨_,rfl⟩
 rw[zdU]at h
 obtain⟨⟨a3,a4,a5,a6,a7,a8⟩,h1,h⟩:=sm h
 cases h
 exact zk Tryz.func49 (zD (zn zx (l:=a1)) (zaS (lk (sub [1,1,0,1,0] (zq Tryz.f49)) (by kernel_rfl) (zdd.okL ht n n _ _ _ _ _ _ h1)) ob)) (by kernel_rfl)
theorem zbo.ok {n:Nat} {t:Tab} (ht:TabOk t (run Tryz.prog own kp X n)):∀(p1:Int) (p2:Int) r,zbo t n p1 p2=some r→run Tryz.prog own kp X (n+1) 73 [(I6 p1),(I6 p2)] []=some ((I6 r),[]):=by
 intro p1 p2 r h
 obtain⟨a1,rfl⟩:∃z_,z_=p1:=⟨_,rfl⟩
 obtain⟨a2,rfl⟩:∃z_,z_=p2:=⟨_,rfl⟩
 rw[zbo]at h
 rcases fk h with ⟨h1,h⟩ | ⟨h1,h⟩
 ·cases h
  exact zk Tryz.func73 (zi h1 ob) (by kernel_rfl)
 ·rcases fk h with ⟨h2,h⟩ | ⟨h2,h⟩
  ·cases h
   exact zk Tryz.func73 (zi h1 (zi h2 ob)) (by kernel_rfl)
  ·cases h
   exact zk Tryz.func73 (zi h1 (zi h2 ob)) (by kernel_rfl)
theorem zcL.ok (ht:TabOk t call) (n:Nat) (a1 a2:ByteArray) (a3:Int) (r:_) (h:zcL t n a1 a2 a3=some r):exec (env Tryz.prog 74 Tryz.f74 call) n (sub [1,0,1,0,0,1] (zq Tryz.f74)) (mkSt 39 39 [(0,(Sr a1)),(1,(Sr a2)),(5,(I6 a3))] [])=some (zcL.to r):=by
 rw[zcL]at h
 obtain⟨a4,h1,h⟩:=sm h
 obtain⟨a5,h2,h⟩:=sm h
 rcases fk h with ⟨h3,h⟩ | ⟨h3,h⟩
 ·obtain⟨a6,h4,h⟩:=sm h
  cases h
  exact pK1 (zD (zh0 (P:=Tryz.prog) (t:=9) (k:=.i64) (by kernel_rfl) h1) (zD (zh0 (P:=Tryz.prog) (t:=9) (k:=.i64) (by kernel_rfl) h2) (zi h3 (zD (zh0 (P:=Tryz.prog) (t:=9) (k:=.i64) (by kernel_rfl) h1) (zD (zh0 (P:=Tryz.prog) (t:=9) (k:=.i64) (by kernel_rfl) h2) (zN (ht.zbo _ _ _ h4) ob))))))
 ·cases h
  exact pK1 (zD (zh0 (P:=Tryz.prog) (t:=9) (k:=.i64) (by kernel_rfl) h1) (zD (zh0 (P:=Tryz.prog) (t:=9) (k:=.i64) (by kernel_rfl) h2) (zi h3 ob)))
theorem zbT.okL (ht:TabOk t call) (n:Nat):∀(k:Nat) (a1 a2:ByteArray) (a3:Int) (r:_),zbT t n k a1 a2 a3=some r→loopN (exec (env Tryz.prog 74 Tryz.f74 call) n (sub [1,0,1,0,0] (zq Tryz.f74))) k (mkSt 39 39 [(0,(Sr a1)),(1,(Sr a2)),(5,(I6 a3))] [])=some (zbT.to r)
 | 0,a1,a2,a3,r,h=>by rw[zbT]at h;cases h
 | k+1,a1,a2,a3,r,h=>by
  rw[zbT]at h
  rcases fk h with ⟨h1,h⟩ | ⟨h1,h⟩
  ·rcases fk h with ⟨h2,h⟩ | ⟨h2,h⟩
   ·obtain⟨a4 | ⟨a5,a6,a7⟩,h3,h⟩:=sm h
    ·cases h
     exact zw (pK1 (zW h1 5 (zi h2 (zI (zcL.ok ht n _ _ _ _ h3) ob)))) (fun h=>by cases h)
    ·exact zF (pK1 (zW h1 5 (zi h2 (zI (zcL.ok ht n _ _ _ _ h3) ob)))) (zbT.okL ht n k _ _ _ _ h)
   ·cases h
    exact zw (pK1 (zW h1 5 (zi h2 ob))) (fun h=>by cases h)
  ·cases h
   exact zw (pK1 (zW h1 5 (zi (rfl:false=false) ob))) (fun h=>by cases h)
theorem zep.ok (ht:TabOk t call) (n:Nat) (a1 a2:ByteArray) (r:_) (h:zep t n a1 a2=some r):exec (env Tryz.prog 74 Tryz.f74 call) n (sub [1,1] (zq Tryz.f74)) (mkSt 39 39 [(0,(Sr a1)),(1,(Sr a2))] [])=some (zep.to r):=by
 rw[zep]at h
 obtain⟨a3,rfl⟩:∃z_,z_=r:=⟨_,rfl⟩
 have h1:=h
 exact pK1 (zN (ht.zbo _ _ _ h1) ob)
theorem zdY.ok {n:Nat} {t:Tab} (ht:TabOk t (run Tryz.prog own kp X n)):∀(p1:ByteArray) (p2:ByteArray) r,zdY t n p1 p2=some r→run Tryz.prog own kp X (n+1) 74 [(Sr p1),(Sr p2)] []=some ((I6 r),[]):=by
 intro p1 p2 r h
 obtain⟨a1,rfl⟩:∃z_,z_=p1:=⟨_,rfl⟩
 obtain⟨a2,rfl⟩:∃z_,z_=p2:=⟨_,rfl⟩
 rw[zdY]at h
 obtain⟨a3 | ⟨a4,a5,a6,a7⟩,h1,h⟩:=sm h
 ·cases h
  exact zk Tryz.func74 (zaS (lk (sub [1,0,1,0] (zq Tryz.f74)) (by kernel_rfl) (zbT.okL ht n n _ _ _ _ h1)) ob) (by kernel_rfl)
 ·obtain⟨a8,rfl⟩:∃z_,z_=r:=⟨_,rfl⟩
  have h2:=h
  exact zk Tryz.func74 (zaS (lk (sub [1,0,1,0] (zq Tryz.f74)) (by kernel_rfl) (zbT.okL ht n n _ _ _ _ h1)) (zI (zep.ok ht n _ _ _ h2) ob)) (by kernel_rfl)
theorem zde.ok (ht:TabOk t call) (n:Nat) (a1 a2:List zh) (a3 a4:Int) (r:_) (h:zde t n a1 a2 a3 a4=some r):exec (env Tryz.prog 75 Tryz.f75 call) n (sub [1,0,1,0,0,1] (zq Tryz.f75)) (mkSt 39 39 [(0,(Sl 5 (zh.ts a1))),(1,(Sl 5 (zh.ts a2))),(2,(I6 a3)),(7,(I6 a4))] [])=some (zde.to r):=by
 rw[zde]at h
 obtain⟨h1,h⟩:=ck h
 obtain⟨⟨a5,a6,a7,a8,a9⟩,h2,h⟩:=sm h
 obtain⟨⟨a10,a11,a12,a13,a14⟩,h3,h⟩:=sm h
 obtain⟨a15,h4,h⟩:=sm h
 rcases fk h with ⟨h5,h⟩ | ⟨h5,h⟩
 ·cases h
  exact pK1 (zae h1 (zab (zu zh.zl h2) (zae h1 (zab (zu zh.zl h3) (zN (ht.zaG _ _ _ _ h4) (zi h5 ob))))))
 ·cases h
  exact pK1 (zae h1 (zab (zu zh.zl h2) (zae h1 (zab (zu zh.zl h3) (zN (ht.zaG _ _ _ _ h4) (zi h5 ob))))))
theorem zco.okL (ht:TabOk t call) (n:Nat):∀(k:Nat) (a1 a2:List zh) (a3 a4:Int) (r:_),zco t n k a1 a2 a3 a4=some r→loopN (exec (env Tryz.prog 75 Tryz.f75 call) n (sub [1,0,1,0,0] (zq Tryz.f75))) k (mkSt 39 39 [(0,(Sl 5 (zh.ts a1))),(1,(Sl 5 (zh.ts a2))),(2,(I6 a3)),(7,(I6 a4))] [])=some (zco.to r)
 | 0,a1,a2,a3,a4,r,h=>by rw[zco]at h;cases h
 | k+1,a1,a2,a3,a4,r,h=>by
  rw[zco]at h
  rcases fk h with ⟨h1,h⟩ | ⟨h1,h⟩
  ·have o7 {os} (x:Obls (env Tryz.prog 75 Tryz.f75 call) n os):=zD (zn zh.zl (l:=a1)) (zy h1 (zD (zn zh.zl (l:=a2)) (zX h1 x)))
   rcases fk h with ⟨h2,h⟩ | ⟨h2,h⟩
   ·obtain⟨a5 | ⟨a6,a7,a8,a9⟩,h3,h⟩:=sm h
    ·cases h
     exact zw (pK1 (o7 (zi h2 (zI (zde.ok ht n _ _ _ _ _ h3) ob)))) (fun h=>by cases h)
    ·exact zF (pK1 (o7 (zi h2 (zI (zde.ok ht n _ _ _ _ _ h3) ob)))) (zco.okL ht n k _ _ _ _ _ h)
   ·cases h
    exact zw (pK1 (o7 (zi h2 ob))) (fun h=>by cases h)
  ·cases h
   exact zw (pK1 (zD (zn zh.zl (l:=a1)) (zW h1 5 (zi (rfl:false=false) ob)))) (fun h=>by cases h)
theorem zey.ok (ht:TabOk t call) (n:Nat) (a1 a2:List zh) (r:_) (h:zey t n a1 a2=some r):exec (env Tryz.prog 75 Tryz.f75 call) n (sub [1,1] (zq Tryz.f75)) (mkSt 39 39 [(0,(Sl 5 (zh.ts a1))),(1,(Sl 5 (zh.ts a2)))] [])=some (zey.to r):=by
 rw[zey]at h
 obtain⟨a3,rfl⟩:∃z_,z_=r:=⟨_,rfl⟩
 have h1:=h
 exact pK1 (zD (zn zh.zl (l:=a1)) (zD (zn zh.zl (l:=a2)) (zN (ht.zbo _ _ _ h1) ob)))
end Go.Proofs.YtgmidllbkjdnnaaGreatDoor.W
