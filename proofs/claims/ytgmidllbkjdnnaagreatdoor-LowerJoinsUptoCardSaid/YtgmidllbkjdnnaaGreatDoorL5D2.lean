/- The proofs of it, part 2. -/
import Derived.Test.YtgmidllbkjdnnaaGreatDoorL5D1
namespace Go.Proofs.YtgmidllbkjdnnaaGreatDoor.W
open Go.Proofs.YtgmidllbkjdnnaaGreatDoor.Flat
set_option smartUnfolding false
attribute [local irreducible] zaM zaN zbx zbc za0 zbv zda zb3 zaq zaA zb2 zbn zdS quoI zc7 zc8 zdI zba zbd zde zcL zac zc9 zZ zbu zcl zcQ zdF zdG zc0 zbs zc6 zc5 strAt zaQ
set_option linter.unusedVariables false
set_option linter.unusedSimpArgs false
theorem pK2 {e:Env} {k:Nat} {c:Code} {ob:List Obl} {s s':St} {x:Ex} (ho:Obls e k ob) (h:execN e c (scOf ob) s=some (x,s',[],ob):=by kernel_rfl):exec e k c s=some (x,s'):=path ho h
variable {t:Tab} {call:FuncId→List AV→List AV→Option (AV × List AV)}
theorem zdV.ok {n:Nat} {t:Tab} (ht:TabOk t (run Tryz.prog own kp X n)):∀(p1:List zh) (p2:List zh) (p3:Int) r,zdV t n p1 p2 p3=some r→run Tryz.prog own kp X (n+1) 75 [(Sl 5 (zh.ts p1)),(Sl 5 (zh.ts p2)),(I6 p3)] []=some ((I6 r),[]):=by
 intro p1 p2 p3 r h
 obtain⟨a1,rfl⟩:∃z_,z_=p1:=⟨_,rfl⟩
 obtain⟨a2,rfl⟩:∃z_,z_=p2:=⟨_,rfl⟩
 obtain⟨a3,rfl⟩:∃z_,z_=p3:=⟨_,rfl⟩
 rw[zdV]at h
 obtain⟨a4 | ⟨a5,a6,a7,a8,a9⟩,h1,h⟩:=sm h
 ·cases h
  exact zk Tryz.func75 (zaS (lk (sub [1,0,1,0] (zq Tryz.f75)) (by kernel_rfl) (zco.okL ht n n _ _ _ _ _ h1)) ob) (by kernel_rfl)
 ·obtain⟨a10,rfl⟩:∃z_,z_=r:=⟨_,rfl⟩
  have h2:=h
  exact zk Tryz.func75 (zaS (lk (sub [1,0,1,0] (zq Tryz.f75)) (by kernel_rfl) (zco.okL ht n n _ _ _ _ _ h1)) (zI (zey.ok ht n _ _ _ h2) ob)) (by kernel_rfl)
theorem zas.okL (ht:TabOk t call) (n:Nat):∀(k:Nat) (a1 a2:List GCode) (a3 a4:Int) (r:_),zas t n k a1 a2 a3 a4=some r→loopN (exec (env Tryz.prog 43 Tryz.f43 call) n (sub [1,1,0,1,0,0] (zq Tryz.f43))) k (mkSt 32 32 [(1,(Sl 14 (GCode.ts a1))),(2,(.fn 44 [])),(15,(Sl 14 (GCode.ts a2))),(16,(I6 a3)),(17,(I6 a4))] [])=some (zas.to r)
 | 0,a1,a2,a3,a4,r,h=>by rw[zas]at h;cases h
 | k+1,a1,a2,a3,a4,r,h=>by
  rw[zas]at h
  rcases fk h with ⟨h1,h⟩ | ⟨h1,h⟩
  ·obtain⟨h2,h⟩:=ck h
   obtain⟨⟨a5,a6,a7,⟨a8,a9,a10,a11,a12⟩,⟨a13,a14,a15⟩,a16,a17,a18⟩,h3,h⟩:=sm h
   obtain⟨⟨a19,a20,a21,⟨a22,a23,a24,a25,a26⟩,⟨a27,a28,a29⟩,a30,a31,a32⟩,h4,h⟩:=sm h
   obtain⟨a33,h5,h⟩:=sm h
   rcases fk h with ⟨h6,h⟩ | ⟨h6,h⟩
   ·exact zF (pK2 (zi h1 (zae h2 (zab (zu GCode.zl h3) (zae h2 (zab (zu GCode.zl h4) (zN (ht.zeE _ _ _ h5) (zi (ng h6) ob)))))))) (zas.okL ht n k _ _ _ _ _ h)
   ·cases h
    exact zw (pK2 (zi h1 (zae h2 (zab (zu GCode.zl h3) (zae h2 (zab (zu GCode.zl h4) (zN (ht.zeE _ _ _ h5) (zi (ng h6) ob)))))))) (fun h=>by cases h)
  ·cases h
   exact zw (pK2 (zi h1 ob)) (fun h=>by cases h)
theorem zaH.ok {n:Nat} {t:Tab} (ht:TabOk t (run Tryz.prog own kp X n)):∀(p1:List GCode) (p2:List GCode) r,zaH t n p1 p2=some r→run Tryz.prog own kp X (n+1) 43 [(Sl 14 (GCode.ts p1)),(Sl 14 (GCode.ts p2)),(.fn 44 [])] []=some ((Bo r),[]):=by
 intro p1 p2 r h
 obtain⟨a1,rfl⟩:∃z_,z_=p1:=⟨_,rfl⟩
 obtain⟨a2,rfl⟩:∃z_,z_=p2:=⟨_,rfl⟩
 rw[zaH]at h
 rcases fk h with ⟨h1,h⟩ | ⟨h1,h⟩
 ·cases h
  exact zk Tryz.func43 (zD (zn GCode.zl (l:=a1)) (zD (zn GCode.zl (l:=a2)) (zi h1 ob))) (by kernel_rfl)
 ·obtain⟨a3 | ⟨a4,a5,a6,a7,a8⟩,h2,h⟩:=sm h
  ·cases h
   exact zk Tryz.func43 (zD (zn GCode.zl (l:=a1)) (zD (zn GCode.zl (l:=a2)) (zi h1 (zD (zn GCode.zl (l:=a1)) (zaS (lk (sub [1,1,0,1,0] (zq Tryz.f43)) (by kernel_rfl) (zas.okL ht n n _ _ _ _ _ h2)) ob))))) (by kernel_rfl)
  ·cases h
   exact zk Tryz.func43 (zD (zn GCode.zl (l:=a1)) (zD (zn GCode.zl (l:=a2)) (zi h1 (zD (zn GCode.zl (l:=a1)) (zaS (lk (sub [1,1,0,1,0] (zq Tryz.f43)) (by kernel_rfl) (zas.okL ht n n _ _ _ _ _ h2)) ob))))) (by kernel_rfl)
theorem zcA.ok (ht:TabOk t call) (n:Nat) (a1:Int) (a2:Bool) (a3 a4:Int) (a5:ByteArray) (a6 a7:List zh) (r:_) (h:zcA t n a1 a2 a3 a4 a5 a6 a7=some r):exec (env Tryz.prog 99 Tryz.f99 call) n (sub [1,0,1,0,1,1,1,1,1,1,1,1,1] (zq Tryz.f99)) (mkSt 143 143 [(1,(.ptr 1 0 [] 0)),(4,(I6 a1)),(95,(Bo a2))] [(1,(.t (.st [(.v (.int .i64 a3)),(.v (.int .i64 a4)),(.v (.string a5)),(.sl false 5 (zh.ts a6)),(.sl false 5 (zh.ts a7))])))])=some (zcA.to r):=by
 rw[zcA]at h
 rcases fk h with ⟨h1,h⟩ | ⟨h1,h⟩
 ·rcases fk h with ⟨h2,h⟩ | ⟨h2,h⟩
  ·rcases fk h with ⟨h3,h⟩ | ⟨h3,h⟩
   ·rcases fk h with ⟨h4,h⟩ | ⟨h4,h⟩
    ·cases h
     exact pK2 (zi h1 (zah h2 (zy h3 (zD (zn zh.zl (l:=a6)) (zX h3 (zy h4 (zD (zn zh.zl (l:=a7)) (zX h4 ob))))))))
    ·cases h
     exact pK2 (zi h1 (zah h2 (zy h3 (zD (zn zh.zl (l:=a6)) (zX h3 (zW h4 5 ob))))))
   ·cases h
    exact pK2 (zi h1 (zah h2 (zW h3 5 (zW (rfl:false=false) 5 ob))))
  ·cases h
   exact pK2 (zi h1 (zah h2 (zW (rfl:false=false) 10 ob)))
 ·rcases fk h with ⟨h5,h⟩ | ⟨h5,h⟩
  ·rcases fk h with ⟨h6,h⟩ | ⟨h6,h⟩
   ·rcases fk h with ⟨h7,h⟩ | ⟨h7,h⟩
    ·rcases fk h with ⟨h8,h⟩ | ⟨h8,h⟩
     ·cases h
      exact pK2 (zi h1 (zi h5 (zah h6 (zy h7 (zD (zn zh.zl (l:=a6)) (zX h7 (zy h8 (zD (zn zh.zl (l:=a7)) (zy h8 (zD (zn zh.zl (l:=a6)) (zX h8 ob)))))))))))
     ·cases h
      exact pK2 (zi h1 (zi h5 (zah h6 (zy h7 (zD (zn zh.zl (l:=a6)) (zX h7 (zW h8 8 ob)))))))
    ·cases h
     exact pK2 (zi h1 (zi h5 (zah h6 (zW h7 5 (zW (rfl:false=false) 8 ob)))))
   ·cases h
    exact pK2 (zi h1 (zi h5 (zah h6 (zW (rfl:false=false) 13 ob))))
  ·cases h
   exact pK2 (zi h1 (zi h5 ob))
theorem zbd.ok (ht:TabOk t call) (n:Nat) (a1:Int) (a2:Bool) (a3 a4:Int) (a5:ByteArray) (a6 a7:List zh) (r:_) (h:zbd t n a1 a2 a3 a4 a5 a6 a7=some r):exec (env Tryz.prog 99 Tryz.f99 call) n (sub [1,0,1,0,1,1,1,1,1,1,1] (zq Tryz.f99)) (mkSt 143 143 [(1,(.ptr 1 0 [] 0)),(4,(I6 a1)),(72,(Bo a2))] [(1,(.t (.st [(.v (.int .i64 a3)),(.v (.int .i64 a4)),(.v (.string a5)),(.sl false 5 (zh.ts a6)),(.sl false 5 (zh.ts a7))])))])=some (zbd.to r):=by
 rw[zbd]at h
 rcases fk h with ⟨h1,h⟩ | ⟨h1,h⟩
 ·rcases fk h with ⟨h2,h⟩ | ⟨h2,h⟩
  ·rcases fk h with ⟨h3,h⟩ | ⟨h3,h⟩
   ·rcases fk h with ⟨h4,h⟩ | ⟨h4,h⟩
    ·cases h
     exact pK2 (zi h1 (zah h2 (zy h3 (zD (zn zh.zl (l:=a6)) (zX h3 (zy h4 (zD (zn zh.zl (l:=a7)) (zX h4 ob))))))))
    ·cases h
     exact pK2 (zi h1 (zah h2 (zy h3 (zD (zn zh.zl (l:=a6)) (zX h3 (zW h4 5 ob))))))
   ·cases h
    exact pK2 (zi h1 (zah h2 (zW h3 5 (zW (rfl:false=false) 5 ob))))
  ·cases h
   exact pK2 (zi h1 (zah h2 (zW (rfl:false=false) 10 ob)))
 ·rcases fk h with ⟨h5,h⟩ | ⟨h5,h⟩
  ·have h6:=h
   rcases r with a8 | _
   ·exact pK2 (zi h1 (zi h5 (zI (zcA.ok ht n _ _ _ _ _ _ _ _ h6) ob)))
   ·exact pK2 (zi h1 (zi h5 (zI (zcA.ok ht n _ _ _ _ _ _ _ _ h6) ob)))
  ·have h7:=h
   rcases r with a9 | _
   ·exact pK2 (zi h1 (zi h5 (zI (zcA.ok ht n _ _ _ _ _ _ _ _ h7) ob)))
   ·exact pK2 (zi h1 (zi h5 (zI (zcA.ok ht n _ _ _ _ _ _ _ _ h7) ob)))
theorem zdw.ok {n:Nat} {t:Tab} (ht:TabOk t (run Tryz.prog own kp X n)):∀(p1:zh) r,zdw t n p1=some r→run Tryz.prog own kp X (n+1) 99 [(.t (zh.t p1))] []=some ((Bo r),[]):=by
 intro p1 r h
 obtain⟨a1,a2,a3,a4,a5⟩:=p1
 rw[zdw]at h
 rcases fk h with ⟨h1,h⟩ | ⟨h1,h⟩
 ·rcases fk h with ⟨h2,h⟩ | ⟨h2,h⟩
  ·have o9 {os} (x:Obls (env Tryz.prog 99 Tryz.f99 (run Tryz.prog own kp X n)) n os):=zi h1 (zah h2 (zck 4 x))
   rcases fk h with ⟨h3,h⟩ | ⟨h3,h⟩
   ·rcases fk h with ⟨h4,h⟩ | ⟨h4,h⟩
    ·cases h
     exact zk Tryz.func99 (o9 (zy h3 (zD (zn zh.zl (l:=a4)) (zX h3 (zy h4 (zD (zn zh.zl (l:=a5)) (zX h4 ob))))))) (by kernel_rfl)
    ·cases h
     exact zk Tryz.func99 (o9 (zy h3 (zD (zn zh.zl (l:=a4)) (zX h3 (zW h4 5 ob))))) (by kernel_rfl)
   ·cases h
    exact zk Tryz.func99 (o9 (zW h3 5 (zW (rfl:false=false) 5 ob))) (by kernel_rfl)
  ·rcases fk h with ⟨h5,h⟩ | ⟨h5,h⟩
   ·have o9 {os} (x:Obls (env Tryz.prog 99 Tryz.f99 (run Tryz.prog own kp X n)) n os):=zi h1 (zah h2 (zah h5 x))
    rcases fk h with ⟨h6,h⟩ | ⟨h6,h⟩
    ·rcases fk h with ⟨h7,h⟩ | ⟨h7,h⟩
     ·cases h
      exact zk Tryz.func99 (o9 (zy h6 (zD (zn zh.zl (l:=a4)) (zX h6 (zy h7 (zD (zn zh.zl (l:=a5)) (zX h7 ob))))))) (by kernel_rfl)
     ·cases h
      exact zk Tryz.func99 (o9 (zy h6 (zD (zn zh.zl (l:=a4)) (zX h6 (zW h7 5 ob))))) (by kernel_rfl)
    ·cases h
     exact zk Tryz.func99 (o9 (zW h6 5 (zW (rfl:false=false) 5 ob))) (by kernel_rfl)
   ·cases h
    exact zk Tryz.func99 (zi h1 (zah h2 (zah h5 (zW (rfl:false=false) 10 ob)))) (by kernel_rfl)
 ·rcases fk h with ⟨h8,h⟩ | ⟨h8,h⟩
  ·rcases fk h with ⟨h9,h⟩ | ⟨h9,h⟩
   ·rcases fk h with ⟨h10,h⟩ | ⟨h10,h⟩
    ·cases h
     exact zk Tryz.func99 (zi h1 (zi h8 (zy h9 (zD (zn zh.zl (l:=a4)) (zX h9 (zy h10 (zD (zn zh.zl (l:=a5)) (zX h10 ob)))))))) (by kernel_rfl)
    ·cases h
     exact zk Tryz.func99 (zi h1 (zi h8 (zy h9 (zD (zn zh.zl (l:=a4)) (zX h9 (zW h10 5 ob)))))) (by kernel_rfl)
   ·cases h
    exact zk Tryz.func99 (zi h1 (zi h8 (zW h9 5 (zW (rfl:false=false) 5 ob)))) (by kernel_rfl)
  ·rcases fk h with ⟨h11,h⟩ | ⟨h11,h⟩
   ·rcases fk h with ⟨h12,h⟩ | ⟨h12,h⟩
    ·have o8 {os} (x:Obls (env Tryz.prog 99 Tryz.f99 (run Tryz.prog own kp X n)) n os):=zi h1 (zi h8 (zi h11 (zW h12 5 x)))
     rcases fk h with ⟨h13,h⟩ | ⟨h13,h⟩
     ·rcases fk h with ⟨h14,h⟩ | ⟨h14,h⟩
      ·cases h
       exact zk Tryz.func99 (o8 (zy h13 (zD (zn zh.zl (l:=a4)) (zX h13 (zy h14 (zD (zn zh.zl (l:=a5)) (zX h14 ob))))))) (by kernel_rfl)
      ·cases h
       exact zk Tryz.func99 (o8 (zy h13 (zD (zn zh.zl (l:=a4)) (zX h13 (zW h14 5 ob))))) (by kernel_rfl)
     ·cases h
      exact zk Tryz.func99 (o8 (zW h13 5 (zW (rfl:false=false) 5 ob))) (by kernel_rfl)
    ·cases h
     exact zk Tryz.func99 (zi h1 (zi h8 (zi h11 (zW h12 5 (zW (rfl:false=false) 10 ob))))) (by kernel_rfl)
   ·rcases fk h with ⟨h15,h⟩ | ⟨h15,h⟩
    ·obtain⟨a6 | _,h16,h⟩:=sm h
     ·cases h
      exact zk Tryz.func99 (zi h1 (zi h8 (zi h11 (zi h15 (zI (zbd.ok ht n _ _ _ _ _ _ _ _ h16) ob))))) (by kernel_rfl)
     ·cases h
      exact zk Tryz.func99 (zi h1 (zi h8 (zi h11 (zi h15 (zI (zbd.ok ht n _ _ _ _ _ _ _ _ h16) ob))))) (by kernel_rfl)
    ·obtain⟨a7 | _,h17,h⟩:=sm h
     ·cases h
      exact zk Tryz.func99 (zi h1 (zi h8 (zi h11 (zi h15 (zI (zbd.ok ht n _ _ _ _ _ _ _ _ h17) ob))))) (by kernel_rfl)
     ·cases h
      exact zk Tryz.func99 (zi h1 (zi h8 (zi h11 (zi h15 (zI (zbd.ok ht n _ _ _ _ _ _ _ _ h17) ob))))) (by kernel_rfl)
theorem zeB.ok {n:Nat} {t:Tab} (ht:TabOk t (run Tryz.prog own kp X n)):∀(p1:zh) (p2:zh) r,zeB t n p1 p2=some r→run Tryz.prog own kp X (n+1) 100 [(.t (zh.t p1)),(.t (zh.t p2))] []=some ((I6 r),[]):=by
 intro p1 p2 r h
 obtain⟨a1,a2,a3,a4,a5⟩:=p1
 obtain⟨a6,a7,a8,a9,a10⟩:=p2
 rw[zeB]at h
 obtain⟨a11,rfl⟩:∃z_,z_=r:=⟨_,rfl⟩
 have h1:=h
 exact zk Tryz.func100 (zN (ht.zaG _ _ _ _ h1) ob) (by kernel_rfl)
theorem zb3.ok (ht:TabOk t call) (n:Nat) (a1:List (List GStep)) (a2:List GBy) (a3 a4:Int) (a5:Bool) (a6:Int) (a7:ByteArray) (a8:List GStep) (a9:Bool) (r:_) (h:zb3 t n a1 a2 a3 a4 a5 a6 a7 a8 a9=some r):exec (env Tryz.prog 85 Tryz.f85 call) n (sub [1,1,0,1,0,0,1,1,0,0,1,1] (zq Tryz.f85)) (mkSt 32 32 [(3,(.t (.sl true 1 (zo a1)))),(5,(.ptr 5 0 [] 0)),(10,(Sl 4 (GBy.ts a2))),(11,(I6 a3)),(12,(I6 a4)),(24,(Bo a5))] [(5,(.t (.st [(.v (.int .i64 a6)),(.v (.string a7)),(.sl false 14 (GStep.ts a8)),(.v (.bool a9))])))])=some (zb3.to r):=by
 rw[zb3]at h
 rcases fk h with ⟨h1,h⟩ | ⟨h1,h⟩
 ·obtain⟨h2,h⟩:=cl h
  cases h
  exact pK2 (zi h1 (zfm (zes zx h2) (zfx (zeS zx (a:=a1) (b:=([a8]:List (List GStep)))) ob)))
 ·cases h
  exact pK2 (zi h1 ob)
theorem zcp.okL (ht:TabOk t call) (n:Nat):∀(k:Nat) (a1:List (List GStep)) (a2:List GBy) (a3 a4:Int) (r:_),zcp t n k a1 a2 a3 a4=some r→loopN (exec (env Tryz.prog 85 Tryz.f85 call) n (sub [1,1,0,1,0,0] (zq Tryz.f85))) k (mkSt 32 32 [(3,(.t (.sl true 1 (zo a1)))),(10,(Sl 4 (GBy.ts a2))),(11,(I6 a3)),(12,(I6 a4))] [])=some (zcp.to r)
 | 0,a1,a2,a3,a4,r,h=>by rw[zcp]at h;cases h
 | k+1,a1,a2,a3,a4,r,h=>by
  rw[zcp]at h
  rcases fk h with ⟨h1,h⟩ | ⟨h1,h⟩
  ·obtain⟨h2,h⟩:=ck h
   obtain⟨⟨a5,a6,a7,a8⟩,h3,h⟩:=sm h
   rcases fk h with ⟨h4,h⟩ | ⟨h4,h⟩
   ·obtain⟨⟨a9,a10,a11,a12⟩,h5,h⟩:=sm h
    exact zF (pK2 (zi h1 (zae h2 (zab (zu GBy.zl h3) (zW h4 5 (zI (zb3.ok ht n _ _ _ _ _ _ _ _ _ _ h5) ob)))))) (zcp.okL ht n k _ _ _ _ _ h)
   ·obtain⟨⟨a13,a14,a15,a16⟩,h6,h⟩:=sm h
    exact zF (pK2 (zi h1 (zae h2 (zab (zu GBy.zl h3) (zy h4 (zD (zn GStep.zl (l:=a7)) (zX h4 (zI (zb3.ok ht n _ _ _ _ _ _ _ _ _ _ h6) ob)))))))) (zcp.okL ht n k _ _ _ _ _ h)
  ·cases h
   exact zw (pK2 (zi h1 ob)) (fun h=>by cases h)
theorem zdW.ok {n:Nat} {t:Tab} (ht:TabOk t (run Tryz.prog own kp X n)):∀(p1:GStep) r,zdW t n p1=some r→run Tryz.prog own kp X (n+1) 85 [(.t (GStep.t p1))] []=some ((Sl 1 (zo r)),[]):=by
 intro p1 r h
 obtain⟨a1,a2,a3,⟨a4,a5,a6,a7,a8⟩,⟨a9,a10,a11⟩,a12,a13,a14⟩:=p1
 rw[zdW]at h
 obtain⟨a15,h1,h⟩:=sm h
 obtain⟨⟨a16,a17,a18,a19,a20⟩,h2,h⟩:=sm h
 cases h
 exact zk Tryz.func85 (zN (ht.zeM _ _ h1) (zD (zn GBy.zl (l:=a13)) (zaS (lk (sub [1,1,0,1,0] (zq Tryz.f85)) (by kernel_rfl) (zcp.okL ht n n _ _ _ _ _ h2)) ob))) (by kernel_rfl)
theorem zQ.okL (ht:TabOk t call) (n:Nat):∀(k:Nat) (a1:List GStep) (a2 a3 a4:Int) (r:_),zQ t n k a1 a2 a3 a4=some r→loopN (exec (env Tryz.prog 86 Tryz.f86 call) n (sub [1,0,1,0,0] (zq Tryz.f86))) k (mkSt 19 19 [(0,(Sl 14 (GStep.ts a1))),(1,(.fn 71 [(.ref (.v (.int .i64 a2)))])),(7,(I6 a3)),(8,(I6 a4))] [])=some (zQ.to r)
 | 0,a1,a2,a3,a4,r,h=>by rw[zQ]at h;cases h
 | k+1,a1,a2,a3,a4,r,h=>by
  rw[zQ]at h
  rcases fk h with ⟨h1,h⟩ | ⟨h1,h⟩
  ·obtain⟨h2,h⟩:=ck h
   obtain⟨⟨a5,a6,a7,⟨a8,a9,a10,a11,a12⟩,⟨a13,a14,a15⟩,a16,a17,a18⟩,h3,h⟩:=sm h
   obtain⟨a19,h4,h⟩:=sm h
   rcases fk h with ⟨h5,h⟩ | ⟨h5,h⟩
   ·cases h
    exact zw (pK2 (zi h1 (zae h2 (zab (zu GStep.zl h3) (zN (ht.zcf _ _ _ h4) (zi h5 ob)))))) (fun h=>by cases h)
   ·exact zF (pK2 (zi h1 (zae h2 (zab (zu GStep.zl h3) (zN (ht.zcf _ _ _ h4) (zi h5 ob)))))) (zQ.okL ht n k _ _ _ _ _ h)
  ·cases h
   exact zw (pK2 (zi h1 ob)) (fun h=>by cases h)
theorem zaj.ok {n:Nat} {t:Tab} (ht:TabOk t (run Tryz.prog own kp X n)):∀(p1:List GStep) (p2:Int) r,zaj t n p1 p2=some r→run Tryz.prog own kp X (n+1) 86 [(Sl 14 (GStep.ts p1)),(.fn 71 [(.ref (.v (.int .i64 p2)))])] []=some ((I6 r),[]):=by
 intro p1 p2 r h
 obtain⟨a1,rfl⟩:∃z_,z_=p1:=⟨_,rfl⟩
 obtain⟨a2,rfl⟩:∃z_,z_=p2:=⟨_,rfl⟩
 rw[zaj]at h
 obtain⟨a3 | ⟨a4,a5,a6,a7,a8⟩,h1,h⟩:=sm h
 ·cases h
  exact zk Tryz.func86 (zD (zn GStep.zl (l:=a1)) (zaS (lk (sub [1,0,1,0] (zq Tryz.f86)) (by kernel_rfl) (zQ.okL ht n n _ _ _ _ _ h1)) ob)) (by kernel_rfl)
 ·cases h
  exact zk Tryz.func86 (zD (zn GStep.zl (l:=a1)) (zaS (lk (sub [1,0,1,0] (zq Tryz.f86)) (by kernel_rfl) (zQ.okL ht n n _ _ _ _ _ h1)) ob)) (by kernel_rfl)
theorem zdr.ok {n:Nat} {t:Tab} (ht:TabOk t (run Tryz.prog own kp X n)):∀(p1:zh) (p2:Int) r,zdr t n p1 p2=some r→run Tryz.prog own kp X (n+1) 67 [(.t (zh.t p1)),(I6 p2)] []=some ((.t (zh.t r)),[]):=by
 intro p1 p2 r h
 obtain⟨a1,a2,a3,a4,a5⟩:=p1
 obtain⟨a6,rfl⟩:∃z_,z_=p2:=⟨_,rfl⟩
 rw[zdr]at h
 rcases fk h with ⟨h1,h⟩ | ⟨h1,h⟩
 ·cases h
  exact zk Tryz.func67 (zi h1 ob) (by kernel_rfl)
 ·obtain⟨a7,h2,h⟩:=sm h
  obtain⟨a8,h3,h⟩:=sm h
  cases h
  exact zk Tryz.func67 (zi h1 (zN (ht.zct _ _ _ h2) (zN (ht.zct _ _ _ h3) ob))) (by kernel_rfl)
theorem zdJ.okL (ht:TabOk t call) (n:Nat):∀(k:Nat) (a1:Int) (a2:List zh) (a3 a4 a5:Int) (a6:List zh) (a7:List GPred) (a8:Int) (a9:List zh) (a10:List GPred) (a11:Int) (a12:List zh) (a13:List GPred) (r:_),zdJ t n k a1 a2 a3 a4 a5 a6 a7 a8 a9 a10 a11 a12 a13=some r→loopN (exec (env Tryz.prog 68 Tryz.f68 call) n (sub [1,1,1,0,1,0,0] (zq Tryz.f68))) k (mkSt 49 49 [(1,(I6 a1)),(2,(.ptr 2 0 [] 0)),(4,(.ptr 4 0 [] 0)),(5,(.ptr 5 0 [] 0)),(17,(Sl 5 (zh.ts a2))),(18,(I6 a3)),(19,(I6 a4))] [(2,(.t (.st [(.v (.int .i64 a5)),(.sl false 5 (zh.ts a6)),(.sl false 3 (GPred.ts a7))]))),(4,(.t (.st [(.v (.int .i64 a8)),(.sl false 5 (zh.ts a9)),(.sl false 3 (GPred.ts a10))]))),(5,(.t (.st [(.v (.int .i64 a11)),(.sl true 5 (zh.ts a12)),(.sl true 3 (GPred.ts a13))])))])=some (zdJ.to r)
 | 0,a1,a2,a3,a4,a5,a6,a7,a8,a9,a10,a11,a12,a13,r,h=>by rw[zdJ]at h;cases h
 | k+1,a1,a2,a3,a4,a5,a6,a7,a8,a9,a10,a11,a12,a13,r,h=>by
  rw[zdJ]at h
  rcases fk h with ⟨h1,h⟩ | ⟨h1,h⟩
  ·obtain⟨h2,h⟩:=ck h
   obtain⟨⟨a14,a15,a16,a17,a18⟩,h3,h⟩:=sm h
   obtain⟨⟨a19,a20,a21,a22,a23⟩,h4,h⟩:=sm h
   obtain⟨h5,h⟩:=cl h
   exact zF (pK2 (zi h1 (zae h2 (zab (zu zh.zl h3) (zN (ht.zdq _ _ h4) (zfm (zes zh.zl h5) (zfx (zeS zh.zl (a:=a12) (b:=([(zh.mk a19 a20 a21 a22 a23)]:List zh))) ob))))))) (zdJ.okL ht n k _ _ _ _ _ _ _ _ _ _ _ _ _ _ h)
  ·cases h
   exact zw (pK2 (zi h1 ob)) (fun h=>by cases h)
theorem zdK.okL (ht:TabOk t call) (n:Nat):∀(k:Nat) (a1:Int) (a2:List GPred) (a3 a4 a5:Int) (a6:List zh) (a7:List GPred) (a8:Int) (a9:List zh) (a10:List GPred) (r:_),zdK t n k a1 a2 a3 a4 a5 a6 a7 a8 a9 a10=some r→loopN (exec (env Tryz.prog 68 Tryz.f68 call) n (sub [1,1,1,1,0,1,0,0] (zq Tryz.f68))) k (mkSt 49 49 [(1,(I6 a1)),(4,(.ptr 4 0 [] 0)),(5,(.ptr 5 0 [] 0)),(32,(Sl 3 (GPred.ts a2))),(33,(I6 a3)),(34,(I6 a4))] [(4,(.t (.st [(.v (.int .i64 a5)),(.sl false 5 (zh.ts a6)),(.sl false 3 (GPred.ts a7))]))),(5,(.t (.st [(.v (.int .i64 a8)),(.sl true 5 (zh.ts a9)),(.sl true 3 (GPred.ts a10))])))])=some (zdK.to r)
 | 0,a1,a2,a3,a4,a5,a6,a7,a8,a9,a10,r,h=>by rw[zdK]at h;cases h
 | k+1,a1,a2,a3,a4,a5,a6,a7,a8,a9,a10,r,h=>by
  rw[zdK]at h
  rcases fk h with ⟨h1,h⟩ | ⟨h1,h⟩
  ·obtain⟨h2,h⟩:=ck h
   obtain⟨⟨a11,a12,a13⟩,h3,h⟩:=sm h
   obtain⟨⟨a14,a15,a16⟩,h4,h⟩:=sm h
   obtain⟨h5,h⟩:=cl h
   exact zF (pK2 (zi h1 (zae h2 (zab (zu GPred.zl h3) (zN (ht.zdL _ _ _ h4) (zfm (zes GPred.zl h5) (zfx (zeS GPred.zl (a:=a10) (b:=([(GPred.mk a14 a15 a16)]:List GPred))) ob))))))) (zdK.okL ht n k _ _ _ _ _ _ _ _ _ _ _ h)
  ·cases h
   exact zw (pK2 (zi h1 ob)) (fun h=>by cases h)
theorem zdS.ok (ht:TabOk t call) (n:Nat) (a1 a2:Int) (a3:List zh) (a4:List GPred) (a5:Int) (a6:List zh) (a7:List GPred) (a8:Int) (a9:List zh) (a10:List GPred) (r:_) (h:zdS t n a1 a2 a3 a4 a5 a6 a7 a8 a9 a10=some r):exec (env Tryz.prog 68 Tryz.f68 call) n (sub [1,1,1,1] (zq Tryz.f68)) (mkSt 49 49 [(1,(I6 a1)),(2,(.ptr 2 0 [] 0)),(4,(.ptr 4 0 [] 0)),(5,(.ptr 5 0 [] 0))] [(2,(.t (.st [(.v (.int .i64 a2)),(.sl false 5 (zh.ts a3)),(.sl false 3 (GPred.ts a4))]))),(4,(.t (.st [(.v (.int .i64 a5)),(.sl false 5 (zh.ts a6)),(.sl false 3 (GPred.ts a7))]))),(5,(.t (.st [(.v (.int .i64 a8)),(.sl true 5 (zh.ts a9)),(.sl true 3 (GPred.ts a10))])))])=some (zdS.to r):=by
 rw[zdS]at h
 obtain⟨⟨a11,a12,a13,a14,a15,a16,a17,a18,a19,a20,a21⟩,h1,h⟩:=sm h
 cases h
 exact pK2 (zD (zn GPred.zl (l:=a4)) (zaS (lk (sub [1,1,1,1,0,1,0] (zq Tryz.f68)) (by kernel_rfl) (zdK.okL ht n n _ _ _ _ _ _ _ _ _ _ _ h1)) ob))
theorem zdL.ok {n:Nat} {t:Tab} (ht:TabOk t (run Tryz.prog own kp X n)):∀(p1:GPred) (p2:Int) r,zdL t n p1 p2=some r→run Tryz.prog own kp X (n+1) 68 [(.t (GPred.t p1)),(I6 p2)] []=some ((.t (GPred.t r)),[]):=by
 intro p1 p2 r h
 obtain⟨a1,a2,a3⟩:=p1
 obtain⟨a4,rfl⟩:∃z_,z_=p2:=⟨_,rfl⟩
 rw[zdL]at h
 rcases fk h with ⟨h1,h⟩ | ⟨h1,h⟩
 ·cases h
  exact zk Tryz.func68 (zi h1 ob) (by kernel_rfl)
 ·obtain⟨⟨a5,a6,a7,a8,a9,a10,a11,a12,a13,a14,a15,a16,a17,a18⟩,h2,h⟩:=sm h
  obtain⟨⟨a19,a20,a21⟩,h3,h⟩:=sm h
  cases h
  exact zk Tryz.func68 (zi h1 (zD (zn zh.zl (l:=a2)) (zaS (lk (sub [1,1,1,0,1,0] (zq Tryz.f68)) (by kernel_rfl) (zdJ.okL ht n n _ _ _ _ _ _ _ _ _ _ _ _ _ _ h2)) (zI (zdS.ok ht n _ _ _ _ _ _ _ _ _ _ _ h3) ob)))) (by kernel_rfl)
theorem zdf.ok (ht:TabOk t call) (n:Nat) (a1:Bool) (u2 u3:GCode) (r:_) (h:zdf t n a1 u2 u3=some r):exec (env Tryz.prog 44 Tryz.f44 call) n (sub [1,1] (zq Tryz.f44)) (mkSt 61 61 [(2,(.ptr 2 0 [] 0)),(3,(.ptr 3 0 [] 0)),(5,(Bo a1))] [(2,(.t (GCode.t u2))),(3,(.t (GCode.t u3)))])=some (zdf.to r):=by
 obtain⟨a2,a3,a4,⟨a5,a6,a7,a8,a9⟩,⟨a10,a11,a12⟩,a13,a14,a15⟩:=u2
 obtain⟨a16,a17,a18,⟨a19,a20,a21,a22,a23⟩,⟨a24,a25,a26⟩,a27,a28,a29⟩:=u3
 rw[zdf]at h
 rcases fk h with ⟨h1,h⟩ | ⟨h1,h⟩
 ·obtain⟨a30,h2,h⟩:=sm h
  have o7 {os} (x:Obls (env Tryz.prog 44 Tryz.f44 call) n os):=zW h1 5 (zN (ht.slices_Equal_int _ _ _ h2) (zi h1 x))
  rcases fk h with ⟨h3,h⟩ | ⟨h3,h⟩
  ·obtain⟨a31,h4,h⟩:=sm h
   have o14 {os} (x:Obls (env Tryz.prog 44 Tryz.f44 call) n os):=o7 (zW h3 5 (zN (ht.zdg _ _ _ h4) (zi h3 x)))
   rcases fk h with ⟨h5,h⟩ | ⟨h5,h⟩
   ·obtain⟨a32,h6,h⟩:=sm h
    rcases fk h with ⟨h7,h⟩ | ⟨h7,h⟩
    ·obtain⟨a33,rfl⟩:∃z_,z_=r:=⟨_,rfl⟩
     have h8:=h
     exact pK2 (o14 (zW h5 5 (zN (ht.zbU _ _ _ h6) (zi h5 (zW h7 5 (zN (ht.zcM _ _ _ h8) (zi h7 ob)))))))
    ·cases h
     exact pK2 (o14 (zW h5 5 (zN (ht.zbU _ _ _ h6) (zi h5 (zW h7 6 ob)))))
   ·cases h
    exact pK2 (o14 (zW h5 6 (zW (rfl:false=false) 6 ob)))
  ·cases h
   exact pK2 (o7 (zW h3 6 (zW (rfl:false=false) 12 ob)))
 ·cases h
  exact pK2 (zW h1 6 (zW (rfl:false=false) 18 ob))
theorem zeE.ok {n:Nat} {t:Tab} (ht:TabOk t (run Tryz.prog own kp X n)):∀(p1:GCode) (p2:GCode) r,zeE t n p1 p2=some r→run Tryz.prog own kp X (n+1) 44 [(.t (GCode.t p1)),(.t (GCode.t p2))] []=some ((Bo r),[]):=by
 intro p1 p2 r h
 obtain⟨a1,a2,a3,⟨a4,a5,a6,a7,a8⟩,⟨a9,a10,a11⟩,a12,a13,a14⟩:=p1
 obtain⟨a15,a16,a17,⟨a18,a19,a20,a21,a22⟩,⟨a23,a24,a25⟩,a26,a27,a28⟩:=p2
 rw[zeE]at h
 rcases fk h with ⟨h1,h⟩ | ⟨h1,h⟩
 ·obtain⟨a29,h2,h⟩:=sm h
  have o7 {os} (x:Obls (env Tryz.prog 44 Tryz.f44 (run Tryz.prog own kp X n)) n os):=zW h1 5 (zN (ht.slices_Equal_string _ _ _ h2) (zi h1 x))
  rcases fk h with ⟨h3,h⟩ | ⟨h3,h⟩
  ·obtain⟨a30,h4,h⟩:=sm h
   rcases fk h with ⟨h5,h⟩ | ⟨h5,h⟩
   ·obtain⟨a31,h6,h⟩:=sm h
    obtain⟨a32,rfl⟩:∃z_,z_=r:=⟨_,rfl⟩
    have h7:=h
    exact zk Tryz.func44 (o7 (zW h3 5 (zN (ht.slices_Equal_int _ _ _ h4) (zi h3 (zW h5 5 (zN (ht.slices_Equal_string _ _ _ h6) (zi h5 (zI (zdf.ok ht n _ _ _ _ h7) ob)))))))) (by kernel_rfl)
   ·obtain⟨a33,rfl⟩:∃z_,z_=r:=⟨_,rfl⟩
    have h8:=h
    exact zk Tryz.func44 (o7 (zW h3 5 (zN (ht.slices_Equal_int _ _ _ h4) (zi h3 (zW h5 6 (zI (zdf.ok ht n _ _ _ _ h8) ob)))))) (by kernel_rfl)
  ·obtain⟨a34,rfl⟩:∃z_,z_=r:=⟨_,rfl⟩
   have h9:=h
   exact zk Tryz.func44 (o7 (zW h3 6 (zW (rfl:false=false) 6 (zI (zdf.ok ht n _ _ _ _ h9) ob)))) (by kernel_rfl)
 ·obtain⟨a35,rfl⟩:∃z_,z_=r:=⟨_,rfl⟩
  have h10:=h
  exact zk Tryz.func44 (zW h1 6 (zW (rfl:false=false) 12 (zI (zdf.ok ht n _ _ _ _ h10) ob))) (by kernel_rfl)
theorem zcf.ok {n:Nat} {t:Tab} (ht:TabOk t (run Tryz.prog own kp X n)):∀(p1:GStep) (p2:Int) r,zcf t n p1 p2=some r→run Tryz.prog own kp X (n+1) 71 [(.t (GStep.t p1)),(.ref (.v (.int .i64 p2)))] []=some ((Bo r),[]):=by
 intro p1 p2 r h
 obtain⟨a1,a2,a3,⟨a4,a5,a6,a7,a8⟩,⟨a9,a10,a11⟩,a12,a13,a14⟩:=p1
 obtain⟨a15,rfl⟩:∃z_,z_=p2:=⟨_,rfl⟩
 rw[zcf]at h
 obtain⟨a16,h1,h⟩:=sm h
 cases h
 exact zk Tryz.func71 (zN (ht.zer _ _ _ h1) ob) (by kernel_rfl)
theorem zb7.okL (ht:TabOk t call) (n:Nat):∀(k:Nat) (a1:Int) (a2 a3:List zh) (a4 a5:Int) (r:_),zb7 t n k a1 a2 a3 a4 a5=some r→loopN (exec (env Tryz.prog 84 Tryz.f84 call) n (sub [1,1,0,1,0,0] (zq Tryz.f84))) k (mkSt 22 22 [(1,(I6 a1)),(5,(.t (.sl true 5 (zh.ts a2)))),(8,(Sl 5 (zh.ts a3))),(9,(I6 a4)),(10,(I6 a5))] [])=some (zb7.to r)
 | 0,a1,a2,a3,a4,a5,r,h=>by rw[zb7]at h;cases h
 | k+1,a1,a2,a3,a4,a5,r,h=>by
  rw[zb7]at h
  rcases fk h with ⟨h1,h⟩ | ⟨h1,h⟩
  ·obtain⟨h2,h⟩:=ck h
   obtain⟨⟨a6,a7,a8,a9,a10⟩,h3,h⟩:=sm h
   obtain⟨⟨a11,a12,a13,a14,a15⟩,h4,h⟩:=sm h
   obtain⟨h5,h⟩:=cl h
   exact zF (pK2 (zi h1 (zae h2 (zab (zu zh.zl h3) (zN (ht.zdr _ _ _ h4) (zfm (zes zh.zl h5) (zfx (zeS zh.zl (a:=a2) (b:=([(zh.mk a11 a12 a13 a14 a15)]:List zh))) ob))))))) (zb7.okL ht n k _ _ _ _ _ _ h)
  ·cases h
   exact zw (pK2 (zi h1 ob)) (fun h=>by cases h)
theorem zct.ok {n:Nat} {t:Tab} (ht:TabOk t (run Tryz.prog own kp X n)):∀(p1:List zh) (p2:Int) r,zct t n p1 p2=some r→run Tryz.prog own kp X (n+1) 84 [(Sl 5 (zh.ts p1)),(I6 p2)] []=some ((Sl 5 (zh.ts r)),[]):=by
 intro p1 p2 r h
 obtain⟨a1,rfl⟩:∃z_,z_=p1:=⟨_,rfl⟩
 obtain⟨a2,rfl⟩:∃z_,z_=p2:=⟨_,rfl⟩
 rw[zct]at h
 obtain⟨⟨a3,a4,a5,a6,a7,a8⟩,h1,h⟩:=sm h
 cases h
 exact zk Tryz.func84 (zD (zn zh.zl (l:=a1)) (zaS (lk (sub [1,1,0,1,0] (zq Tryz.f84)) (by kernel_rfl) (zb7.okL ht n n _ _ _ _ _ _ h1)) ob)) (by kernel_rfl)
theorem zaX.okL (ht:TabOk t call) (n:Nat):∀(k:Nat) (a1 a2:List ByteArray) (a3 a4:Int) (r:_),zaX t n k a1 a2 a3 a4=some r→loopN (exec (env Tryz.prog 62 Tryz.f62 call) n (sub [1,1,0,1,0,0] (zq Tryz.f62))) k (mkSt 26 26 [(0,(Sl 1 (texts a1))),(1,(Sl 1 (texts a2))),(12,(I6 a3)),(13,(I6 a4))] [])=some (zaX.to r)
 | 0,a1,a2,a3,a4,r,h=>by rw[zaX]at h;cases h
 | k+1,a1,a2,a3,a4,r,h=>by
  rw[zaX]at h
  rcases fk h with ⟨h1,h⟩ | ⟨h1,h⟩
  ·obtain⟨h2,h⟩:=ck h
   obtain⟨a5,h3,h⟩:=sm h
   obtain⟨a6,h4,h⟩:=sm h
   rcases fk h with ⟨h5,h⟩ | ⟨h5,h⟩
   ·exact zF (pK2 (zi h1 (zae h2 (zab (zu zJ h3) (zae h2 (zab (zu zJ h4) (zi (ng h5) ob))))))) (zaX.okL ht n k _ _ _ _ _ h)
   ·cases h
    exact zw (pK2 (zi h1 (zae h2 (zab (zu zJ h3) (zae h2 (zab (zu zJ h4) (zi (ng h5) ob))))))) (fun h=>by cases h)
  ·cases h
   exact zw (pK2 (zi h1 ob)) (fun h=>by cases h)
theorem slices_Equal_string.ok {n:Nat} {t:Tab} (ht:TabOk t (run Tryz.prog own kp X n)):∀(p1:List ByteArray) (p2:List ByteArray) r,slices_Equal_string t n p1 p2=some r→run Tryz.prog own kp X (n+1) 62 [(Sl 1 (texts p1)),(Sl 1 (texts p2))] []=some ((Bo r),[]):=by
 intro p1 p2 r h
 obtain⟨a1,rfl⟩:∃z_,z_=p1:=⟨_,rfl⟩
 obtain⟨a2,rfl⟩:∃z_,z_=p2:=⟨_,rfl⟩
 rw[slices_Equal_string]at h
 rcases fk h with ⟨h1,h⟩ | ⟨h1,h⟩
 ·cases h
  exact zk Tryz.func62 (zD (zn zJ (l:=a1)) (zD (zn zJ (l:=a2)) (zi h1 ob))) (by kernel_rfl)
 ·obtain⟨a3 | ⟨a4,a5,a6,a7,a8⟩,h2,h⟩:=sm h
  ·cases h
   exact zk Tryz.func62 (zD (zn zJ (l:=a1)) (zD (zn zJ (l:=a2)) (zi h1 (zD (zn zJ (l:=a1)) (zaS (lk (sub [1,1,0,1,0] (zq Tryz.f62)) (by kernel_rfl) (zaX.okL ht n n _ _ _ _ _ h2)) ob))))) (by kernel_rfl)
  ·cases h
   exact zk Tryz.func62 (zD (zn zJ (l:=a1)) (zD (zn zJ (l:=a2)) (zi h1 (zD (zn zJ (l:=a1)) (zaS (lk (sub [1,1,0,1,0] (zq Tryz.f62)) (by kernel_rfl) (zaX.okL ht n n _ _ _ _ _ h2)) ob))))) (by kernel_rfl)
theorem zby.okL (ht:TabOk t call) (n:Nat):∀(k:Nat) (a1 a2:List Int) (a3 a4:Int) (r:_),zby t n k a1 a2 a3 a4=some r→loopN (exec (env Tryz.prog 63 Tryz.f63 call) n (sub [1,1,0,1,0,0] (zq Tryz.f63))) k (mkSt 26 26 [(0,(Sl 1 (zA a1))),(1,(Sl 1 (zA a2))),(12,(I6 a3)),(13,(I6 a4))] [])=some (zby.to r)
 | 0,a1,a2,a3,a4,r,h=>by rw[zby]at h;cases h
 | k+1,a1,a2,a3,a4,r,h=>by
  rw[zby]at h
  rcases fk h with ⟨h1,h⟩ | ⟨h1,h⟩
  ·obtain⟨h2,h⟩:=ck h
   obtain⟨a5,h3,h⟩:=sm h
   obtain⟨a6,h4,h⟩:=sm h
   rcases fk h with ⟨h5,h⟩ | ⟨h5,h⟩
   ·cases h
    exact zw (pK2 (zi h1 (zae h2 (zab (zu zz h3) (zae h2 (zab (zu zz h4) (zi h5 ob))))))) (fun h=>by cases h)
   ·exact zF (pK2 (zi h1 (zae h2 (zab (zu zz h3) (zae h2 (zab (zu zz h4) (zi h5 ob))))))) (zby.okL ht n k _ _ _ _ _ h)
  ·cases h
   exact zw (pK2 (zi h1 ob)) (fun h=>by cases h)
theorem slices_Equal_int.ok {n:Nat} {t:Tab} (ht:TabOk t (run Tryz.prog own kp X n)):∀(p1:List Int) (p2:List Int) r,slices_Equal_int t n p1 p2=some r→run Tryz.prog own kp X (n+1) 63 [(Sl 1 (zA p1)),(Sl 1 (zA p2))] []=some ((Bo r),[]):=by
 intro p1 p2 r h
 obtain⟨a1,rfl⟩:∃z_,z_=p1:=⟨_,rfl⟩
 obtain⟨a2,rfl⟩:∃z_,z_=p2:=⟨_,rfl⟩
 rw[slices_Equal_int]at h
 rcases fk h with ⟨h1,h⟩ | ⟨h1,h⟩
 ·cases h
  exact zk Tryz.func63 (zD (zn zz (l:=a1)) (zD (zn zz (l:=a2)) (zi h1 ob))) (by kernel_rfl)
 ·obtain⟨a3 | ⟨a4,a5,a6,a7,a8⟩,h2,h⟩:=sm h
  ·cases h
   exact zk Tryz.func63 (zD (zn zz (l:=a1)) (zD (zn zz (l:=a2)) (zi h1 (zD (zn zz (l:=a1)) (zaS (lk (sub [1,1,0,1,0] (zq Tryz.f63)) (by kernel_rfl) (zby.okL ht n n _ _ _ _ _ h2)) ob))))) (by kernel_rfl)
  ·cases h
   exact zk Tryz.func63 (zD (zn zz (l:=a1)) (zD (zn zz (l:=a2)) (zi h1 (zD (zn zz (l:=a1)) (zaS (lk (sub [1,1,0,1,0] (zq Tryz.f63)) (by kernel_rfl) (zby.okL ht n n _ _ _ _ _ h2)) ob))))) (by kernel_rfl)
theorem zbz.okL (ht:TabOk t call) (n:Nat):∀(k:Nat) (a1 a2:List GKey) (a3 a4:Int) (r:_),zbz t n k a1 a2 a3 a4=some r→loopN (exec (env Tryz.prog 64 Tryz.f64 call) n (sub [1,1,0,1,0,0] (zq Tryz.f64))) k (mkSt 26 26 [(0,(Sl 4 (GKey.ts a1))),(1,(Sl 4 (GKey.ts a2))),(12,(I6 a3)),(13,(I6 a4))] [])=some (zbz.to r)
 | 0,a1,a2,a3,a4,r,h=>by rw[zbz]at h;cases h
 | k+1,a1,a2,a3,a4,r,h=>by
  rw[zbz]at h
  rcases fk h with ⟨h1,h⟩ | ⟨h1,h⟩
  ·obtain⟨h2,h⟩:=ck h
   obtain⟨⟨a5,a6,a7,a8⟩,h3,h⟩:=sm h
   obtain⟨⟨a9,a10,a11,a12⟩,h4,h⟩:=sm h
   rcases fk h with ⟨h5,h⟩ | ⟨h5,h⟩
   ·exact zF (pK2 (zi h1 (zae h2 (zab (zu GKey.zl h3) (zae h2 (zab (zu GKey.zl h4) (zi (ng h5) ob))))))) (zbz.okL ht n k _ _ _ _ _ h)
   ·cases h
    exact zw (pK2 (zi h1 (zae h2 (zab (zu GKey.zl h3) (zae h2 (zab (zu GKey.zl h4) (zi (ng h5) ob))))))) (fun h=>by cases h)
  ·cases h
   exact zw (pK2 (zi h1 ob)) (fun h=>by cases h)
theorem zdg.ok {n:Nat} {t:Tab} (ht:TabOk t (run Tryz.prog own kp X n)):∀(p1:List GKey) (p2:List GKey) r,zdg t n p1 p2=some r→run Tryz.prog own kp X (n+1) 64 [(Sl 4 (GKey.ts p1)),(Sl 4 (GKey.ts p2))] []=some ((Bo r),[]):=by
 intro p1 p2 r h
 obtain⟨a1,rfl⟩:∃z_,z_=p1:=⟨_,rfl⟩
 obtain⟨a2,rfl⟩:∃z_,z_=p2:=⟨_,rfl⟩
 rw[zdg]at h
 rcases fk h with ⟨h1,h⟩ | ⟨h1,h⟩
 ·cases h
  exact zk Tryz.func64 (zD (zn GKey.zl (l:=a1)) (zD (zn GKey.zl (l:=a2)) (zi h1 ob))) (by kernel_rfl)
 ·obtain⟨a3 | ⟨a4,a5,a6,a7,a8⟩,h2,h⟩:=sm h
  ·cases h
   exact zk Tryz.func64 (zD (zn GKey.zl (l:=a1)) (zD (zn GKey.zl (l:=a2)) (zi h1 (zD (zn GKey.zl (l:=a1)) (zaS (lk (sub [1,1,0,1,0] (zq Tryz.f64)) (by kernel_rfl) (zbz.okL ht n n _ _ _ _ _ h2)) ob))))) (by kernel_rfl)
  ·cases h
   exact zk Tryz.func64 (zD (zn GKey.zl (l:=a1)) (zD (zn GKey.zl (l:=a2)) (zi h1 (zD (zn GKey.zl (l:=a1)) (zaS (lk (sub [1,1,0,1,0] (zq Tryz.f64)) (by kernel_rfl) (zbz.okL ht n n _ _ _ _ _ h2)) ob))))) (by kernel_rfl)
theorem zbU.ok {n:Nat} {t:Tab} (ht:TabOk t (run Tryz.prog own kp X n)):∀(p1:zh) (p2:zh) r,zbU t n p1 p2=some r→run Tryz.prog own kp X (n+1) 65 [(.t (zh.t p1)),(.t (zh.t p2))] []=some ((Bo r),[]):=by
 intro p1 p2 r h
 obtain⟨a1,a2,a3,a4,a5⟩:=p1
 obtain⟨a6,a7,a8,a9,a10⟩:=p2
 rw[zbU]at h
 obtain⟨a11,h1,h⟩:=sm h
 cases h
 exact zk Tryz.func65 (zN (ht.zee _ _ _ h1) ob) (by kernel_rfl)
theorem zcM.ok {n:Nat} {t:Tab} (ht:TabOk t (run Tryz.prog own kp X n)):∀(p1:GPred) (p2:GPred) r,zcM t n p1 p2=some r→run Tryz.prog own kp X (n+1) 66 [(.t (GPred.t p1)),(.t (GPred.t p2))] []=some ((Bo r),[]):=by
 intro p1 p2 r h
 obtain⟨a1,a2,a3⟩:=p1
 obtain⟨a4,a5,a6⟩:=p2
 rw[zcM]at h
 rcases fk h with ⟨h1,h⟩ | ⟨h1,h⟩
 ·obtain⟨a7,h2,h⟩:=sm h
  rcases fk h with ⟨h3,h⟩ | ⟨h3,h⟩
  ·obtain⟨a8,rfl⟩:∃z_,z_=r:=⟨_,rfl⟩
   have h4:=h
   exact zk Tryz.func66 (zW h1 5 (zN (ht.zay _ _ _ h2) (zi h1 (zW h3 5 (zN (ht.zaw _ _ _ h4) (zi h3 ob)))))) (by kernel_rfl)
  ·cases h
   exact zk Tryz.func66 (zW h1 5 (zN (ht.zay _ _ _ h2) (zi h1 (zW h3 6 ob)))) (by kernel_rfl)
 ·cases h
  exact zk Tryz.func66 (zW h1 6 (zW (rfl:false=false) 6 ob)) (by kernel_rfl)
theorem zcu.ok (ht:TabOk t call) (n:Nat) (a1:Int) (a2:Bool) (a3:Int) (a4:List ByteArray) (a5:List Int) (a6 a7:Int) (a8:ByteArray) (a9 a10:List zh) (a11:Int) (a12:List zh) (a13:List GPred) (a14:List (List GStep)) (a15:List GBy) (a16:List ByteArray) (r:_) (h:zcu t n a1 a2 a3 a4 a5 a6 a7 a8 a9 a10 a11 a12 a13 a14 a15 a16=some r):exec (env Tryz.prog 72 Tryz.f72 call) n (sub [1,1,1,1,0,0,1,1,1,1,1,1,1] (zq Tryz.f72)) (mkSt 163 163 [(1,(I6 a1)),(2,(.ptr 2 0 [] 0)),(97,(Bo a2))] [(2,(.t (.st [(.v (.int .i64 a3)),(.sl false 1 (texts a4)),(.sl false 1 (zA a5)),(.st [(.v (.int .i64 a6)),(.v (.int .i64 a7)),(.v (.string a8)),(.sl false 5 (zh.ts a9)),(.sl false 5 (zh.ts a10))]),(.st [(.v (.int .i64 a11)),(.sl false 5 (zh.ts a12)),(.sl false 3 (GPred.ts a13))]),(.sl false 1 (zo a14)),(.sl false 4 (GBy.ts a15)),(.sl false 1 (texts a16))])))])=some (zcu.to r):=by
 rw[zcu]at h
 rcases fk h with ⟨h1,h⟩ | ⟨h1,h⟩
 ·cases h
  exact pK2 (zi h1 ob)
 ·rcases fk h with ⟨h2,h⟩ | ⟨h2,h⟩
  ·obtain⟨a17,h3,h⟩:=sm h
   have o6 {os} (x:Obls (env Tryz.prog 72 Tryz.f72 call) n os):=zi h1 (zy h2 (zN (ht.zcN _ _ h3) (zi h2 x)))
   rcases fk h with ⟨h4,h⟩ | ⟨h4,h⟩
   ·cases h
    exact pK2 (o6 (zW h4 7 (zi h2 (zi h4 (zi h2 (zck 1 ob))))))
   ·have o18 {os} (x:Obls (env Tryz.prog 72 Tryz.f72 call) n os):=o6 (zy h4 (zD (zn GBy.zl (l:=a15)) (zy h4 (zD (zn zJ (l:=a4)) (zi h4 (zi h2 (zi h4 (zi h2 x))))))))
    rcases fk h with ⟨h5,h⟩ | ⟨h5,h⟩
    ·cases h
     exact pK2 (o18 (zi h5 ob))
    ·cases h
     exact pK2 (o18 (zi h5 ob))
  ·cases h
   exact pK2 (zi h1 (zW h2 6 (zi (rfl:false=false) ob)))
theorem zcv.ok (ht:TabOk t call) (n:Nat) (a1:Int) (a2:Bool) (a3:Int) (a4:List ByteArray) (a5:List Int) (a6 a7:Int) (a8:ByteArray) (a9 a10:List zh) (a11:Int) (a12:List zh) (a13:List GPred) (a14:List (List GStep)) (a15:List GBy) (a16:List ByteArray) (a17 a18 a19 a20 a21 a22 a23 a24:Int) (a25 a26:Bool) (r:_) (h:zcv t n a1 a2 a3 a4 a5 a6 a7 a8 a9 a10 a11 a12 a13 a14 a15 a16 a17 a18 a19 a20 a21 a22 a23 a24 a25 a26=some r):exec (env Tryz.prog 72 Tryz.f72 call) n (sub [1,1,1,1,0,0,1,1,1,1,1] (zq Tryz.f72)) (mkSt 163 163 [(1,(I6 a1)),(2,(.ptr 2 0 [] 0)),(5,(.ptr 5 0 [] 0)),(76,(Bo a2))] [(2,(.t (.st [(.v (.int .i64 a3)),(.sl false 1 (texts a4)),(.sl false 1 (zA a5)),(.st [(.v (.int .i64 a6)),(.v (.int .i64 a7)),(.v (.string a8)),(.sl false 5 (zh.ts a9)),(.sl false 5 (zh.ts a10))]),(.st [(.v (.int .i64 a11)),(.sl false 5 (zh.ts a12)),(.sl false 3 (GPred.ts a13))]),(.sl false 1 (zo a14)),(.sl false 4 (GBy.ts a15)),(.sl false 1 (texts a16))]))),(5,(.t (.st [(.st [(.v (.int .i64 a17)),(.v (.int .i64 a18))]),(.st [(.v (.int .i64 a19)),(.v (.int .i64 a20))]),(.st [(.v (.int .i64 a21)),(.v (.int .i64 a22))]),(.st [(.v (.int .i64 a23)),(.v (.int .i64 a24))]),(.v (.bool a25)),(.v (.bool a26))])))])=some (zcv.to r):=by
 rw[zcv]at h
 rcases fk h with ⟨h1,h⟩ | ⟨h1,h⟩
 ·cases h
  exact pK2 (zi h1 ob)
 ·rcases fk h with ⟨h2,h⟩ | ⟨h2,h⟩
  ·obtain⟨a27,h3,h⟩:=sm h
   have o7 {os} (x:Obls (env Tryz.prog 72 Tryz.f72 call) n os):=zi h1 (zy h2 (zN (ht.zds _ _ h3) (zX h2 x)))
   rcases fk h with ⟨h4,h⟩ | ⟨h4,h⟩
   ·have h5:=h
    rcases r with a28 | ⟨a29,a30,a31,a32,a33,a34,a35,a36,a37,a38,a39,a40,a41,a42,a43⟩
    ·exact pK2 (o7 (zW h4 6 (zI (zcu.ok ht n _ _ _ _ _ _ _ _ _ _ _ _ _ _ _ _ _ h5) ob)))
    ·exact pK2 (o7 (zW h4 6 (zI (zcu.ok ht n _ _ _ _ _ _ _ _ _ _ _ _ _ _ _ _ _ h5) ob)))
   ·have h6:=h
    rcases r with a44 | ⟨a45,a46,a47,a48,a49,a50,a51,a52,a53,a54,a55,a56,a57,a58,a59⟩
    ·exact pK2 (o7 (zah h4 (zah (ng h2) (zi h4 (zi (ng h2) (zi h4 (zI (zcu.ok ht n _ _ _ _ _ _ _ _ _ _ _ _ _ _ _ _ _ h6) ob)))))))
    ·exact pK2 (o7 (zah h4 (zah (ng h2) (zi h4 (zi (ng h2) (zi h4 (zI (zcu.ok ht n _ _ _ _ _ _ _ _ _ _ _ _ _ _ _ _ _ h6) ob)))))))
  ·obtain⟨a60,h7,h⟩:=sm h
   have h8:=h
   have o18 {os} (x:Obls (env Tryz.prog 72 Tryz.f72 call) n os):=zi h1 (zW h2 5 (zah (rfl:false=false) (zy (ng h2) (zN (ht.zc4 _ _ h7) (zi (ng h2) (zi (rfl:false=false) (zi (ng h2) (zi (rfl:false=false) x))))))))
   rcases r with a61 | ⟨a62,a63,a64,a65,a66,a67,a68,a69,a70,a71,a72,a73,a74,a75,a76⟩
   ·exact pK2 (o18 (zI (zcu.ok ht n _ _ _ _ _ _ _ _ _ _ _ _ _ _ _ _ _ h8) ob))
   ·exact pK2 (o18 (zI (zcu.ok ht n _ _ _ _ _ _ _ _ _ _ _ _ _ _ _ _ _ h8) ob))
theorem zcw.ok (ht:TabOk t call) (n:Nat) (a1:Int) (a2:Bool) (a3:Int) (a4:List ByteArray) (a5:List Int) (a6 a7:Int) (a8:ByteArray) (a9 a10:List zh) (a11:Int) (a12:List zh) (a13:List GPred) (a14:List (List GStep)) (a15:List GBy) (a16:List ByteArray) (a17 a18 a19 a20 a21 a22 a23 a24:Int) (a25 a26:Bool) (r:_) (h:zcw t n a1 a2 a3 a4 a5 a6 a7 a8 a9 a10 a11 a12 a13 a14 a15 a16 a17 a18 a19 a20 a21 a22 a23 a24 a25 a26=some r):exec (env Tryz.prog 72 Tryz.f72 call) n (sub [1,1,1,1,0,0,1,1,1] (zq Tryz.f72)) (mkSt 163 163 [(1,(I6 a1)),(2,(.ptr 2 0 [] 0)),(5,(.ptr 5 0 [] 0)),(60,(Bo a2))] [(2,(.t (.st [(.v (.int .i64 a3)),(.sl false 1 (texts a4)),(.sl false 1 (zA a5)),(.st [(.v (.int .i64 a6)),(.v (.int .i64 a7)),(.v (.string a8)),(.sl false 5 (zh.ts a9)),(.sl false 5 (zh.ts a10))]),(.st [(.v (.int .i64 a11)),(.sl false 5 (zh.ts a12)),(.sl false 3 (GPred.ts a13))]),(.sl false 1 (zo a14)),(.sl false 4 (GBy.ts a15)),(.sl false 1 (texts a16))]))),(5,(.t (.st [(.st [(.v (.int .i64 a17)),(.v (.int .i64 a18))]),(.st [(.v (.int .i64 a19)),(.v (.int .i64 a20))]),(.st [(.v (.int .i64 a21)),(.v (.int .i64 a22))]),(.st [(.v (.int .i64 a23)),(.v (.int .i64 a24))]),(.v (.bool a25)),(.v (.bool a26))])))])=some (zcw.to r):=by
 rw[zcw]at h
 rcases fk h with ⟨h1,h⟩ | ⟨h1,h⟩
 ·cases h
  exact pK2 (zi h1 ob)
 ·rcases fk h with ⟨h2,h⟩ | ⟨h2,h⟩
  ·obtain⟨a27,h3,h⟩:=sm h
   have o7 {os} (x:Obls (env Tryz.prog 72 Tryz.f72 call) n os):=zi h1 (zy h2 (zN (ht.zch _ _ h3) (zX h2 x)))
   rcases fk h with ⟨h4,h⟩ | ⟨h4,h⟩
   ·have h5:=h
    rcases r with a28 | ⟨a29,a30,a31,a32,a33,a34,a35,a36,a37,a38,a39,a40,a41,a42,a43⟩
    ·exact pK2 (o7 (zW h4 6 (zI (zcv.ok ht n _ _ _ _ _ _ _ _ _ _ _ _ _ _ _ _ _ _ _ _ _ _ _ _ _ _ _ h5) ob)))
    ·exact pK2 (o7 (zW h4 6 (zI (zcv.ok ht n _ _ _ _ _ _ _ _ _ _ _ _ _ _ _ _ _ _ _ _ _ _ _ _ _ _ _ h5) ob)))
   ·have h6:=h
    rcases r with a44 | ⟨a45,a46,a47,a48,a49,a50,a51,a52,a53,a54,a55,a56,a57,a58,a59⟩
    ·exact pK2 (o7 (zah h4 (zW (ng h2) 5 (zi h4 (zi (ng h2) (zi h4 (zI (zcv.ok ht n _ _ _ _ _ _ _ _ _ _ _ _ _ _ _ _ _ _ _ _ _ _ _ _ _ _ _ h6) ob)))))))
    ·exact pK2 (o7 (zah h4 (zW (ng h2) 5 (zi h4 (zi (ng h2) (zi h4 (zI (zcv.ok ht n _ _ _ _ _ _ _ _ _ _ _ _ _ _ _ _ _ _ _ _ _ _ _ _ _ _ _ h6) ob)))))))
  ·obtain⟨a60,h7,h⟩:=sm h
   have h8:=h
   have o19 {os} (x:Obls (env Tryz.prog 72 Tryz.f72 call) n os):=zi h1 (zW h2 5 (zah (rfl:false=false) (zah (ng h2) (zN (ht.zbU _ _ _ h7) (zi (ng h2) (zi (rfl:false=false) (zi (ng h2) (zi (rfl:false=false) x))))))))
   rcases r with a61 | ⟨a62,a63,a64,a65,a66,a67,a68,a69,a70,a71,a72,a73,a74,a75,a76⟩
   ·exact pK2 (o19 (zI (zcv.ok ht n _ _ _ _ _ _ _ _ _ _ _ _ _ _ _ _ _ _ _ _ _ _ _ _ _ _ _ h8) ob))
   ·exact pK2 (o19 (zI (zcv.ok ht n _ _ _ _ _ _ _ _ _ _ _ _ _ _ _ _ _ _ _ _ _ _ _ _ _ _ _ h8) ob))
theorem zaA.ok (ht:TabOk t call) (n:Nat) (a1:Int) (a2:Bool) (a3:Int) (a4:List ByteArray) (a5:List Int) (a6 a7:Int) (a8:ByteArray) (a9 a10:List zh) (a11:Int) (a12:List zh) (a13:List GPred) (a14:List (List GStep)) (a15:List GBy) (a16:List ByteArray) (a17 a18 a19 a20 a21 a22 a23 a24:Int) (a25 a26:Bool) (r:_) (h:zaA t n a1 a2 a3 a4 a5 a6 a7 a8 a9 a10 a11 a12 a13 a14 a15 a16 a17 a18 a19 a20 a21 a22 a23 a24 a25 a26=some r):exec (env Tryz.prog 72 Tryz.f72 call) n (sub [1,1,1,1,0,0,1] (zq Tryz.f72)) (mkSt 163 163 [(1,(I6 a1)),(2,(.ptr 2 0 [] 0)),(5,(.ptr 5 0 [] 0)),(6,(.fn 89 [])),(19,(Bo a2))] [(2,(.t (.st [(.v (.int .i64 a3)),(.sl false 1 (texts a4)),(.sl false 1 (zA a5)),(.st [(.v (.int .i64 a6)),(.v (.int .i64 a7)),(.v (.string a8)),(.sl false 5 (zh.ts a9)),(.sl false 5 (zh.ts a10))]),(.st [(.v (.int .i64 a11)),(.sl false 5 (zh.ts a12)),(.sl false 3 (GPred.ts a13))]),(.sl false 1 (zo a14)),(.sl false 4 (GBy.ts a15)),(.sl false 1 (texts a16))]))),(5,(.t (.st [(.st [(.v (.int .i64 a17)),(.v (.int .i64 a18))]),(.st [(.v (.int .i64 a19)),(.v (.int .i64 a20))]),(.st [(.v (.int .i64 a21)),(.v (.int .i64 a22))]),(.st [(.v (.int .i64 a23)),(.v (.int .i64 a24))]),(.v (.bool a25)),(.v (.bool a26))])))])=some (zaA.to r):=by
 rw[zaA]at h
 rcases fk h with ⟨h1,h⟩ | ⟨h1,h⟩
 ·cases h
  exact pK2 (zi h1 ob)
 ·obtain⟨a27,h2,h⟩:=sm h
  have o2 {os} (x:Obls (env Tryz.prog 72 Tryz.f72 call) n os):=zi h1 (zN (ht.zB _ _ h2) x)
  rcases fk h with ⟨h3,h⟩ | ⟨h3,h⟩
  ·have h4:=h
   rcases r with a28 | ⟨a29,a30,a31,a32,a33,a34,a35,a36,a37,a38,a39,a40,a41,a42,a43⟩
   ·exact pK2 (o2 (zW h3 5 (zck 4 (zI (zcw.ok ht n _ _ _ _ _ _ _ _ _ _ _ _ _ _ _ _ _ _ _ _ _ _ _ _ _ _ _ h4) ob))))
   ·exact pK2 (o2 (zW h3 5 (zck 4 (zI (zcw.ok ht n _ _ _ _ _ _ _ _ _ _ _ _ _ _ _ _ _ _ _ _ _ _ _ _ _ _ _ h4) ob))))
  ·obtain⟨a44,h5,h⟩:=sm h
   have o8 {os} (x:Obls (env Tryz.prog 72 Tryz.f72 call) n os):=o2 (zah h3 (zN (ht.zB _ _ h5) (zi h3 x)))
   rcases fk h with ⟨h6,h⟩ | ⟨h6,h⟩
   ·have h7:=h
    rcases r with a45 | ⟨a46,a47,a48,a49,a50,a51,a52,a53,a54,a55,a56,a57,a58,a59,a60⟩
    ·exact pK2 (o8 (zah h6 (zI (zcw.ok ht n _ _ _ _ _ _ _ _ _ _ _ _ _ _ _ _ _ _ _ _ _ _ _ _ _ _ _ h7) ob)))
    ·exact pK2 (o8 (zah h6 (zI (zcw.ok ht n _ _ _ _ _ _ _ _ _ _ _ _ _ _ _ _ _ _ _ _ _ _ _ _ _ _ _ h7) ob)))
   ·obtain⟨a61,h8,h⟩:=sm h
    have h9:=h
    rcases r with a62 | ⟨a63,a64,a65,a66,a67,a68,a69,a70,a71,a72,a73,a74,a75,a76,a77⟩
    ·exact pK2 (o8 (zX h6 (zN (ht.zbX _ _ h8) (zX h6 (zI (zcw.ok ht n _ _ _ _ _ _ _ _ _ _ _ _ _ _ _ _ _ _ _ _ _ _ _ _ _ _ _ h9) ob)))))
    ·exact pK2 (o8 (zX h6 (zN (ht.zbX _ _ h8) (zX h6 (zI (zcw.ok ht n _ _ _ _ _ _ _ _ _ _ _ _ _ _ _ _ _ _ _ _ _ _ _ _ _ _ _ h9) ob)))))
theorem zc2.okL (ht:TabOk t call) (n:Nat):∀(k:Nat) (a1:Int) (a2:List (List GStep)) (a3 a4 a5:Int) (a6:List ByteArray) (a7:List Int) (a8 a9:Int) (a10:ByteArray) (a11 a12:List zh) (a13:Int) (a14:List zh) (a15:List GPred) (a16:List (List GStep)) (a17:List GBy) (a18:List ByteArray) (r:_),zc2 t n k a1 a2 a3 a4 a5 a6 a7 a8 a9 a10 a11 a12 a13 a14 a15 a16 a17 a18=some r→loopN (exec (env Tryz.prog 72 Tryz.f72 call) n (sub [1,1,1,1,1,0,1,0,0] (zq Tryz.f72))) k (mkSt 163 163 [(1,(I6 a1)),(2,(.ptr 2 0 [] 0)),(136,(Sl 1 (zo a2))),(137,(I6 a3)),(138,(I6 a4))] [(2,(.t (.st [(.v (.int .i64 a5)),(.sl false 1 (texts a6)),(.sl false 1 (zA a7)),(.st [(.v (.int .i64 a8)),(.v (.int .i64 a9)),(.v (.string a10)),(.sl false 5 (zh.ts a11)),(.sl false 5 (zh.ts a12))]),(.st [(.v (.int .i64 a13)),(.sl false 5 (zh.ts a14)),(.sl false 3 (GPred.ts a15))]),(.sl false 1 (zo a16)),(.sl false 4 (GBy.ts a17)),(.sl false 1 (texts a18))])))])=some (zc2.to r)
 | 0,a1,a2,a3,a4,a5,a6,a7,a8,a9,a10,a11,a12,a13,a14,a15,a16,a17,a18,r,h=>by rw[zc2]at h;cases h
 | k+1,a1,a2,a3,a4,a5,a6,a7,a8,a9,a10,a11,a12,a13,a14,a15,a16,a17,a18,r,h=>by
  rw[zc2]at h
  rcases fk h with ⟨h1,h⟩ | ⟨h1,h⟩
  ·obtain⟨h2,h⟩:=ck h
   obtain⟨a19,h3,h⟩:=sm h
   obtain⟨a20,h4,h⟩:=sm h
   rcases fk h with ⟨h5,h⟩ | ⟨h5,h⟩
   ·exact zF (pK2 (zi h1 (zae h2 (zab (zu zx h3) (zN (ht.za9 _ _ _ h4) (zi (ng h5) ob)))))) (zc2.okL ht n k _ _ _ _ _ _ _ _ _ _ _ _ _ _ _ _ _ _ _ h)
   ·cases h
    exact zw (pK2 (zi h1 (zae h2 (zab (zu zx h3) (zN (ht.za9 _ _ _ h4) (zi (ng h5) ob)))))) (fun h=>by cases h)
  ·cases h
   exact zw (pK2 (zi h1 ob)) (fun h=>by cases h)
theorem zc3.okL (ht:TabOk t call) (n:Nat):∀(k:Nat) (a1:Int) (a2:List GBy) (a3 a4 a5:Int) (a6:List ByteArray) (a7:List Int) (a8 a9:Int) (a10:ByteArray) (a11 a12:List zh) (a13:Int) (a14:List zh) (a15:List GPred) (a16:List (List GStep)) (a17:List GBy) (a18:List ByteArray) (r:_),zc3 t n k a1 a2 a3 a4 a5 a6 a7 a8 a9 a10 a11 a12 a13 a14 a15 a16 a17 a18=some r→loopN (exec (env Tryz.prog 72 Tryz.f72 call) n (sub [1,1,1,1,1,1,0,1,0,0] (zq Tryz.f72))) k (mkSt 163 163 [(1,(I6 a1)),(2,(.ptr 2 0 [] 0)),(149,(Sl 4 (GBy.ts a2))),(150,(I6 a3)),(151,(I6 a4))] [(2,(.t (.st [(.v (.int .i64 a5)),(.sl false 1 (texts a6)),(.sl false 1 (zA a7)),(.st [(.v (.int .i64 a8)),(.v (.int .i64 a9)),(.v (.string a10)),(.sl false 5 (zh.ts a11)),(.sl false 5 (zh.ts a12))]),(.st [(.v (.int .i64 a13)),(.sl false 5 (zh.ts a14)),(.sl false 3 (GPred.ts a15))]),(.sl false 1 (zo a16)),(.sl false 4 (GBy.ts a17)),(.sl false 1 (texts a18))])))])=some (zc3.to r)
 | 0,a1,a2,a3,a4,a5,a6,a7,a8,a9,a10,a11,a12,a13,a14,a15,a16,a17,a18,r,h=>by rw[zc3]at h;cases h
 | k+1,a1,a2,a3,a4,a5,a6,a7,a8,a9,a10,a11,a12,a13,a14,a15,a16,a17,a18,r,h=>by
  rw[zc3]at h
  rcases fk h with ⟨h1,h⟩ | ⟨h1,h⟩
  ·obtain⟨h2,h⟩:=ck h
   obtain⟨⟨a19,a20,a21,a22⟩,h3,h⟩:=sm h
   obtain⟨a23,h4,h⟩:=sm h
   rcases fk h with ⟨h5,h⟩ | ⟨h5,h⟩
   ·exact zF (pK2 (zi h1 (zae h2 (zab (zu GBy.zl h3) (zN (ht.zet _ _ _ _ h4) (zi (ng h5) ob)))))) (zc3.okL ht n k _ _ _ _ _ _ _ _ _ _ _ _ _ _ _ _ _ _ _ h)
   ·cases h
    exact zw (pK2 (zi h1 (zae h2 (zab (zu GBy.zl h3) (zN (ht.zet _ _ _ _ h4) (zi (ng h5) ob)))))) (fun h=>by cases h)
  ·cases h
   exact zw (pK2 (zi h1 ob)) (fun h=>by cases h)
theorem zeK.ok (ht:TabOk t call) (n:Nat) (a1 a2:Int) (a3:List ByteArray) (a4:List Int) (a5 a6:Int) (a7:ByteArray) (a8 a9:List zh) (a10:Int) (a11:List zh) (a12:List GPred) (a13:List (List GStep)) (a14:List GBy) (a15:List ByteArray) (r:_) (h:zeK t n a1 a2 a3 a4 a5 a6 a7 a8 a9 a10 a11 a12 a13 a14 a15=some r):exec (env Tryz.prog 72 Tryz.f72 call) n (sub [1,1,1,1,1,1] (zq Tryz.f72)) (mkSt 163 163 [(1,(I6 a1)),(2,(.ptr 2 0 [] 0))] [(2,(.t (.st [(.v (.int .i64 a2)),(.sl false 1 (texts a3)),(.sl false 1 (zA a4)),(.st [(.v (.int .i64 a5)),(.v (.int .i64 a6)),(.v (.string a7)),(.sl false 5 (zh.ts a8)),(.sl false 5 (zh.ts a9))]),(.st [(.v (.int .i64 a10)),(.sl false 5 (zh.ts a11)),(.sl false 3 (GPred.ts a12))]),(.sl false 1 (zo a13)),(.sl false 4 (GBy.ts a14)),(.sl false 1 (texts a15))])))])=some (zeK.to r):=by
 rw[zeK]at h
 obtain⟨a16 | ⟨a17,a18,a19,a20,a21,a22,a23,a24,a25,a26,a27,a28,a29,a30,a31,a32,a33,a34,a35⟩,h1,h⟩:=sm h
 ·cases h
  exact pK2 (zD (zn GBy.zl (l:=a14)) (zaS (lk (sub [1,1,1,1,1,1,0,1,0] (zq Tryz.f72)) (by kernel_rfl) (zc3.okL ht n n _ _ _ _ _ _ _ _ _ _ _ _ _ _ _ _ _ _ _ h1)) ob))
 ·cases h
  exact pK2 (zD (zn GBy.zl (l:=a14)) (zaS (lk (sub [1,1,1,1,1,1,0,1,0] (zq Tryz.f72)) (by kernel_rfl) (zc3.okL ht n n _ _ _ _ _ _ _ _ _ _ _ _ _ _ _ _ _ _ _ h1)) ob))
theorem zcg.ok (ht:TabOk t call) (n:Nat) (a1 a2:Int) (a3:List ByteArray) (a4:List Int) (a5 a6:Int) (a7:ByteArray) (a8 a9:List zh) (a10:Int) (a11:List zh) (a12:List GPred) (a13:List (List GStep)) (a14:List GBy) (a15:List ByteArray) (r:_) (h:zcg t n a1 a2 a3 a4 a5 a6 a7 a8 a9 a10 a11 a12 a13 a14 a15=some r):exec (env Tryz.prog 72 Tryz.f72 call) n (sub [1,1,1,1,1] (zq Tryz.f72)) (mkSt 163 163 [(1,(I6 a1)),(2,(.ptr 2 0 [] 0))] [(2,(.t (.st [(.v (.int .i64 a2)),(.sl false 1 (texts a3)),(.sl false 1 (zA a4)),(.st [(.v (.int .i64 a5)),(.v (.int .i64 a6)),(.v (.string a7)),(.sl false 5 (zh.ts a8)),(.sl false 5 (zh.ts a9))]),(.st [(.v (.int .i64 a10)),(.sl false 5 (zh.ts a11)),(.sl false 3 (GPred.ts a12))]),(.sl false 1 (zo a13)),(.sl false 4 (GBy.ts a14)),(.sl false 1 (texts a15))])))])=some (zcg.to r):=by
 rw[zcg]at h
 obtain⟨a16 | ⟨a17,a18,a19,a20,a21,a22,a23,a24,a25,a26,a27,a28,a29,a30,a31,a32,a33,a34,a35⟩,h1,h⟩:=sm h
 ·cases h
  exact pK2 (zD (zn zx (l:=a13)) (zaS (lk (sub [1,1,1,1,1,0,1,0] (zq Tryz.f72)) (by kernel_rfl) (zc2.okL ht n n _ _ _ _ _ _ _ _ _ _ _ _ _ _ _ _ _ _ _ h1)) ob))
 ·obtain⟨a36,rfl⟩:∃z_,z_=r:=⟨_,rfl⟩
  have h2:=h
  exact pK2 (zD (zn zx (l:=a13)) (zaS (lk (sub [1,1,1,1,1,0,1,0] (zq Tryz.f72)) (by kernel_rfl) (zc2.okL ht n n _ _ _ _ _ _ _ _ _ _ _ _ _ _ _ _ _ _ _ h1)) (zI (zeK.ok ht n _ _ _ _ _ _ _ _ _ _ _ _ _ _ _ _ h2) ob)))
theorem zer.ok {n:Nat} {t:Tab} (ht:TabOk t (run Tryz.prog own kp X n)):∀(p1:GStep) (p2:Int) r,zer t n p1 p2=some r→run Tryz.prog own kp X (n+1) 72 [(.t (GStep.t p1)),(I6 p2)] []=some ((Bo r),[]):=by
 intro p1 p2 r h
 obtain⟨a1,a2,a3,⟨a4,a5,a6,a7,a8⟩,⟨a9,a10,a11⟩,a12,a13,a14⟩:=p1
 obtain⟨a15,rfl⟩:∃z_,z_=p2:=⟨_,rfl⟩
 rw[zer]at h
 obtain⟨a16,h1,h⟩:=sm h
 rcases fk h with ⟨h2,h⟩ | ⟨h2,h⟩
 ·cases h
  exact zk Tryz.func72 (zN (ht.zdZ _ _ h1) (zi h2 ob)) (by kernel_rfl)
 ·obtain⟨⟨⟨⟨a17,a18⟩,⟨a19,a20⟩,⟨a21,a22⟩,⟨a23,a24⟩,a25,a26⟩,⟨⟨a27,a28⟩,⟨a29,a30⟩,⟨a31,a32⟩,⟨a33,a34⟩,a35,a36⟩,⟨⟨a37,a38⟩,⟨a39,a40⟩,⟨a41,a42⟩,⟨a43,a44⟩,a45,a46⟩,⟨⟨a47,a48⟩,⟨a49,a50⟩,⟨a51,a52⟩,⟨a53,a54⟩,a55,a56⟩,⟨⟨a57,a58⟩,⟨a59,a60⟩,⟨a61,a62⟩,⟨a63,a64⟩,a65,a66⟩,⟨⟨a67,a68⟩,⟨a69,a70⟩,⟨a71,a72⟩,⟨a73,a74⟩,a75,a76⟩,⟨⟨a77,a78⟩,⟨a79,a80⟩,⟨a81,a82⟩,⟨a83,a84⟩,a85,a86⟩,⟨⟨a87,a88⟩,⟨a89,a90⟩,⟨a91,a92⟩,⟨a93,a94⟩,a95,a96⟩,⟨⟨a97,a98⟩,⟨a99,a100⟩,⟨a101,a102⟩,⟨a103,a104⟩,a105,a106⟩,⟨⟨a107,a108⟩,⟨a109,a110⟩,⟨a111,a112⟩,⟨a113,a114⟩,a115,a116⟩,⟨⟨a117,a118⟩,⟨a119,a120⟩,⟨a121,a122⟩,⟨a123,a124⟩,a125,a126⟩,⟨⟨a127,a128⟩,⟨a129,a130⟩,⟨a131,a132⟩,⟨a133,a134⟩,a135,a136⟩,⟨⟨a137,a138⟩,⟨a139,a140⟩,⟨a141,a142⟩,⟨a143,a144⟩,a145,a146⟩,⟨⟨a147,a148⟩,⟨a149,a150⟩,⟨a151,a152⟩,⟨a153,a154⟩,a155,a156⟩,⟨⟨a157,a158⟩,⟨a159,a160⟩,⟨a161,a162⟩,⟨a163,a164⟩,a165,a166⟩,⟨⟨a167,a168⟩,⟨a169,a170⟩,⟨a171,a172⟩,⟨a173,a174⟩,a175,a176⟩,⟨⟨a177,a178⟩,⟨a179,a180⟩,⟨a181,a182⟩,⟨a183,a184⟩,a185,a186⟩,⟨⟨a187,a188⟩,⟨a189,a190⟩,⟨a191,a192⟩,⟨a193,a194⟩,a195,a196⟩,⟨⟨a197,a198⟩,⟨a199,a200⟩,⟨a201,a202⟩,⟨a203,a204⟩,a205,a206⟩,⟨⟨a207,a208⟩,⟨a209,a210⟩,⟨a211,a212⟩,⟨a213,a214⟩,a215,a216⟩,⟨⟨a217,a218⟩,⟨a219,a220⟩,⟨a221,a222⟩,⟨a223,a224⟩,a225,a226⟩,⟨⟨a227,a228⟩,⟨a229,a230⟩,⟨a231,a232⟩,⟨a233,a234⟩,a235,a236⟩,⟨⟨a237,a238⟩,⟨a239,a240⟩,⟨a241,a242⟩,⟨a243,a244⟩,a245,a246⟩,⟨⟨a247,a248⟩,⟨a249,a250⟩,⟨a251,a252⟩,⟨a253,a254⟩,a255,a256⟩,⟨⟨a257,a258⟩,⟨a259,a260⟩,⟨a261,a262⟩,⟨a263,a264⟩,a265,a266⟩,⟨⟨a267,a268⟩,⟨a269,a270⟩,⟨a271,a272⟩,⟨a273,a274⟩,a275,a276⟩,⟨⟨a277,a278⟩,⟨a279,a280⟩,⟨a281,a282⟩,⟨a283,a284⟩,a285,a286⟩,⟨⟨a287,a288⟩,⟨a289,a290⟩,⟨a291,a292⟩,⟨a293,a294⟩,a295,a296⟩,⟨⟨a297,a298⟩,⟨a299,a300⟩,⟨a301,a302⟩,⟨a303,a304⟩,a305,a306⟩,⟨⟨a307,a308⟩,⟨a309,a310⟩,⟨a311,a312⟩,⟨a313,a314⟩,a315,a316⟩,⟨⟨a317,a318⟩,⟨a319,a320⟩,⟨a321,a322⟩,⟨a323,a324⟩,a325,a326⟩,⟨⟨a327,a328⟩,⟨a329,a330⟩,⟨a331,a332⟩,⟨a333,a334⟩,a335,a336⟩,⟨⟨a337,a338⟩,⟨a339,a340⟩,⟨a341,a342⟩,⟨a343,a344⟩,a345,a346⟩,⟨⟨a347,a348⟩,⟨a349,a350⟩,⟨a351,a352⟩,⟨a353,a354⟩,a355,a356⟩,⟨⟨a357,a358⟩,⟨a359,a360⟩,⟨a361,a362⟩,⟨a363,a364⟩,a365,a366⟩,⟨⟨a367,a368⟩,⟨a369,a370⟩,⟨a371,a372⟩,⟨a373,a374⟩,a375,a376⟩,⟨⟨a377,a378⟩,⟨a379,a380⟩,⟨a381,a382⟩,⟨a383,a384⟩,a385,a386⟩,⟨⟨a387,a388⟩,⟨a389,a390⟩,⟨a391,a392⟩,⟨a393,a394⟩,a395,a396⟩,⟨⟨a397,a398⟩,⟨a399,a400⟩,⟨a401,a402⟩,⟨a403,a404⟩,a405,a406⟩,⟨⟨a407,a408⟩,⟨a409,a410⟩,⟨a411,a412⟩,⟨a413,a414⟩,a415,a416⟩,⟨⟨a417,a418⟩,⟨a419,a420⟩,⟨a421,a422⟩,⟨a423,a424⟩,a425,a426⟩,⟨⟨a427,a428⟩,⟨a429,a430⟩,⟨a431,a432⟩,⟨a433,a434⟩,a435,a436⟩,⟨⟨a437,a438⟩,⟨a439,a440⟩,⟨a441,a442⟩,⟨a443,a444⟩,a445,a446⟩,⟨⟨a447,a448⟩,⟨a449,a450⟩,⟨a451,a452⟩,⟨a453,a454⟩,a455,a456⟩,⟨⟨a457,a458⟩,⟨a459,a460⟩,⟨a461,a462⟩,⟨a463,a464⟩,a465,a466⟩,⟨⟨a467,a468⟩,⟨a469,a470⟩,⟨a471,a472⟩,⟨a473,a474⟩,a475,a476⟩,⟨⟨a477,a478⟩,⟨a479,a480⟩,⟨a481,a482⟩,⟨a483,a484⟩,a485,a486⟩,⟨⟨a487,a488⟩,⟨a489,a490⟩,⟨a491,a492⟩,⟨a493,a494⟩,a495,a496⟩,⟨⟨a497,a498⟩,⟨a499,a500⟩,⟨a501,a502⟩,⟨a503,a504⟩,a505,a506⟩,⟨⟨a507,a508⟩,⟨a509,a510⟩,⟨a511,a512⟩,⟨a513,a514⟩,a515,a516⟩,⟨⟨a517,a518⟩,⟨a519,a520⟩,⟨a521,a522⟩,⟨a523,a524⟩,a525,a526⟩,⟨⟨a527,a528⟩,⟨a529,a530⟩,⟨a531,a532⟩,⟨a533,a534⟩,a535,a536⟩⟩,h3,h⟩:=sm h
  obtain⟨h4,h⟩:=ck h
  rcases h5:([(zm.mk (GT122.mk a17 a18) (GT122.mk a19 a20) (GT122.mk a21 a22) (GT122.mk a23 a24) a25 a26),(zm.mk (GT122.mk a27 a28) (GT122.mk a29 a30) (GT122.mk a31 a32) (GT122.mk a33 a34) a35 a36),(zm.mk (GT122.mk a37 a38) (GT122.mk a39 a40) (GT122.mk a41 a42) (GT122.mk a43 a44) a45 a46),(zm.mk (GT122.mk a47 a48) (GT122.mk a49 a50) (GT122.mk a51 a52) (GT122.mk a53 a54) a55 a56),(zm.mk (GT122.mk a57 a58) (GT122.mk a59 a60) (GT122.mk a61 a62) (GT122.mk a63 a64) a65 a66),(zm.mk (GT122.mk a67 a68) (GT122.mk a69 a70) (GT122.mk a71 a72) (GT122.mk a73 a74) a75 a76),(zm.mk (GT122.mk a77 a78) (GT122.mk a79 a80) (GT122.mk a81 a82) (GT122.mk a83 a84) a85 a86),(zm.mk (GT122.mk a87 a88) (GT122.mk a89 a90) (GT122.mk a91 a92) (GT122.mk a93 a94) a95 a96),(zm.mk (GT122.mk a97 a98) (GT122.mk a99 a100) (GT122.mk a101 a102) (GT122.mk a103 a104) a105 a106),(zm.mk (GT122.mk a107 a108) (GT122.mk a109 a110) (GT122.mk a111 a112) (GT122.mk a113 a114) a115 a116),(zm.mk (GT122.mk a117 a118) (GT122.mk a119 a120) (GT122.mk a121 a122) (GT122.mk a123 a124) a125 a126),(zm.mk (GT122.mk a127 a128) (GT122.mk a129 a130) (GT122.mk a131 a132) (GT122.mk a133 a134) a135 a136),(zm.mk (GT122.mk a137 a138) (GT122.mk a139 a140) (GT122.mk a141 a142) (GT122.mk a143 a144) a145 a146),(zm.mk (GT122.mk a147 a148) (GT122.mk a149 a150) (GT122.mk a151 a152) (GT122.mk a153 a154) a155 a156),(zm.mk (GT122.mk a157 a158) (GT122.mk a159 a160) (GT122.mk a161 a162) (GT122.mk a163 a164) a165 a166),(zm.mk (GT122.mk a167 a168) (GT122.mk a169 a170) (GT122.mk a171 a172) (GT122.mk a173 a174) a175 a176),(zm.mk (GT122.mk a177 a178) (GT122.mk a179 a180) (GT122.mk a181 a182) (GT122.mk a183 a184) a185 a186),(zm.mk (GT122.mk a187 a188) (GT122.mk a189 a190) (GT122.mk a191 a192) (GT122.mk a193 a194) a195 a196),(zm.mk (GT122.mk a197 a198) (GT122.mk a199 a200) (GT122.mk a201 a202) (GT122.mk a203 a204) a205 a206),(zm.mk (GT122.mk a207 a208) (GT122.mk a209 a210) (GT122.mk a211 a212) (GT122.mk a213 a214) a215 a216),(zm.mk (GT122.mk a217 a218) (GT122.mk a219 a220) (GT122.mk a221 a222) (GT122.mk a223 a224) a225 a226),(zm.mk (GT122.mk a227 a228) (GT122.mk a229 a230) (GT122.mk a231 a232) (GT122.mk a233 a234) a235 a236),(zm.mk (GT122.mk a237 a238) (GT122.mk a239 a240) (GT122.mk a241 a242) (GT122.mk a243 a244) a245 a246),(zm.mk (GT122.mk a247 a248) (GT122.mk a249 a250) (GT122.mk a251 a252) (GT122.mk a253 a254) a255 a256),(zm.mk (GT122.mk a257 a258) (GT122.mk a259 a260) (GT122.mk a261 a262) (GT122.mk a263 a264) a265 a266),(zm.mk (GT122.mk a267 a268) (GT122.mk a269 a270) (GT122.mk a271 a272) (GT122.mk a273 a274) a275 a276),(zm.mk (GT122.mk a277 a278) (GT122.mk a279 a280) (GT122.mk a281 a282) (GT122.mk a283 a284) a285 a286),(zm.mk (GT122.mk a287 a288) (GT122.mk a289 a290) (GT122.mk a291 a292) (GT122.mk a293 a294) a295 a296),(zm.mk (GT122.mk a297 a298) (GT122.mk a299 a300) (GT122.mk a301 a302) (GT122.mk a303 a304) a305 a306),(zm.mk (GT122.mk a307 a308) (GT122.mk a309 a310) (GT122.mk a311 a312) (GT122.mk a313 a314) a315 a316),(zm.mk (GT122.mk a317 a318) (GT122.mk a319 a320) (GT122.mk a321 a322) (GT122.mk a323 a324) a325 a326),(zm.mk (GT122.mk a327 a328) (GT122.mk a329 a330) (GT122.mk a331 a332) (GT122.mk a333 a334) a335 a336),(zm.mk (GT122.mk a337 a338) (GT122.mk a339 a340) (GT122.mk a341 a342) (GT122.mk a343 a344) a345 a346),(zm.mk (GT122.mk a347 a348) (GT122.mk a349 a350) (GT122.mk a351 a352) (GT122.mk a353 a354) a355 a356),(zm.mk (GT122.mk a357 a358) (GT122.mk a359 a360) (GT122.mk a361 a362) (GT122.mk a363 a364) a365 a366),(zm.mk (GT122.mk a367 a368) (GT122.mk a369 a370) (GT122.mk a371 a372) (GT122.mk a373 a374) a375 a376),(zm.mk (GT122.mk a377 a378) (GT122.mk a379 a380) (GT122.mk a381 a382) (GT122.mk a383 a384) a385 a386),(zm.mk (GT122.mk a387 a388) (GT122.mk a389 a390) (GT122.mk a391 a392) (GT122.mk a393 a394) a395 a396),(zm.mk (GT122.mk a397 a398) (GT122.mk a399 a400) (GT122.mk a401 a402) (GT122.mk a403 a404) a405 a406),(zm.mk (GT122.mk a407 a408) (GT122.mk a409 a410) (GT122.mk a411 a412) (GT122.mk a413 a414) a415 a416),(zm.mk (GT122.mk a417 a418) (GT122.mk a419 a420) (GT122.mk a421 a422) (GT122.mk a423 a424) a425 a426),(zm.mk (GT122.mk a427 a428) (GT122.mk a429 a430) (GT122.mk a431 a432) (GT122.mk a433 a434) a435 a436),(zm.mk (GT122.mk a437 a438) (GT122.mk a439 a440) (GT122.mk a441 a442) (GT122.mk a443 a444) a445 a446),(zm.mk (GT122.mk a447 a448) (GT122.mk a449 a450) (GT122.mk a451 a452) (GT122.mk a453 a454) a455 a456),(zm.mk (GT122.mk a457 a458) (GT122.mk a459 a460) (GT122.mk a461 a462) (GT122.mk a463 a464) a465 a466),(zm.mk (GT122.mk a467 a468) (GT122.mk a469 a470) (GT122.mk a471 a472) (GT122.mk a473 a474) a475 a476),(zm.mk (GT122.mk a477 a478) (GT122.mk a479 a480) (GT122.mk a481 a482) (GT122.mk a483 a484) a485 a486),(zm.mk (GT122.mk a487 a488) (GT122.mk a489 a490) (GT122.mk a491 a492) (GT122.mk a493 a494) a495 a496),(zm.mk (GT122.mk a497 a498) (GT122.mk a499 a500) (GT122.mk a501 a502) (GT122.mk a503 a504) a505 a506),(zm.mk (GT122.mk a507 a508) (GT122.mk a509 a510) (GT122.mk a511 a512) (GT122.mk a513 a514) a515 a516),(zm.mk (GT122.mk a517 a518) (GT122.mk a519 a520) (GT122.mk a521 a522) (GT122.mk a523 a524) a525 a526),(zm.mk (GT122.mk a527 a528) (GT122.mk a529 a530) (GT122.mk a531 a532) (GT122.mk a533 a534) a535 a536)]:List zm)[(a1:Int).toNat]? with _ | ⟨⟨a537,a538⟩,⟨a539,a540⟩,⟨a541,a542⟩,⟨a543,a544⟩,a545,a546⟩
  ·rw[h5]at h;cases h
  rw[h5]at h
  dsimp only at h
  obtain⟨a547,h6,h⟩:=sm h
  have o7 {os} (x:Obls (env Tryz.prog 72 Tryz.f72 (run Tryz.prog own kp X n)) n os):=zN (ht.zdZ _ _ h1) (zi h2 (zN (ht.zcX _ h3) (zae h4 (zab (zu zm.zl h5) (zD (zn zJ (l:=a2)) (zN (ht.zea _ _ _ h6) x))))))
  rcases fk h with ⟨h7,h⟩ | ⟨h7,h⟩
  ·obtain⟨a548,h8,h⟩:=sm h
   have o17 {os} (x:Obls (env Tryz.prog 72 Tryz.f72 (run Tryz.prog own kp X n)) n os):=o7 (zy (ng h7) (zD (zn zz (l:=a3)) (zy (ng h7) (zN (ht.zea _ _ _ h8) (zX (ng h7) x)))))
   rcases fk h with ⟨h9,h⟩ | ⟨h9,h⟩
   ·obtain⟨a549,h10,h⟩:=sm h
    have o27 {os} (x:Obls (env Tryz.prog 72 Tryz.f72 (run Tryz.prog own kp X n)) n os):=o17 (zy (ng h9) (zD (zn zx (l:=a12)) (zy (ng h9) (zN (ht.zea _ _ _ h10) (zX (ng h9) x)))))
    rcases fk h with ⟨h11,h⟩ | ⟨h11,h⟩
    ·obtain⟨a550,h12,h⟩:=sm h
     have o37 {os} (x:Obls (env Tryz.prog 72 Tryz.f72 (run Tryz.prog own kp X n)) n os):=o27 (zy (ng h11) (zD (zn GBy.zl (l:=a13)) (zy (ng h11) (zN (ht.zea _ _ _ h12) (zX (ng h11) x)))))
     rcases fk h with ⟨h13,h⟩ | ⟨h13,h⟩
     ·obtain⟨a551 | ⟨a552,a553,a554,a555,a556,a557,a558,a559,a560,a561,a562,a563,a564,a565,a566⟩,h14,h⟩:=sm h
      ·cases h
       exact zk Tryz.func72 (o37 (zy (ng h13) (zD (zn zJ (l:=a14)) (zX (ng h13) (zI (zaA.ok ht n _ _ _ _ _ _ _ _ _ _ _ _ _ _ _ _ _ _ _ _ _ _ _ _ _ _ _ h14) ob))))) (by kernel_rfl)
      ·obtain⟨a567,rfl⟩:∃z_,z_=r:=⟨_,rfl⟩
       have h15:=h
       exact zk Tryz.func72 (o37 (zy (ng h13) (zD (zn zJ (l:=a14)) (zX (ng h13) (zI (zaA.ok ht n _ _ _ _ _ _ _ _ _ _ _ _ _ _ _ _ _ _ _ _ _ _ _ _ _ _ _ h14) (zI (zcg.ok ht n _ _ _ _ _ _ _ _ _ _ _ _ _ _ _ _ h15) ob)))))) (by kernel_rfl)
     ·obtain⟨a568 | ⟨a569,a570,a571,a572,a573,a574,a575,a576,a577,a578,a579,a580,a581,a582,a583⟩,h16,h⟩:=sm h
      ·cases h
       exact zk Tryz.func72 (o37 (zW (ng h13) 5 (zI (zaA.ok ht n _ _ _ _ _ _ _ _ _ _ _ _ _ _ _ _ _ _ _ _ _ _ _ _ _ _ _ h16) ob))) (by kernel_rfl)
      ·obtain⟨a584,rfl⟩:∃z_,z_=r:=⟨_,rfl⟩
       have h17:=h
       exact zk Tryz.func72 (o37 (zW (ng h13) 5 (zI (zaA.ok ht n _ _ _ _ _ _ _ _ _ _ _ _ _ _ _ _ _ _ _ _ _ _ _ _ _ _ _ h16) (zI (zcg.ok ht n _ _ _ _ _ _ _ _ _ _ _ _ _ _ _ _ h17) ob)))) (by kernel_rfl)
    ·have o40 {os} (x:Obls (env Tryz.prog 72 Tryz.f72 (run Tryz.prog own kp X n)) n os):=o27 (zW (ng h11) 8 (zck 5 x))
     obtain⟨a585 | ⟨a586,a587,a588,a589,a590,a591,a592,a593,a594,a595,a596,a597,a598,a599,a600⟩,h18,h⟩:=sm h
     ·cases h
      exact zk Tryz.func72 (o40 (zI (zaA.ok ht n _ _ _ _ _ _ _ _ _ _ _ _ _ _ _ _ _ _ _ _ _ _ _ _ _ _ _ h18) ob)) (by kernel_rfl)
     ·obtain⟨a601,rfl⟩:∃z_,z_=r:=⟨_,rfl⟩
      have h19:=h
      exact zk Tryz.func72 (o40 (zI (zaA.ok ht n _ _ _ _ _ _ _ _ _ _ _ _ _ _ _ _ _ _ _ _ _ _ _ _ _ _ _ h18) (zI (zcg.ok ht n _ _ _ _ _ _ _ _ _ _ _ _ _ _ _ _ h19) ob))) (by kernel_rfl)
   ·have o38 {os} (x:Obls (env Tryz.prog 72 Tryz.f72 (run Tryz.prog own kp X n)) n os):=o17 (zW (ng h9) 8 (zck 13 x))
    obtain⟨a602 | ⟨a603,a604,a605,a606,a607,a608,a609,a610,a611,a612,a613,a614,a615,a616,a617⟩,h20,h⟩:=sm h
    ·cases h
     exact zk Tryz.func72 (o38 (zI (zaA.ok ht n _ _ _ _ _ _ _ _ _ _ _ _ _ _ _ _ _ _ _ _ _ _ _ _ _ _ _ h20) ob)) (by kernel_rfl)
    ·obtain⟨a618,rfl⟩:∃z_,z_=r:=⟨_,rfl⟩
     have h21:=h
     exact zk Tryz.func72 (o38 (zI (zaA.ok ht n _ _ _ _ _ _ _ _ _ _ _ _ _ _ _ _ _ _ _ _ _ _ _ _ _ _ _ h20) (zI (zcg.ok ht n _ _ _ _ _ _ _ _ _ _ _ _ _ _ _ _ h21) ob))) (by kernel_rfl)
  ·have o36 {os} (x:Obls (env Tryz.prog 72 Tryz.f72 (run Tryz.prog own kp X n)) n os):=o7 (zW (ng h7) 8 (zck 21 x))
   obtain⟨a619 | ⟨a620,a621,a622,a623,a624,a625,a626,a627,a628,a629,a630,a631,a632,a633,a634⟩,h22,h⟩:=sm h
   ·cases h
    exact zk Tryz.func72 (o36 (zI (zaA.ok ht n _ _ _ _ _ _ _ _ _ _ _ _ _ _ _ _ _ _ _ _ _ _ _ _ _ _ _ h22) ob)) (by kernel_rfl)
   ·obtain⟨a635,rfl⟩:∃z_,z_=r:=⟨_,rfl⟩
    have h23:=h
    exact zk Tryz.func72 (o36 (zI (zaA.ok ht n _ _ _ _ _ _ _ _ _ _ _ _ _ _ _ _ _ _ _ _ _ _ _ _ _ _ _ h22) (zI (zcg.ok ht n _ _ _ _ _ _ _ _ _ _ _ _ _ _ _ _ h23) ob))) (by kernel_rfl)
theorem zee.ok {n:Nat} {t:Tab} (ht:TabOk t (run Tryz.prog own kp X n)):∀(p1:zh) (p2:zh) r,zee t n p1 p2=some r→run Tryz.prog own kp X (n+1) 81 [(.t (zh.t p1)),(.t (zh.t p2))] []=some ((I6 r),[]):=by
 intro p1 p2 r h
 obtain⟨a1,a2,a3,a4,a5⟩:=p1
 obtain⟨a6,a7,a8,a9,a10⟩:=p2
 rw[zee]at h
 obtain⟨a11,rfl⟩:∃z_,z_=r:=⟨_,rfl⟩
 have h1:=h
 exact zk Tryz.func81 (zN (ht.zbC _ _ _ _ h1) ob) (by kernel_rfl)
theorem zat.okL (ht:TabOk t call) (n:Nat):∀(k:Nat) (a1 a2:List zh) (a3 a4:Int) (r:_),zat t n k a1 a2 a3 a4=some r→loopN (exec (env Tryz.prog 82 Tryz.f82 call) n (sub [1,1,0,1,0,0] (zq Tryz.f82))) k (mkSt 32 32 [(1,(Sl 5 (zh.ts a1))),(2,(.fn 65 [])),(15,(Sl 5 (zh.ts a2))),(16,(I6 a3)),(17,(I6 a4))] [])=some (zat.to r)
 | 0,a1,a2,a3,a4,r,h=>by rw[zat]at h;cases h
 | k+1,a1,a2,a3,a4,r,h=>by
  rw[zat]at h
  rcases fk h with ⟨h1,h⟩ | ⟨h1,h⟩
  ·obtain⟨h2,h⟩:=ck h
   obtain⟨⟨a5,a6,a7,a8,a9⟩,h3,h⟩:=sm h
   obtain⟨⟨a10,a11,a12,a13,a14⟩,h4,h⟩:=sm h
   obtain⟨a15,h5,h⟩:=sm h
   rcases fk h with ⟨h6,h⟩ | ⟨h6,h⟩
   ·exact zF (pK2 (zi h1 (zae h2 (zab (zu zh.zl h3) (zae h2 (zab (zu zh.zl h4) (zN (ht.zbU _ _ _ h5) (zi (ng h6) ob)))))))) (zat.okL ht n k _ _ _ _ _ h)
   ·cases h
    exact zw (pK2 (zi h1 (zae h2 (zab (zu zh.zl h3) (zae h2 (zab (zu zh.zl h4) (zN (ht.zbU _ _ _ h5) (zi (ng h6) ob)))))))) (fun h=>by cases h)
  ·cases h
   exact zw (pK2 (zi h1 ob)) (fun h=>by cases h)
theorem zay.ok {n:Nat} {t:Tab} (ht:TabOk t (run Tryz.prog own kp X n)):∀(p1:List zh) (p2:List zh) r,zay t n p1 p2=some r→run Tryz.prog own kp X (n+1) 82 [(Sl 5 (zh.ts p1)),(Sl 5 (zh.ts p2)),(.fn 65 [])] []=some ((Bo r),[]):=by
 intro p1 p2 r h
 obtain⟨a1,rfl⟩:∃z_,z_=p1:=⟨_,rfl⟩
 obtain⟨a2,rfl⟩:∃z_,z_=p2:=⟨_,rfl⟩
 rw[zay]at h
 have o2 {os} (x:Obls (env Tryz.prog 82 Tryz.f82 (run Tryz.prog own kp X n)) n os):=zD (zn zh.zl (l:=a1)) (zD (zn zh.zl (l:=a2)) x)
 rcases fk h with ⟨h1,h⟩ | ⟨h1,h⟩
 ·cases h
  exact zk Tryz.func82 (o2 (zi h1 ob)) (by kernel_rfl)
 ·obtain⟨a3 | ⟨a4,a5,a6,a7,a8⟩,h2,h⟩:=sm h
  ·cases h
   exact zk Tryz.func82 (o2 (zi h1 (zD (zn zh.zl (l:=a1)) (zaS (lk (sub [1,1,0,1,0] (zq Tryz.f82)) (by kernel_rfl) (zat.okL ht n n _ _ _ _ _ h2)) ob)))) (by kernel_rfl)
  ·cases h
   exact zk Tryz.func82 (o2 (zi h1 (zD (zn zh.zl (l:=a1)) (zaS (lk (sub [1,1,0,1,0] (zq Tryz.f82)) (by kernel_rfl) (zat.okL ht n n _ _ _ _ _ h2)) ob)))) (by kernel_rfl)
theorem zaf.okL (ht:TabOk t call) (n:Nat):∀(k:Nat) (a1 a2:List GPred) (a3 a4:Int) (r:_),zaf t n k a1 a2 a3 a4=some r→loopN (exec (env Tryz.prog 83 Tryz.f83 call) n (sub [1,1,0,1,0,0] (zq Tryz.f83))) k (mkSt 32 32 [(1,(Sl 3 (GPred.ts a1))),(2,(.fn 66 [])),(15,(Sl 3 (GPred.ts a2))),(16,(I6 a3)),(17,(I6 a4))] [])=some (zaf.to r)
 | 0,a1,a2,a3,a4,r,h=>by rw[zaf]at h;cases h
 | k+1,a1,a2,a3,a4,r,h=>by
  rw[zaf]at h
  rcases fk h with ⟨h1,h⟩ | ⟨h1,h⟩
  ·obtain⟨h2,h⟩:=ck h
   obtain⟨⟨a5,a6,a7⟩,h3,h⟩:=sm h
   obtain⟨⟨a8,a9,a10⟩,h4,h⟩:=sm h
   obtain⟨a11,h5,h⟩:=sm h
   rcases fk h with ⟨h6,h⟩ | ⟨h6,h⟩
   ·exact zF (pK2 (zi h1 (zae h2 (zab (zu GPred.zl h3) (zae h2 (zab (zu GPred.zl h4) (zN (ht.zcM _ _ _ h5) (zi (ng h6) ob)))))))) (zaf.okL ht n k _ _ _ _ _ h)
   ·cases h
    exact zw (pK2 (zi h1 (zae h2 (zab (zu GPred.zl h3) (zae h2 (zab (zu GPred.zl h4) (zN (ht.zcM _ _ _ h5) (zi (ng h6) ob)))))))) (fun h=>by cases h)
  ·cases h
   exact zw (pK2 (zi h1 ob)) (fun h=>by cases h)
theorem zaw.ok {n:Nat} {t:Tab} (ht:TabOk t (run Tryz.prog own kp X n)):∀(p1:List GPred) (p2:List GPred) r,zaw t n p1 p2=some r→run Tryz.prog own kp X (n+1) 83 [(Sl 3 (GPred.ts p1)),(Sl 3 (GPred.ts p2)),(.fn 66 [])] []=some ((Bo r),[]):=by
 intro p1 p2 r h
 obtain⟨a1,rfl⟩:∃z_,z_=p1:=⟨_,rfl⟩
 obtain⟨a2,rfl⟩:∃z_,z_=p2:=⟨_,rfl⟩
 rw[zaw]at h
 rcases fk h with ⟨h1,h⟩ | ⟨h1,h⟩
 ·cases h
  exact zk Tryz.func83 (zD (zn GPred.zl (l:=a1)) (zD (zn GPred.zl (l:=a2)) (zi h1 ob))) (by kernel_rfl)
 ·obtain⟨a3 | ⟨a4,a5,a6,a7,a8⟩,h2,h⟩:=sm h
  ·cases h
   exact zk Tryz.func83 (zD (zn GPred.zl (l:=a1)) (zD (zn GPred.zl (l:=a2)) (zi h1 (zD (zn GPred.zl (l:=a1)) (zaS (lk (sub [1,1,0,1,0] (zq Tryz.f83)) (by kernel_rfl) (zaf.okL ht n n _ _ _ _ _ h2)) ob))))) (by kernel_rfl)
  ·cases h
   exact zk Tryz.func83 (zD (zn GPred.zl (l:=a1)) (zD (zn GPred.zl (l:=a2)) (zi h1 (zD (zn GPred.zl (l:=a1)) (zaS (lk (sub [1,1,0,1,0] (zq Tryz.f83)) (by kernel_rfl) (zaf.okL ht n n _ _ _ _ _ h2)) ob))))) (by kernel_rfl)
theorem zdZ.ok {n:Nat} {t:Tab} (ht:TabOk t (run Tryz.prog own kp X n)):∀(p1:Int) r,zdZ t n p1=some r→run Tryz.prog own kp X (n+1) 87 [(I6 p1)] []=some ((Sr r),[]):=by
 intro p1 r h
 obtain⟨a1,rfl⟩:∃z_,z_=p1:=⟨_,rfl⟩
 rw[zdZ]at h
 rcases fk h with ⟨h1,h⟩ | ⟨h1,h⟩
 ·cases h
  exact zk Tryz.func87 (zy h1 (zck 1 ob)) (by kernel_rfl)
 ·rcases fk h with ⟨h2,h⟩ | ⟨h2,h⟩
  ·cases h
   exact zk Tryz.func87 (zy h1 (zi h2 ob)) (by kernel_rfl)
  ·obtain⟨h3,h⟩:=ck h
   rcases h4:gl0[(a1:Int).toNat]? with _ | a2
   ·rw[h4]at h;cases h
   rw[h4]at h
   dsimp only at h
   cases h
   exact zk Tryz.func87 (zy h1 (zi h2 (zae h3 (zab (zu zJ h4) ob)))) (by kernel_rfl)
theorem zcX.ok {n:Nat} {t:Tab} (ht:TabOk t (run Tryz.prog own kp X n)):∀r,zcX t n=some r→run Tryz.prog own kp X (n+1) 88 [] []=some ((.t (GT125.t r)),[]):=by
 intro r h
 rw[zcX]at h
 cases h
 exact zk Tryz.func88 ob (by kernel_rfl)
theorem zea.ok {n:Nat} {t:Tab} (ht:TabOk t (run Tryz.prog own kp X n)):∀(p1:Int) (p2:GT122) r,zea t n p1 p2=some r→run Tryz.prog own kp X (n+1) 91 [(I6 p1),(.t (GT122.t p2))] []=some ((Bo r),[]):=by
 intro p1 p2 r h
 obtain⟨a1,rfl⟩:∃z_,z_=p1:=⟨_,rfl⟩
 obtain⟨a2,a3⟩:=p2
 rw[zea]at h
 rcases fk h with ⟨h1,h⟩ | ⟨h1,h⟩
 ·cases h
  exact zk Tryz.func91 (zW h1 5 ob) (by kernel_rfl)
 ·cases h
  exact zk Tryz.func91 (zW h1 5 ob) (by kernel_rfl)
theorem zB.ok {n:Nat} {t:Tab} (ht:TabOk t (run Tryz.prog own kp X n)):∀(p1:List ByteArray) r,zB t n p1=some r→run Tryz.prog own kp X (n+1) 92 [(Sl 1 (texts p1)),(.fn 89 [])] []=some ((Bo r),[]):=by
 intro p1 r h
 obtain⟨a1,rfl⟩:∃z_,z_=p1:=⟨_,rfl⟩
 rw[zB]at h
 obtain⟨a2,h1,h⟩:=sm h
 cases h
 exact zk Tryz.func92 (zN (ht.zan _ _ h1) ob) (by kernel_rfl)
theorem zch.ok {n:Nat} {t:Tab} (ht:TabOk t (run Tryz.prog own kp X n)):∀(p1:zh) r,zch t n p1=some r→run Tryz.prog own kp X (n+1) 94 [(.t (zh.t p1))] []=some ((I6 r),[]):=by
 intro p1 r h
 obtain⟨a1,a2,a3,a4,a5⟩:=p1
 rw[zch]at h
 obtain⟨a6,h1,h⟩:=sm h
 rcases fk h with ⟨h2,h⟩ | ⟨h2,h⟩
 ·cases h
  exact zk Tryz.func94 (zN (ht.zbD _ _ _ h1) (zi (ng h2) ob)) (by kernel_rfl)
 ·cases h
  exact zk Tryz.func94 (zN (ht.zbD _ _ _ h1) (zi (ng h2) ob)) (by kernel_rfl)
theorem zds.ok {n:Nat} {t:Tab} (ht:TabOk t (run Tryz.prog own kp X n)):∀(p1:GPred) r,zds t n p1=some r→run Tryz.prog own kp X (n+1) 95 [(.t (GPred.t p1))] []=some ((I6 r),[]):=by
 intro p1 r h
 obtain⟨a1,a2,a3⟩:=p1
 rw[zds]at h
 obtain⟨a4,h1,h⟩:=sm h
 rcases fk h with ⟨h2,h⟩ | ⟨h2,h⟩
 ·cases h
  exact zk Tryz.func95 (zN (ht.zcO _ _ _ h1) (zi (ng h2) ob)) (by kernel_rfl)
 ·cases h
  exact zk Tryz.func95 (zN (ht.zcO _ _ _ h1) (zi (ng h2) ob)) (by kernel_rfl)
theorem zcq.okL (ht:TabOk t call) (n:Nat):∀(k:Nat) (a1 a2:List ByteArray) (a3 a4:Int) (r:_),zcq t n k a1 a2 a3 a4=some r→loopN (exec (env Tryz.prog 97 Tryz.f97 call) n (sub [1,0,1,0,0] (zq Tryz.f97))) k (mkSt 18 18 [(0,(Sl 1 (texts a1))),(5,(Sl 1 (texts a2))),(6,(I6 a3)),(7,(I6 a4))] [])=some (zcq.to r)
 | 0,a1,a2,a3,a4,r,h=>by rw[zcq]at h;cases h
 | k+1,a1,a2,a3,a4,r,h=>by
  rw[zcq]at h
  rcases fk h with ⟨h1,h⟩ | ⟨h1,h⟩
  ·obtain⟨h2,h⟩:=ck h
   obtain⟨a5,h3,h⟩:=sm h
   obtain⟨h4,h⟩:=ck h
   obtain⟨a6,h5,h⟩:=sm h
   have o6 {os} (x:Obls (env Tryz.prog 97 Tryz.f97 call) n os):=zi h1 (zae h2 (zab (zu zJ h3) (zae (zog zJ h4) (zfx (zqq zJ (l:=a1) (h:=(a4:Int).toNat) (i:=(0:Int).toNat)) (zN (ht.slices_Contains_string _ _ _ h5) x)))))
   rcases fk h with ⟨h6,h⟩ | ⟨h6,h⟩
   ·cases h
    exact zw (pK2 (o6 (zi h6 ob))) (fun h=>by cases h)
   ·exact zF (pK2 (o6 (zi h6 ob))) (zcq.okL ht n k _ _ _ _ _ h)
  ·cases h
   exact zw (pK2 (zi h1 ob)) (fun h=>by cases h)
theorem zcN.ok {n:Nat} {t:Tab} (ht:TabOk t (run Tryz.prog own kp X n)):∀(p1:List ByteArray) r,zcN t n p1=some r→run Tryz.prog own kp X (n+1) 97 [(Sl 1 (texts p1))] []=some ((Bo r),[]):=by
 intro p1 r h
 obtain⟨a1,rfl⟩:∃z_,z_=p1:=⟨_,rfl⟩
 rw[zcN]at h
 obtain⟨a2 | ⟨a3,a4,a5,a6,a7⟩,h1,h⟩:=sm h
 ·cases h
  exact zk Tryz.func97 (zD (zn zJ (l:=a1)) (zaS (lk (sub [1,0,1,0] (zq Tryz.f97)) (by kernel_rfl) (zcq.okL ht n n _ _ _ _ _ h1)) ob)) (by kernel_rfl)
 ·cases h
  exact zk Tryz.func97 (zD (zn zJ (l:=a1)) (zaS (lk (sub [1,0,1,0] (zq Tryz.f97)) (by kernel_rfl) (zcq.okL ht n n _ _ _ _ _ h1)) ob)) (by kernel_rfl)
theorem zc4.ok {n:Nat} {t:Tab} (ht:TabOk t (run Tryz.prog own kp X n)):∀(p1:GPred) r,zc4 t n p1=some r→run Tryz.prog own kp X (n+1) 96 [(.t (GPred.t p1))] []=some ((Bo r),[]):=by
 intro p1 r h
 obtain⟨a1,a2,a3⟩:=p1
 rw[zc4]at h
 rcases fk h with ⟨h1,h⟩ | ⟨h1,h⟩
 ·cases h
  exact zk Tryz.func96 (zy h1 (zD (zn zh.zl (l:=a2)) (zy h1 (zD (zn GPred.zl (l:=a3)) (zy h1 ob))))) (by kernel_rfl)
 ·cases h
  exact zk Tryz.func96 (zW h1 9 ob) (by kernel_rfl)
theorem zaq.ok (ht:TabOk t call) (n:Nat) (a1:Bool) (a2:Int) (a3:List ByteArray) (a4:List Int) (a5 a6:Int) (a7:ByteArray) (a8 a9:List zh) (a10:Int) (a11:List zh) (a12:List GPred) (a13:List (List GStep)) (a14:List GBy) (a15:List ByteArray) (r:_) (h:zaq t n a1 a2 a3 a4 a5 a6 a7 a8 a9 a10 a11 a12 a13 a14 a15=some r):exec (env Tryz.prog 93 Tryz.f93 call) n (sub [1,0,1,0,1,1,1,1,1] (zq Tryz.f93)) (mkSt 78 78 [(1,(.ptr 1 0 [] 0)),(64,(Bo a1))] [(1,(.t (.st [(.v (.int .i64 a2)),(.sl false 1 (texts a3)),(.sl false 1 (zA a4)),(.st [(.v (.int .i64 a5)),(.v (.int .i64 a6)),(.v (.string a7)),(.sl false 5 (zh.ts a8)),(.sl false 5 (zh.ts a9))]),(.st [(.v (.int .i64 a10)),(.sl false 5 (zh.ts a11)),(.sl false 3 (GPred.ts a12))]),(.sl false 1 (zo a13)),(.sl false 4 (GBy.ts a14)),(.sl false 1 (texts a15))])))])=some (zaq.to r):=by
 rw[zaq]at h
 rcases fk h with ⟨h1,h⟩ | ⟨h1,h⟩
 ·rcases fk h with ⟨h2,h⟩ | ⟨h2,h⟩
  ·cases h
   exact pK2 (zi h1 (zW h2 5 ob))
  ·obtain⟨a16,h3,h⟩:=sm h
   cases h
   exact pK2 (zi h1 (zy h2 (zN (ht.zK _ _ h3) (zX h2 ob))))
 ·cases h
  exact pK2 (zi h1 ob)
theorem zbX.ok {n:Nat} {t:Tab} (ht:TabOk t (run Tryz.prog own kp X n)):∀(p1:GStep) r,zbX t n p1=some r→run Tryz.prog own kp X (n+1) 93 [(.t (GStep.t p1))] []=some ((Bo r),[]):=by
 intro p1 r h
 obtain⟨a1,a2,a3,⟨a4,a5,a6,a7,a8⟩,⟨a9,a10,a11⟩,a12,a13,a14⟩:=p1
 rw[zbX]at h
 rcases fk h with ⟨h1,h⟩ | ⟨h1,h⟩
 ·obtain⟨h2,h⟩:=ck h
  obtain⟨a15,h3,h⟩:=sm h
  rcases fk h with ⟨h4,h⟩ | ⟨h4,h⟩
  ·obtain⟨h5,h⟩:=ck h
   obtain⟨a16,h6,h⟩:=sm h
   rcases fk h with ⟨h7,h⟩ | ⟨h7,h⟩
   ·cases h
    exact zk Tryz.func93 (zi h1 (zae h2 (zab (zu zz h3) (zy h4 (zae h5 (zab (zu zz h6) (zy h4 (zW h7 9 (zi h4 (zi h7 (zi h4 ob))))))))))) (by kernel_rfl)
   ·cases h
    exact zk Tryz.func93 (zi h1 (zae h2 (zab (zu zz h3) (zy h4 (zae h5 (zab (zu zz h6) (zy h4 (zy h7 (zae h5 (zab (zu zz h6) (zah h7 (zae h2 (zab (zu zz h3) (zX h7 (zi h4 (zi h7 (zi h4 ob))))))))))))))))) (by kernel_rfl)
  ·cases h
   exact zk Tryz.func93 (zi h1 (zae h2 (zab (zu zz h3) (zW h4 8 ob)))) (by kernel_rfl)
 ·rcases fk h with ⟨h8,h⟩ | ⟨h8,h⟩
  ·obtain⟨h9,h⟩:=ck h
   obtain⟨a17,h10,h⟩:=sm h
   have o4 {os} (x:Obls (env Tryz.prog 93 Tryz.f93 (run Tryz.prog own kp X n)) n os):=zi h1 (zi h8 (zae h9 (zab (zu zz h10) x)))
   rcases fk h with ⟨h11,h⟩ | ⟨h11,h⟩
   ·obtain⟨h12,h⟩:=ck h
    obtain⟨a18,h13,h⟩:=sm h
    have o12 {os} (x:Obls (env Tryz.prog 93 Tryz.f93 (run Tryz.prog own kp X n)) n os):=o4 (zy h11 (zae h12 (zab (zu zz h13) (zy h11 x))))
    rcases fk h with ⟨h14,h⟩ | ⟨h14,h⟩
    ·have o20 {os} (x:Obls (env Tryz.prog 93 Tryz.f93 (run Tryz.prog own kp X n)) n os):=o12 (zy h14 (zae h12 (zab (zu zz h13) (zy h14 x))))
     rcases fk h with ⟨h15,h⟩ | ⟨h15,h⟩
     ·rcases fk h with ⟨h16,h⟩ | ⟨h16,h⟩
      ·cases h
       exact zk Tryz.func93 (o20 (zy h15 (zD (zn zx (l:=a12)) (zX h15 (zW h16 5 (zi h15 (zi h16 (zi h15 ob)))))))) (by kernel_rfl)
      ·cases h
       exact zk Tryz.func93 (o20 (zy h15 (zD (zn zx (l:=a12)) (zX h15 (zy h16 (zae h9 (zab (zu zz h10) (zX h16 (zi h15 (zi h16 (zi h15 ob))))))))))) (by kernel_rfl)
     ·cases h
      exact zk Tryz.func93 (o20 (zW h15 7 ob)) (by kernel_rfl)
    ·cases h
     exact zk Tryz.func93 (o12 (zW h14 6 (zW (rfl:false=false) 7 ob))) (by kernel_rfl)
   ·cases h
    exact zk Tryz.func93 (o4 (zW h11 6 (zW (rfl:false=false) 13 ob))) (by kernel_rfl)
  ·rcases fk h with ⟨h17,h⟩ | ⟨h17,h⟩
   ·obtain⟨a19 | _,h18,h⟩:=sm h
    ·cases h
     exact zk Tryz.func93 (zi h1 (zi h8 (zi h17 (zI (zaq.ok ht n _ _ _ _ _ _ _ _ _ _ _ _ _ _ _ _ h18) ob)))) (by kernel_rfl)
    ·cases h
     exact zk Tryz.func93 (zi h1 (zi h8 (zi h17 (zI (zaq.ok ht n _ _ _ _ _ _ _ _ _ _ _ _ _ _ _ _ h18) ob)))) (by kernel_rfl)
   ·rcases fk h with ⟨h19,h⟩ | ⟨h19,h⟩
    ·obtain⟨a20 | _,h20,h⟩:=sm h
     ·cases h
      exact zk Tryz.func93 (zi h1 (zi h8 (zi h17 (zi h19 (zI (zaq.ok ht n _ _ _ _ _ _ _ _ _ _ _ _ _ _ _ _ h20) ob))))) (by kernel_rfl)
     ·cases h
      exact zk Tryz.func93 (zi h1 (zi h8 (zi h17 (zi h19 (zI (zaq.ok ht n _ _ _ _ _ _ _ _ _ _ _ _ _ _ _ _ h20) ob))))) (by kernel_rfl)
    ·rcases fk h with ⟨h21,h⟩ | ⟨h21,h⟩
     ·obtain⟨a21 | _,h22,h⟩:=sm h
      ·cases h
       exact zk Tryz.func93 (zi h1 (zi h8 (zi h17 (zi h19 (zi h21 (zI (zaq.ok ht n _ _ _ _ _ _ _ _ _ _ _ _ _ _ _ _ h22) ob)))))) (by kernel_rfl)
      ·cases h
       exact zk Tryz.func93 (zi h1 (zi h8 (zi h17 (zi h19 (zi h21 (zI (zaq.ok ht n _ _ _ _ _ _ _ _ _ _ _ _ _ _ _ _ h22) ob)))))) (by kernel_rfl)
     ·obtain⟨a22 | _,h23,h⟩:=sm h
      ·cases h
       exact zk Tryz.func93 (zi h1 (zi h8 (zi h17 (zi h19 (zi h21 (zI (zaq.ok ht n _ _ _ _ _ _ _ _ _ _ _ _ _ _ _ _ h23) ob)))))) (by kernel_rfl)
      ·cases h
       exact zk Tryz.func93 (zi h1 (zi h8 (zi h17 (zi h19 (zi h21 (zI (zaq.ok ht n _ _ _ _ _ _ _ _ _ _ _ _ _ _ _ _ h23) ob)))))) (by kernel_rfl)
theorem zbV.ok (ht:TabOk t call) (n:Nat) (a1 a2:Int) (a3:ByteArray) (a4:List GStep) (a5:Bool) (r:_) (h:zbV t n a1 a2 a3 a4 a5=some r):exec (env Tryz.prog 98 Tryz.f98 call) n (sub [1,1] (zq Tryz.f98)) (mkSt 50 50 [(2,(I6 a1)),(3,(.ptr 3 0 [] 0))] [(3,(.t (.st [(.v (.int .i64 a2)),(.v (.string a3)),(.sl false 14 (GStep.ts a4)),(.v (.bool a5))])))])=some (zbV.to r):=by
 rw[zbV]at h
 rcases fk h with ⟨h1,h⟩ | ⟨h1,h⟩
 ·cases h
  exact pK2 (zi h1 ob)
 ·rcases fk h with ⟨h2,h⟩ | ⟨h2,h⟩
  ·obtain⟨a6,rfl⟩:∃z_,z_=r:=⟨_,rfl⟩
   have h3:=h
   exact pK2 (zi h1 (zi h2 (zN (ht.zdt _ _ h3) ob)))
  ·rcases fk h with ⟨h4,h⟩ | ⟨h4,h⟩
   ·obtain⟨a7,rfl⟩:∃z_,z_=r:=⟨_,rfl⟩
    have h5:=h
    exact pK2 (zi h1 (zi h2 (zi h4 (zN (ht.za9 _ _ _ h5) ob))))
   ·cases h
    exact pK2 (zi h1 (zi h2 (zi h4 ob)))
theorem zet.ok {n:Nat} {t:Tab} (ht:TabOk t (run Tryz.prog own kp X n)):∀(p1:GBy) (p2:Bool) (p3:Int) r,zet t n p1 p2 p3=some r→run Tryz.prog own kp X (n+1) 98 [(.t (GBy.t p1)),(Bo p2),(I6 p3)] []=some ((Bo r),[]):=by
 intro p1 p2 p3 r h
 obtain⟨a1,a2,a3,a4⟩:=p1
 obtain⟨a5,rfl⟩:∃z_,z_=p2:=⟨_,rfl⟩
 obtain⟨a6,rfl⟩:∃z_,z_=p3:=⟨_,rfl⟩
 rw[zet]at h
 rcases fk h with ⟨h1,h⟩ | ⟨h1,h⟩
 ·have o3 {os} (x:Obls (env Tryz.prog 98 Tryz.f98 (run Tryz.prog own kp X n)) n os):=zy h1 x
  rcases fk h with ⟨h2,h⟩ | ⟨h2,h⟩
  ·have o7 {os} (x:Obls (env Tryz.prog 98 Tryz.f98 (run Tryz.prog own kp X n)) n os):=o3 (zah (ng h2) x)
   rcases fk h with ⟨h3,h⟩ | ⟨h3,h⟩
   ·have o13 {os} (x:Obls (env Tryz.prog 98 Tryz.f98 (run Tryz.prog own kp X n)) n os):=o7 (zy h3 (zi (ng h2) (zi h3 (zi (ng h2) x))))
    rcases fk h with ⟨h4,h⟩ | ⟨h4,h⟩
    ·rcases fk h with ⟨h5,h⟩ | ⟨h5,h⟩
     ·have o25 {os} (x:Obls (env Tryz.prog 98 Tryz.f98 (run Tryz.prog own kp X n)) n os):=o13 (zah (ng h4) (zy h5 (zD (zn GStep.zl (l:=a3)) (zi h5 (zi (ng h4) (zi h5 (zi (ng h4) x)))))))
      rcases fk h with ⟨h6,h⟩ | ⟨h6,h⟩
      ·cases h
       exact zk Tryz.func98 (o25 (zi h6 ob)) (by kernel_rfl)
      ·obtain⟨a7,rfl⟩:∃z_,z_=r:=⟨_,rfl⟩
       have h7:=h
       exact zk Tryz.func98 (o25 (zi h6 (zI (zbV.ok ht n _ _ _ _ _ _ h7) ob))) (by kernel_rfl)
     ·obtain⟨a8,rfl⟩:∃z_,z_=r:=⟨_,rfl⟩
      have h8:=h
      exact zk Tryz.func98 (o13 (zah (ng h4) (zah h5 (zi (ng h4) (zi h5 (zi (ng h4) (zi (rfl:false=false) (zI (zbV.ok ht n _ _ _ _ _ _ h8) ob)))))))) (by kernel_rfl)
    ·cases h
     exact zk Tryz.func98 (o13 (zW (ng h4) 6 (zck 1 ob))) (by kernel_rfl)
   ·have o17 {os} (x:Obls (env Tryz.prog 98 Tryz.f98 (run Tryz.prog own kp X n)) n os):=o7 (zy h3 (zi (ng h2) (zi h3 (zi (ng h2) (zah (rfl:false=false) x)))))
    rcases fk h with ⟨h9,h⟩ | ⟨h9,h⟩
    ·rcases fk h with ⟨h10,h⟩ | ⟨h10,h⟩
     ·cases h
      exact zk Tryz.func98 (o17 (zy h9 (zD (zn GStep.zl (l:=a3)) (zi h9 (zi (rfl:false=false) (zi h9 (zi (rfl:false=false) (zi h10 ob)))))))) (by kernel_rfl)
     ·obtain⟨a9,rfl⟩:∃z_,z_=r:=⟨_,rfl⟩
      have h11:=h
      exact zk Tryz.func98 (o17 (zy h9 (zD (zn GStep.zl (l:=a3)) (zi h9 (zi (rfl:false=false) (zi h9 (zi (rfl:false=false) (zi h10 (zI (zbV.ok ht n _ _ _ _ _ _ h11) ob))))))))) (by kernel_rfl)
    ·obtain⟨a10,rfl⟩:∃z_,z_=r:=⟨_,rfl⟩
     have h12:=h
     exact zk Tryz.func98 (o17 (zah h9 (zi (rfl:false=false) (zi h9 (zX (rfl:false=false) (zI (zbV.ok ht n _ _ _ _ _ _ h12) ob)))))) (by kernel_rfl)
  ·cases h
   exact zk Tryz.func98 (o3 (zW (ng h2) 6 (zck 7 ob))) (by kernel_rfl)
 ·have o7 {os} (x:Obls (env Tryz.prog 98 Tryz.f98 (run Tryz.prog own kp X n)) n os):=zy h1 (zah (rfl:false=false) x)
  rcases fk h with ⟨h13,h⟩ | ⟨h13,h⟩
  ·have o13 {os} (x:Obls (env Tryz.prog 98 Tryz.f98 (run Tryz.prog own kp X n)) n os):=o7 (zy h13 (zi (rfl:false=false) (zi h13 (zi (rfl:false=false) x))))
   rcases fk h with ⟨h14,h⟩ | ⟨h14,h⟩
   ·rcases fk h with ⟨h15,h⟩ | ⟨h15,h⟩
    ·have o25 {os} (x:Obls (env Tryz.prog 98 Tryz.f98 (run Tryz.prog own kp X n)) n os):=o13 (zah (ng h14) (zy h15 (zD (zn GStep.zl (l:=a3)) (zi h15 (zi (ng h14) (zi h15 (zi (ng h14) x)))))))
     rcases fk h with ⟨h16,h⟩ | ⟨h16,h⟩
     ·cases h
      exact zk Tryz.func98 (o25 (zi h16 ob)) (by kernel_rfl)
     ·obtain⟨a11,rfl⟩:∃z_,z_=r:=⟨_,rfl⟩
      have h17:=h
      exact zk Tryz.func98 (o25 (zi h16 (zI (zbV.ok ht n _ _ _ _ _ _ h17) ob))) (by kernel_rfl)
    ·obtain⟨a12,rfl⟩:∃z_,z_=r:=⟨_,rfl⟩
     have h18:=h
     exact zk Tryz.func98 (o13 (zah (ng h14) (zah h15 (zi (ng h14) (zi h15 (zi (ng h14) (zi (rfl:false=false) (zI (zbV.ok ht n _ _ _ _ _ _ h18) ob)))))))) (by kernel_rfl)
   ·cases h
    exact zk Tryz.func98 (o13 (zW (ng h14) 6 (zck 1 ob))) (by kernel_rfl)
  ·have o17 {os} (x:Obls (env Tryz.prog 98 Tryz.f98 (run Tryz.prog own kp X n)) n os):=o7 (zy h13 (zi (rfl:false=false) (zi h13 (zW (rfl:false=false) 5 x))))
   rcases fk h with ⟨h19,h⟩ | ⟨h19,h⟩
   ·rcases fk h with ⟨h20,h⟩ | ⟨h20,h⟩
    ·cases h
     exact zk Tryz.func98 (o17 (zy h19 (zD (zn GStep.zl (l:=a3)) (zi h19 (zi (rfl:false=false) (zi h19 (zi (rfl:false=false) (zi h20 ob)))))))) (by kernel_rfl)
    ·obtain⟨a13,rfl⟩:∃z_,z_=r:=⟨_,rfl⟩
     have h21:=h
     exact zk Tryz.func98 (o17 (zy h19 (zD (zn GStep.zl (l:=a3)) (zi h19 (zi (rfl:false=false) (zi h19 (zi (rfl:false=false) (zi h20 (zI (zbV.ok ht n _ _ _ _ _ _ h21) ob))))))))) (by kernel_rfl)
   ·obtain⟨a14,rfl⟩:∃z_,z_=r:=⟨_,rfl⟩
    have h22:=h
    exact zk Tryz.func98 (o17 (zah h19 (zi (rfl:false=false) (zi h19 (zX (rfl:false=false) (zI (zbV.ok ht n _ _ _ _ _ _ h22) ob)))))) (by kernel_rfl)
theorem zd0.ok (ht:TabOk t call) (n:Nat) (a1 a2:Int) (a3:ByteArray) (a4 a5:List zh) (a6 a7:Int) (a8:ByteArray) (a9 a10:List zh) (a11:Int) (r:_) (h:zd0 t n a1 a2 a3 a4 a5 a6 a7 a8 a9 a10 a11=some r):exec (env Tryz.prog 101 Tryz.f101 call) n (sub [1,1] (zq Tryz.f101)) (mkSt 48 48 [(3,(.ptr 3 0 [] 0)),(4,(.ptr 4 0 [] 0)),(5,(.ptr 5 0 [] 0))] [(3,(.t (.st [(.v (.int .i64 a1)),(.v (.int .i64 a2)),(.v (.string a3)),(.sl false 5 (zh.ts a4)),(.sl false 5 (zh.ts a5))]))),(4,(.t (.st [(.v (.int .i64 a6)),(.v (.int .i64 a7)),(.v (.string a8)),(.sl false 5 (zh.ts a9)),(.sl false 5 (zh.ts a10))]))),(5,(I6 a11))])=some (zd0.to r):=by
 rw[zd0]at h
 obtain⟨a12,h1,h⟩:=sm h
 obtain⟨a13,h2,h⟩:=sm h
 obtain⟨a14,rfl⟩:∃z_,z_=r:=⟨_,rfl⟩
 have h3:=h
 exact pK2 (zN (ht.zL _ _ _ _ h1) (zN (ht.zL _ _ _ _ h2) (zN (ht.zdX _ _ h3) ob)))
theorem zbC.ok {n:Nat} {t:Tab} (ht:TabOk t (run Tryz.prog own kp X n)):∀(p1:zh) (p2:zh) (p3:Int) r,zbC t n p1 p2 p3=some r→run Tryz.prog own kp X (n+1) 101 [(.t (zh.t p1)),(.t (zh.t p2)),(I6 p3)] []=some ((I6 r),[]):=by
 intro p1 p2 p3 r h
 obtain⟨a1,a2,a3,a4,a5⟩:=p1
 obtain⟨a6,a7,a8,a9,a10⟩:=p2
 obtain⟨a11,rfl⟩:∃z_,z_=p3:=⟨_,rfl⟩
 rw[zbC]at h
 obtain⟨a12,h1,h⟩:=sm h
 obtain⟨a13,h2,h⟩:=sm h
 obtain⟨a14,h3,h⟩:=sm h
 obtain⟨a15,h4,h⟩:=sm h
 have o4 {os} (x:Obls (env Tryz.prog 101 Tryz.f101 (run Tryz.prog own kp X n)) n os):=zN (ht.cmp_Compare_int _ _ _ h1) (zN (ht.cmp_Compare_int _ _ _ h2) (zN (ht.strings_Compare _ _ _ h3) (zN (ht.zdX _ _ h4) x)))
 rcases fk h with ⟨h5,h⟩ | ⟨h5,h⟩
 ·cases h
  exact zk Tryz.func101 (o4 (zy h5 (zck 1 ob))) (by kernel_rfl)
 ·rcases fk h with ⟨h6,h⟩ | ⟨h6,h⟩
  ·cases h
   exact zk Tryz.func101 (o4 (zy h5 (zi h6 ob))) (by kernel_rfl)
  ·obtain⟨a16,rfl⟩:∃z_,z_=r:=⟨_,rfl⟩
   have h7:=h
   exact zk Tryz.func101 (o4 (zy h5 (zi h6 (zI (zd0.ok ht n _ _ _ _ _ _ _ _ _ _ _ _ h7) ob)))) (by kernel_rfl)
theorem zU.okL (ht:TabOk t call) (n:Nat):∀(k:Nat) (a1:List ByteArray) (a2 a3:Int) (r:_),zU t n k a1 a2 a3=some r→loopN (exec (env Tryz.prog 104 Tryz.f104 call) n (sub [1,0,1,0,0] (zq Tryz.f104))) k (mkSt 19 19 [(0,(Sl 1 (texts a1))),(1,(.fn 89 [])),(7,(I6 a2)),(8,(I6 a3))] [])=some (zU.to r)
 | 0,a1,a2,a3,r,h=>by rw[zU]at h;cases h
 | k+1,a1,a2,a3,r,h=>by
  rw[zU]at h
  rcases fk h with ⟨h1,h⟩ | ⟨h1,h⟩
  ·obtain⟨h2,h⟩:=ck h
   obtain⟨a4,h3,h⟩:=sm h
   obtain⟨a5,h4,h⟩:=sm h
   rcases fk h with ⟨h5,h⟩ | ⟨h5,h⟩
   ·cases h
    exact zw (pK2 (zi h1 (zae h2 (zab (zu zJ h3) (zN (ht.zdm _ _ h4) (zi h5 ob)))))) (fun h=>by cases h)
   ·exact zF (pK2 (zi h1 (zae h2 (zab (zu zJ h3) (zN (ht.zdm _ _ h4) (zi h5 ob)))))) (zU.okL ht n k _ _ _ _ h)
  ·cases h
   exact zw (pK2 (zi h1 ob)) (fun h=>by cases h)
theorem zan.ok {n:Nat} {t:Tab} (ht:TabOk t (run Tryz.prog own kp X n)):∀(p1:List ByteArray) r,zan t n p1=some r→run Tryz.prog own kp X (n+1) 104 [(Sl 1 (texts p1)),(.fn 89 [])] []=some ((I6 r),[]):=by
 intro p1 r h
 obtain⟨a1,rfl⟩:∃z_,z_=p1:=⟨_,rfl⟩
 rw[zan]at h
 obtain⟨a2 | ⟨a3,a4,a5,a6⟩,h1,h⟩:=sm h
 ·cases h
  exact zk Tryz.func104 (zD (zn zJ (l:=a1)) (zaS (lk (sub [1,0,1,0] (zq Tryz.f104)) (by kernel_rfl) (zU.okL ht n n _ _ _ _ h1)) ob)) (by kernel_rfl)
 ·cases h
  exact zk Tryz.func104 (zD (zn zJ (l:=a1)) (zaS (lk (sub [1,0,1,0] (zq Tryz.f104)) (by kernel_rfl) (zU.okL ht n n _ _ _ _ h1)) ob)) (by kernel_rfl)
theorem zaL.okL (ht:TabOk t call) (n:Nat):∀(k:Nat) (a1:Int) (a2:List zh) (a3 a4 a5 a6:Int) (a7:ByteArray) (a8 a9:List zh) (r:_),zaL t n k a1 a2 a3 a4 a5 a6 a7 a8 a9=some r→loopN (exec (env Tryz.prog 107 Tryz.f107 call) n (sub [1,1,1,1,1,1,0,1,0,0] (zq Tryz.f107))) k (mkSt 147 147 [(1,(I6 a1)),(2,(.ptr 2 0 [] 0)),(109,(Sl 5 (zh.ts a2))),(110,(I6 a3)),(111,(I6 a4))] [(2,(.t (.st [(.v (.int .i64 a5)),(.v (.int .i64 a6)),(.v (.string a7)),(.sl false 5 (zh.ts a8)),(.sl false 5 (zh.ts a9))])))])=some (zaL.to r)
 | 0,a1,a2,a3,a4,a5,a6,a7,a8,a9,r,h=>by rw[zaL]at h;cases h
 | k+1,a1,a2,a3,a4,a5,a6,a7,a8,a9,r,h=>by
  rw[zaL]at h
  rcases fk h with ⟨h1,h⟩ | ⟨h1,h⟩
  ·obtain⟨h2,h⟩:=ck h
   obtain⟨⟨a10,a11,a12,a13,a14⟩,h3,h⟩:=sm h
   obtain⟨a15,h4,h⟩:=sm h
   have o4 {os} (x:Obls (env Tryz.prog 107 Tryz.f107 call) n os):=zi h1 (zae h2 (zab (zu zh.zl h3) (zN (ht.zbD _ _ _ h4) x)))
   rcases fk h with ⟨h5,h⟩ | ⟨h5,h⟩
   ·rcases fk h with ⟨h6,h⟩ | ⟨h6,h⟩
    ·rcases fk h with ⟨h7,h⟩ | ⟨h7,h⟩
     ·have o15 {os} (x:Obls (env Tryz.prog 107 Tryz.f107 call) n os):=o4 (zi (ng h5) (zy h6 (zah h7 (zD (zn zh.zl (l:=a8)) (zX h7 x)))))
      rcases fk h with ⟨h8,h⟩ | ⟨h8,h⟩
      ·obtain⟨h9,h⟩:=ck h
       obtain⟨⟨a16,a17,a18,a19,a20⟩,h10,h⟩:=sm h
       obtain⟨a21,h11,h⟩:=sm h
       have o28 {os} (x:Obls (env Tryz.prog 107 Tryz.f107 call) n os):=o15 (zW h8 5 (zae h9 (zab (zu zh.zl h10) (zy h8 (zN (ht.zee _ _ _ h11) (zX h8 x))))))
       rcases fk h with ⟨h12,h⟩ | ⟨h12,h⟩
       ·cases h
        exact zw (pK2 (o28 (zi h12 ob))) (fun h=>by cases h)
       ·exact zF (pK2 (o28 (zi h12 ob))) (zaL.okL ht n k _ _ _ _ _ _ _ _ _ _ h)
      ·exact zF (pK2 (o15 (zW h8 10 (zi (rfl:false=false) ob)))) (zaL.okL ht n k _ _ _ _ _ _ _ _ _ _ h)
     ·exact zF (pK2 (o4 (zi (ng h5) (zy h6 (zW h7 6 (zW (rfl:false=false) 11 ob)))))) (zaL.okL ht n k _ _ _ _ _ _ _ _ _ _ h)
    ·exact zF (pK2 (o4 (zi (ng h5) (zy h6 (zW (rfl:false=false) 17 ob))))) (zaL.okL ht n k _ _ _ _ _ _ _ _ _ _ h)
   ·cases h
    exact zw (pK2 (o4 (zi (ng h5) ob))) (fun h=>by cases h)
  ·cases h
   exact zw (pK2 (zi h1 ob)) (fun h=>by cases h)
theorem zbj.ok (ht:TabOk t call) (n:Nat) (a1 a2 a3:Int) (a4:ByteArray) (a5 a6:List zh) (r:_) (h:zbj t n a1 a2 a3 a4 a5 a6=some r):exec (env Tryz.prog 107 Tryz.f107 call) n (sub [1,1,1,1,1,1] (zq Tryz.f107)) (mkSt 147 147 [(1,(I6 a1)),(2,(.ptr 2 0 [] 0))] [(2,(.t (.st [(.v (.int .i64 a2)),(.v (.int .i64 a3)),(.v (.string a4)),(.sl false 5 (zh.ts a5)),(.sl false 5 (zh.ts a6))])))])=some (zbj.to r):=by
 rw[zbj]at h
 obtain⟨a7,h1,h⟩:=sm h
 obtain⟨a8 | ⟨a9,a10,a11,a12,a13,a14,a15,a16,a17,a18⟩,h2,h⟩:=sm h
 ·cases h
  exact pK2 (zN (ht.zaC _ _ h1) (zD (zn zh.zl (l:=a7)) (zaS (lk (sub [1,1,1,1,1,1,0,1,0] (zq Tryz.f107)) (by kernel_rfl) (zaL.okL ht n n _ _ _ _ _ _ _ _ _ _ h2)) ob)))
 ·cases h
  exact pK2 (zN (ht.zaC _ _ h1) (zD (zn zh.zl (l:=a7)) (zaS (lk (sub [1,1,1,1,1,1,0,1,0] (zq Tryz.f107)) (by kernel_rfl) (zaL.okL ht n n _ _ _ _ _ _ _ _ _ _ h2)) ob)))
theorem zci.ok (ht:TabOk t call) (n:Nat) (a1 a2 a3:Int) (a4:ByteArray) (a5 a6:List zh) (r:_) (h:zci t n a1 a2 a3 a4 a5 a6=some r):exec (env Tryz.prog 107 Tryz.f107 call) n (sub [1,1,1,1,1] (zq Tryz.f107)) (mkSt 147 147 [(1,(I6 a1)),(2,(.ptr 2 0 [] 0))] [(2,(.t (.st [(.v (.int .i64 a2)),(.v (.int .i64 a3)),(.v (.string a4)),(.sl false 5 (zh.ts a5)),(.sl false 5 (zh.ts a6))])))])=some (zci.to r):=by
 rw[zci]at h
 rcases fk h with ⟨h1,h⟩ | ⟨h1,h⟩
 ·cases h
  exact pK2 (zD (zn zh.zl (l:=a5)) (zW h1 6 (zck 7 ob)))
 ·have o5 {os} (x:Obls (env Tryz.prog 107 Tryz.f107 call) n os):=zD (zn zh.zl (l:=a5)) (zah h1 x)
  rcases fk h with ⟨h2,h⟩ | ⟨h2,h⟩
  ·have o17 {os} (x:Obls (env Tryz.prog 107 Tryz.f107 call) n os):=o5 (zy h2 (zD (zn zh.zl (l:=a6)) (zy h2 (zD (zn zh.zl (l:=a5)) (zi h2 (zi h1 (zi h2 (zi h1 x))))))))
   rcases fk h with ⟨h3,h⟩ | ⟨h3,h⟩
   ·cases h
    exact pK2 (o17 (zW h3 6 (zck 1 ob)))
   ·rcases fk h with ⟨h4,h⟩ | ⟨h4,h⟩
    ·rcases fk h with ⟨h5,h⟩ | ⟨h5,h⟩
     ·cases h
      exact pK2 (o17 (zah h3 (zy h4 (zD (zn zh.zl (l:=a6)) (zi h4 (zi h3 (zi h4 (zi h3 (zi h5 ob)))))))))
     ·obtain⟨a7,rfl⟩:∃z_,z_=r:=⟨_,rfl⟩
      have h6:=h
      exact pK2 (o17 (zah h3 (zy h4 (zD (zn zh.zl (l:=a6)) (zi h4 (zi h3 (zi h4 (zi h3 (zi h5 (zI (zbj.ok ht n _ _ _ _ _ _ _ h6) ob))))))))))
    ·obtain⟨a8,rfl⟩:∃z_,z_=r:=⟨_,rfl⟩
     have h7:=h
     exact pK2 (o17 (zah h3 (zah h4 (zi h3 (zi h4 (zi h3 (zi (rfl:false=false) (zI (zbj.ok ht n _ _ _ _ _ _ _ h7) ob))))))))
  ·have o19 {os} (x:Obls (env Tryz.prog 107 Tryz.f107 call) n os):=o5 (zW h2 7 (zi h1 (zi h2 (zi h1 (zah (rfl:false=false) x)))))
   rcases fk h with ⟨h8,h⟩ | ⟨h8,h⟩
   ·rcases fk h with ⟨h9,h⟩ | ⟨h9,h⟩
    ·cases h
     exact pK2 (o19 (zy h8 (zD (zn zh.zl (l:=a6)) (zi h8 (zi (rfl:false=false) (zi h8 (zi (rfl:false=false) (zi h9 ob))))))))
    ·obtain⟨a9,rfl⟩:∃z_,z_=r:=⟨_,rfl⟩
     have h10:=h
     exact pK2 (o19 (zy h8 (zD (zn zh.zl (l:=a6)) (zi h8 (zi (rfl:false=false) (zi h8 (zi (rfl:false=false) (zi h9 (zI (zbj.ok ht n _ _ _ _ _ _ _ h10) ob)))))))))
   ·obtain⟨a10,rfl⟩:∃z_,z_=r:=⟨_,rfl⟩
    have h11:=h
    exact pK2 (o19 (zah h8 (zi (rfl:false=false) (zi h8 (zX (rfl:false=false) (zI (zbj.ok ht n _ _ _ _ _ _ _ h11) ob))))))
theorem zbW.ok (ht:TabOk t call) (n:Nat) (a1:Int) (a2 a3:Bool) (a4 a5:Int) (a6:ByteArray) (a7 a8:List zh) (r:_) (h:zbW t n a1 a2 a3 a4 a5 a6 a7 a8=some r):exec (env Tryz.prog 107 Tryz.f107 call) n (sub [1,1,1,1] (zq Tryz.f107)) (mkSt 147 147 [(1,(I6 a1)),(2,(.ptr 2 0 [] 0)),(5,(Bo a2)),(6,(Bo a3))] [(2,(.t (.st [(.v (.int .i64 a4)),(.v (.int .i64 a5)),(.v (.string a6)),(.sl false 5 (zh.ts a7)),(.sl false 5 (zh.ts a8))])))])=some (zbW.to r):=by
 rw[zbW]at h
 rcases fk h with ⟨h1,h⟩ | ⟨h1,h⟩
 ·have o9 {os} (x:Obls (env Tryz.prog 107 Tryz.f107 call) n os):=zah (ng h1) (zW (rfl:false=false) 5 x)
  rcases fk h with ⟨h2,h⟩ | ⟨h2,h⟩
  ·cases h
   exact pK2 (o9 (zW h2 6 (zck 6 ob)))
  ·have o21 {os} (x:Obls (env Tryz.prog 107 Tryz.f107 call) n os):=o9 (zX h2 (zi h1 (zi h2 (zi h1 (zi h2 (zck 3 (zi h2 (zck 1 (zi h2 x)))))))))
   rcases fk h with ⟨h3,h⟩ | ⟨h3,h⟩
   ·cases h
    exact pK2 (o21 (zW h3 5 (zck 1 ob)))
   ·rcases fk h with ⟨h4,h⟩ | ⟨h4,h⟩
    ·obtain⟨a9,rfl⟩:∃z_,z_=r:=⟨_,rfl⟩
     have h5:=h
     exact pK2 (o21 (zy h3 (zW (ng h4) 8 (zi h3 (zi (ng h4) (zi h3 (zi (rfl:false=false) (zI (zci.ok ht n _ _ _ _ _ _ _ h5) ob))))))))
    ·have o37 {os} (x:Obls (env Tryz.prog 107 Tryz.f107 call) n os):=o21 (zy h3 (zy (ng h4) (zD (zn zh.zl (l:=a7)) (zy (ng h4) (zD (zn zh.zl (l:=a8)) (zX (ng h4) (zi h3 (zi (ng h4) (zi h3 x)))))))))
     rcases fk h with ⟨h6,h⟩ | ⟨h6,h⟩
     ·cases h
      exact pK2 (o37 (zi h6 ob))
     ·obtain⟨a10,rfl⟩:∃z_,z_=r:=⟨_,rfl⟩
      have h7:=h
      exact pK2 (o37 (zi h6 (zI (zci.ok ht n _ _ _ _ _ _ _ h7) ob)))
 ·have o4 {os} (x:Obls (env Tryz.prog 107 Tryz.f107 call) n os):=zah (ng h1) x
  rcases fk h with ⟨h8,h⟩ | ⟨h8,h⟩
  ·have o9 {os} (x:Obls (env Tryz.prog 107 Tryz.f107 call) n os):=o4 (zW (ng h8) 5 x)
   rcases fk h with ⟨h9,h⟩ | ⟨h9,h⟩
   ·cases h
    exact pK2 (o9 (zW h9 6 (zck 6 ob)))
   ·have o15 {os} (x:Obls (env Tryz.prog 107 Tryz.f107 call) n os):=o9 (zX h9 (zi h1 (zi h9 (zi h1 (zi h9 x)))))
    rcases fk h with ⟨h10,h⟩ | ⟨h10,h⟩
    ·rcases fk h with ⟨h11,h⟩ | ⟨h11,h⟩
     ·cases h
      exact pK2 (o15 (zy h10 (zi h9 (zi h10 (zi h9 (zW h11 5 (zck 1 ob)))))))
     ·obtain⟨a11,rfl⟩:∃z_,z_=r:=⟨_,rfl⟩
      have h12:=h
      exact pK2 (o15 (zy h10 (zi h9 (zi h10 (zi h9 (zy h11 (zW (ng h10) 8 (zi h11 (zi (ng h10) (zi h11 (zi (rfl:false=false) (zI (zci.ok ht n _ _ _ _ _ _ _ h12) ob))))))))))))
    ·have o37 {os} (x:Obls (env Tryz.prog 107 Tryz.f107 call) n os):=o15 (zy h10 (zi h9 (zi h10 (zi h9 (zy (rfl:false=false) (zy (ng h10) (zD (zn zh.zl (l:=a7)) (zy (ng h10) (zD (zn zh.zl (l:=a8)) (zX (ng h10) (zi (rfl:false=false) (zi (ng h10) (zi (rfl:false=false) x)))))))))))))
     rcases fk h with ⟨h13,h⟩ | ⟨h13,h⟩
     ·cases h
      exact pK2 (o37 (zi h13 ob))
     ·obtain⟨a12,rfl⟩:∃z_,z_=r:=⟨_,rfl⟩
      have h14:=h
      exact pK2 (o37 (zi h13 (zI (zci.ok ht n _ _ _ _ _ _ _ h14) ob)))
  ·cases h
   exact pK2 (o4 (zW (ng h8) 5 (zck 12 ob)))
theorem zaQ.ok (ht:TabOk t call) (n:Nat) (a1:Int) (a2 a3:Bool) (a4:Int) (a5:Bool) (a6 a7:Int) (a8:ByteArray) (a9 a10:List zh) (r:_) (h:zaQ t n a1 a2 a3 a4 a5 a6 a7 a8 a9 a10=some r):exec (env Tryz.prog 107 Tryz.f107 call) n (sub [1,1,1,0,1,0,1,1,1,1,1] (zq Tryz.f107)) (mkSt 147 147 [(1,(I6 a1)),(2,(.ptr 2 0 [] 0)),(5,(Bo a2)),(6,(Bo a3)),(12,(I6 a4)),(25,(Bo a5))] [(2,(.t (.st [(.v (.int .i64 a6)),(.v (.int .i64 a7)),(.v (.string a8)),(.sl false 5 (zh.ts a9)),(.sl false 5 (zh.ts a10))])))])=some (zaQ.to r):=by
 rw[zaQ]at h
 rcases fk h with ⟨h1,h⟩ | ⟨h1,h⟩
 ·rcases fk h with ⟨h2,h⟩ | ⟨h2,h⟩
  ·cases h
   exact pK2 (zi h1 (zi h2 ob))
  ·cases h
   exact pK2 (zi h1 (zi h2 ob))
 ·rcases fk h with ⟨h3,h⟩ | ⟨h3,h⟩
  ·cases h
   exact pK2 (zi h1 (zi h3 ob))
  ·rcases fk h with ⟨h4,h⟩ | ⟨h4,h⟩
   ·cases h
    exact pK2 (zi h1 (zi h3 (zX h4 ob)))
   ·rcases fk h with ⟨h5,h⟩ | ⟨h5,h⟩
    ·cases h
     exact pK2 (zi h1 (zi h3 (zi h4 (zX h5 ob))))
    ·rcases fk h with ⟨h6,h⟩ | ⟨h6,h⟩
     ·cases h
      exact pK2 (zi h1 (zi h3 (zi h4 (zi h5 (zi h6 ob)))))
     ·cases h
      exact pK2 (zi h1 (zi h3 (zi h4 (zi h5 (zi h6 ob)))))
end Go.Proofs.YtgmidllbkjdnnaaGreatDoor.W
