/- Rows raised: the program. -/
import Derived.Test.YtgmidllbkjdnnaaDoorLrA
namespace Go.Proofs.YtgmidllbkjdnnaaDoor.W
open Go.Proofs.YtgmidllbkjdnnaaDoor.Flat
set_option linter.unusedVariables false
set_option linter.unusedSimpArgs false
def Ans (rows:List (List GCode)) (r:Option (List GStep × Nat)) (x:Option (List GStep × Bool × zF)):Prop:=(∀l m,r=some (l,m)→x=some (l,true,.mk rows (m:Int)))∧(r=none→∃m',x=some ([],false,.mk rows m'))
section
variable {t:Tab} {n:Nat} {rows:List (List GCode)} {R:Int→Nat→Option (List GStep × Nat)} {m0:Nat}
variable (H:∀k m,m0≤m→m≤rows.length→Ans rows (R k m) (t.zaf k (.mk rows (m:Int)))) (hR:∀k m l m1,R k m=some (l,m1)→m≤m1∧m1≤rows.length)
include H hR
theorem zoA {own : List GStep} {row : List GCode} {L i op : Int} {S As : List ByteArray} {N Ks : List Int} {V : zh} {P : GPred} {By : List GBy} {c : GCode} (hl : Ks.length ≤ 4194304) : ∀ (d j K : Nat) (ts : List (List GStep)) (m : Nat), j + d = Ks.length → d < K → ts.length + d ≤ 4194304 → m0 ≤ m → m ≤ rows.length → (∀ us m1, kidsR R (Ks.drop j) m = some (us, m1) → ∃ z1 z2, zam t n K own row L i Ks (Ks.length : Int) (j : Int) c op S N V P ts By As (.mk rows (m : Int)) = some (.inr (own, row, L, i, Ks, (Ks.length : Int), z1, z2, c, op, S, N, V, P, ts ++ us, By, As, .mk rows (m1 : Int)))) ∧ (kidsR R (Ks.drop j) m = none → ∃ m', zam t n K own row L i Ks (Ks.length : Int) (j : Int) c op S N V P ts By As (.mk rows (m : Int)) = some (.inl ([], false, .mk rows m')))
  | 0,j,K,ts,m,hj,hK,ht,hm0,hm=>by
    obtain⟨K,rfl⟩:∃j,K=j+1:=⟨K-1,by omega⟩
    rw[List.drop_of_length_le (by omega),kidsR]
    obtain⟨x1,x2,x3,⟨x4,x5,x6,x7,x8⟩,⟨x9,xa,xb⟩,xc,xd,xe⟩:=c
    obtain⟨v1,v2,v3,v4,v5⟩:=V
    obtain⟨p1,p2,p3⟩:=P
    refine⟨fun us m1 h=> ?_,fun h=>by cases h⟩
    cases h
    exact⟨_,_,by rw[zam,if_neg (by simp;omega),List.append_nil]⟩
  | d+1,j,K,ts,m,hj,hK,ht,hm0,hm=>by
    obtain⟨K,rfl⟩:∃j,K=j+1:=⟨K-1,by omega⟩
    obtain⟨u,u1,u3,u2⟩:=at_ (l:=Ks) (i:=j) (by omega)
    obtain⟨p,q⟩:=H u m hm0 hm
    have hw:=wr1 (i:=j) (L:=Ks.length) (by omega) (by omega)
    rw[u2,kidsR]
    cases hk:R u m with
    | none=>
      obtain⟨m',e⟩:=q hk
      refine⟨fun us m1 h=>(by cases h),fun _=>⟨m', ?_⟩⟩
      obtain⟨x1,x2,x3,⟨x4,x5,x6,x7,x8⟩,⟨x9,xa,xb⟩,xc,xd,xe⟩:=c
      obtain⟨v1,v2,v3,v4,v5⟩:=V
      obtain⟨p1,p2,p3⟩:=P
      rw[zam,if_pos (by simp;omega),if_pos (by simp),Int.toNat_natCast,u1]
      dsimp only
      rw[e]
      dsimp only
      rw[if_neg (by simp)]
    | some r=>
      obtain⟨tt,m2⟩:=r
      have e:=p tt m2 hk
      obtain⟨g1,g2⟩:=hR u m tt m2 hk
      obtain⟨ihs,ihn⟩:=zoA (own:=own) (row:=row) (L:=L) (i:=i) (op:=op) (S:=S) (As:=As) (N:=N) (V:=V) (P:=P) (By:=By) (c:=c) hl d (j+1) K (ts++[tt]) m2 (by omega) (by omega) (by simp;omega) (by omega) g2
      have st:zam t n (K+1) own row L i Ks (Ks.length:Int) (j:Int) c op S N V P ts By As (.mk rows (m:Int))=zam t n K own row L i Ks (Ks.length:Int) ((j+1:Nat):Int) c op S N V P (ts++[tt]) By As (.mk rows (m2:Int)):=by
        clear ihs ihn
        obtain⟨x1,x2,x3,⟨x4,x5,x6,x7,x8⟩,⟨x9,xa,xb⟩,xc,xd,xe⟩:=c
        obtain⟨v1,v2,v3,v4,v5⟩:=V
        obtain⟨p1,p2,p3⟩:=P
        rw[zam,if_pos (by simp;omega),if_pos (by simp),Int.toNat_natCast,u1]
        dsimp only
        rw[e]
        dsimp only
        rw[if_pos rfl,if_pos (by simp;omega),hw]
      rw[st]
      dsimp only
      cases hs:kidsR R (Ks.drop (j+1)) m2 with
      | none=>exact⟨fun us m1 h=>(by cases h),fun _=>ihn hs⟩
      | some r=>
        obtain⟨us,m3⟩:=r
        refine⟨fun us' m1 h=> ?_,fun h=>by cases h⟩
        cases h
        obtain⟨z1,z2,e2⟩:=ihs us m3 hs
        exact⟨z1,z2,by rw[e2,List.append_assoc];rfl⟩
omit H hR in
theorem zoB {own:List GStep} {row:List GCode} {L i LB j op:Int} {S As:List ByteArray} {N:List Int} {V:zh} {P:GPred} {B:List GKey} {ts:List (List GStep)} {bs:List GBy} {b:GBy} {y:zF} (h:bs.length≤4194304):zaI t n own row L i B LB j op S N V P ts bs As b y=some (own,row,L,i,B,LB,j,op,S,N,V,P,ts,bs++[b],As,y):=by
  obtain⟨v1,v2,v3,v4,v5⟩:=V
  obtain⟨p1,p2,p3⟩:=P
  obtain⟨b1,b2,b3,b4⟩:=b
  obtain⟨y1,y2⟩:=y
  rw[zaI,if_pos (by simp;omega)]
theorem zoC {own : List GStep} {row : List GCode} {L i op : Int} {S As : List ByteArray} {N : List Int} {V : zh} {P : GPred} {Bs : List GKey} {ts : List (List GStep)} (hl : Bs.length ≤ 4194304) : ∀ (d j K : Nat) (bs : List GBy) (m : Nat), j + d = Bs.length → d < K → bs.length + d ≤ 4194304 → m0 ≤ m → m ≤ rows.length → (∀ us m1, keysR R (Bs.drop j) m = some (us, m1) → ∃ z1 z2, zU t n K own row L i Bs (Bs.length : Int) (j : Int) op S N V P ts bs As (.mk rows (m : Int)) = some (.inr (own, row, L, i, Bs, (Bs.length : Int), z1, z2, op, S, N, V, P, ts, bs ++ us, As, .mk rows (m1 : Int)))) ∧ (keysR R (Bs.drop j) m = none → ∃ m', zU t n K own row L i Bs (Bs.length : Int) (j : Int) op S N V P ts bs As (.mk rows (m : Int)) = some (.inl ([], false, .mk rows m')))
  | 0,j,K,bs,m,hj,hK,ht,hm0,hm=>by
    obtain⟨K,rfl⟩:∃j,K=j+1:=⟨K-1,by omega⟩
    rw[List.drop_of_length_le (by omega),keysR]
    obtain⟨v1,v2,v3,v4,v5⟩:=V
    obtain⟨p1,p2,p3⟩:=P
    refine⟨fun us m1 h=> ?_,fun h=>by cases h⟩
    cases h
    exact⟨_,_,by rw[zU,if_neg (by simp;omega),List.append_nil]⟩
  | d+1,j,K,bs,m,hj,hK,ht,hm0,hm=>by
    obtain⟨K,rfl⟩:∃j,K=j+1:=⟨K-1,by omega⟩
    obtain⟨b,u1,u3,u2⟩:=at_ (l:=Bs) (i:=j) (by omega)
    have hw:=wr1 (i:=j) (L:=Bs.length) (by omega) (by omega)
    have ih:=fun(b':GBy) (m2:Nat) (h1:m≤m2) (h2:m2≤rows.length)=>zoC (own:=own) (row:=row) (L:=L) (i:=i) (op:=op) (S:=S) (As:=As) (N:=N) (V:=V) (P:=P) (ts:=ts) hl d (j+1) K (bs++[b']) m2 (by omega) (by omega) (by simp;omega) (by omega) h2
    obtain⟨b1,b2,b3,b4⟩:=b
    obtain⟨p,q⟩:=H b3 m hm0 hm
    rw[u2,keysR]
    by_cases h3:b1=3
    · rw[if_pos h3]
      cases hk:R b3 m with
      | none=>
        obtain⟨m',e⟩:=q hk
        refine⟨fun us m1 h=>(by cases h),fun _=>⟨m', ?_⟩⟩
        clear ih
        obtain⟨v1,v2,v3,v4,v5⟩:=V
        obtain⟨p1,p2,p3⟩:=P
        rw[zU,if_pos (by simp;omega),if_pos (by simp),Int.toNat_natCast,u1]
        dsimp only
        rw[if_pos (by simpa using h3),e]
        dsimp only
        rw[if_neg (by simp)]
      | some r=>
        obtain⟨tt,m2⟩:=r
        have e:=p tt m2 hk
        obtain⟨g1,g2⟩:=hR b3 m tt m2 hk
        obtain⟨ihs,ihn⟩:=ih (.mk b1 b2 tt b4) m2 g1 g2
        have st:zU t n (K+1) own row L i Bs (Bs.length:Int) (j:Int) op S N V P ts bs As (.mk rows (m:Int))=zU t n K own row L i Bs (Bs.length:Int) ((j+1:Nat):Int) op S N V P ts (bs++[.mk b1 b2 tt b4]) As (.mk rows (m2:Int)):=by
          clear ihs ihn ih
          obtain⟨v1,v2,v3,v4,v5⟩:=V
          obtain⟨p1,p2,p3⟩:=P
          rw[zU,if_pos (by simp;omega),if_pos (by simp),Int.toNat_natCast,u1]
          dsimp only
          rw[if_pos (by simpa using h3),e]
          dsimp only
          rw[if_pos rfl,zoB (by omega)]
          dsimp only
          rw[hw]
        rw[st]
        dsimp only
        cases hs:keysR R (Bs.drop (j+1)) m2 with
        | none=>exact⟨fun us m1 h=>(by cases h),fun _=>ihn hs⟩
        | some r=>
          obtain⟨us,m3⟩:=r
          refine⟨fun us' m1 h=> ?_,fun h=>by cases h⟩
          cases h
          obtain⟨z1,z2,e2⟩:=ihs us m3 hs
          exact⟨z1,z2,by rw[e2,List.append_assoc];rfl⟩
    · rw[if_neg h3]
      by_cases hi:b3≠0
      · rw[if_pos hi]
        refine⟨fun us m1 h=>(by cases h),fun _=>⟨(m:Int), ?_⟩⟩
        clear ih
        obtain⟨v1,v2,v3,v4,v5⟩:=V
        obtain⟨p1,p2,p3⟩:=P
        rw[zU,if_pos (by simp;omega),if_pos (by simp),Int.toNat_natCast,u1]
        dsimp only
        rw[if_neg (by simpa using h3),if_pos (by simpa using hi)]
      · rw[if_neg hi]
        obtain⟨ihs,ihn⟩:=ih (.mk b1 b2 [] b4) m (Nat.le_refl _) hm
        have st:zU t n (K+1) own row L i Bs (Bs.length:Int) (j:Int) op S N V P ts bs As (.mk rows (m:Int))=zU t n K own row L i Bs (Bs.length:Int) ((j+1:Nat):Int) op S N V P ts (bs++[.mk b1 b2 [] b4]) As (.mk rows (m:Int)):=by
          clear ihs ihn ih
          obtain⟨v1,v2,v3,v4,v5⟩:=V
          obtain⟨p1,p2,p3⟩:=P
          rw[zU,if_pos (by simp;omega),if_pos (by simp),Int.toNat_natCast,u1]
          dsimp only
          rw[if_neg (by simpa using h3),if_neg (by simpa using hi),zoB (by omega)]
          dsimp only
          rw[hw]
        rw[st]
        cases hs:keysR R (Bs.drop (j+1)) m with
        | none=>exact⟨fun us m1 h=>(by cases h),fun _=>ihn hs⟩
        | some r=>
          obtain⟨us,m3⟩:=r
          refine⟨fun us' m1 h=> ?_,fun h=>by cases h⟩
          cases h
          obtain⟨z1,z2,e2⟩:=ihs us m3 hs
          exact⟨z1,z2,by rw[e2,List.append_assoc];rfl⟩
omit H in
theorem zlh : ∀ (ks : List Int) (m : Nat) {ts : List (List GStep)} {m1 : Nat}, m ≤ rows.length → kidsR R ks m = some (ts, m1) → m ≤ m1 ∧ m1 ≤ rows.length
  | [],m,ts,m1,hm,h=>by
    rw[kidsR]at h
    cases h
    exact⟨Nat.le_refl _,hm⟩
  | k::ks,m,ts,m1,hm,h=>by
    rw[kidsR]at h
    cases hk:R k m with
    | none=>rw[hk]at h;cases h
    | some p=>
      obtain⟨t,m2⟩:=p
      rw[hk]at h
      dsimp only at h
      cases hs:kidsR R ks m2 with
      | none=>rw[hs]at h;cases h
      | some q=>
        obtain⟨ts',m3⟩:=q
        rw[hs]at h
        cases h
        obtain⟨a1,a2⟩:=hR k m t m2 hk
        obtain⟨b1,b2⟩:=zlh ks m2 a2 hs
        exact⟨by omega,b2⟩
omit H in
theorem ziV : ∀ (ks : List GKey) (m : Nat) {bs : List GBy} {m1 : Nat}, m ≤ rows.length → keysR R ks m = some (bs, m1) → m ≤ m1 ∧ m1 ≤ rows.length
  | [],m,ts,m1,hm,h=>by
    rw[keysR]at h
    cases h
    exact⟨Nat.le_refl _,hm⟩
  | .mk k s i d::ks,m,ts,m1,hm,h=>by
    rw[keysR]at h
    split at h
    · cases hk:R i m with
      | none=>rw[hk]at h;cases h
      | some p=>
        obtain⟨t,m2⟩:=p
        rw[hk]at h
        dsimp only at h
        cases hs:keysR R ks m2 with
        | none=>rw[hs]at h;cases h
        | some q=>
          obtain⟨bs',m3⟩:=q
          rw[hs]at h
          cases h
          obtain⟨a1,a2⟩:=hR i m t m2 hk
          obtain⟨b1,b2⟩:=ziV ks m2 a2 hs
          exact⟨by omega,b2⟩
    · split at h
      · cases h
      · cases hs:keysR R ks m with
        | none=>rw[hs]at h;cases h
        | some q=>
          obtain⟨bs',m3⟩:=q
          rw[hs]at h
          cases h
          exact ziV ks m hm hs
theorem zoD {row : List GCode} {L : Int} (hl : row.length ≤ 4194304) (hx : ∀ c0 ∈ row, (cKids c0).length ≤ 4194304 ∧ (cBy c0).length ≤ 4194304 ∧ (cKids c0).length < n ∧ (cBy c0).length < n) : ∀ (d i K : Nat) (own : List GStep) (m : Nat), i + d = row.length → d < K → own.length + d ≤ 4194304 → m0 ≤ m → m ≤ rows.length → (∀ us m1, zeQ R (row.drop i) m = some (us, m1) → ∃ z1 z2 z3 z4, zan t n K own row (row.length : Int) (i : Int) (.mk rows (m : Int)) = some (.inr (own ++ us, z1, z2, z3, z4, .mk rows (m1 : Int)))) ∧ (zeQ R (row.drop i) m = none → ∃ m', zan t n K own row (row.length : Int) (i : Int) (.mk rows (m : Int)) = some (.inl ([], false, .mk rows m')))
  | 0,i,K,own,m,hj,hK,ht,hm0,hm=>by
    obtain⟨K,rfl⟩:∃j,K=j+1:=⟨K-1,by omega⟩
    rw[List.drop_of_length_le (by omega),zeQ]
    refine⟨fun us m1 h=> ?_,fun h=>by cases h⟩
    cases h
    exact⟨_,_,_,_,by rw[zan,if_neg (by simp;omega),List.append_nil]⟩
  | d+1,i,K,own,m,hj,hK,ht,hm0,hm=>by
    obtain⟨K,rfl⟩:∃j,K=j+1:=⟨K-1,by omega⟩
    obtain⟨c,u1,u3,u2⟩:=at_ (l:=row) (i:=i) (by omega)
    obtain⟨q1,q2,q3,q4⟩:=hx c u3
    have hw:=wr1 (i:=i) (L:=row.length) (by omega) (by omega)
    have k3:=fun(c:GCode) (q1:(cKids c).length≤4194304) (q3:(cKids c).length < n)=>zoA (t:=t) (n:=n) H hR (own:=own) (row:=row) (L:=(row.length:Int)) (i:=(i:Int)) (op:=gOp c) (S:=gS c) (As:=gAs c) (N:=gN c) (V:=gV c) (P:=gP c) (By:=[]) (c:=c) q1 (cKids c).length 0 n [] m (by omega) q3 (by simpa using q1) hm0 hm
    have k5:=fun(c:GCode) (q2:(cBy c).length≤4194304) (q4:(cBy c).length < n) (ts:List (List GStep)) (m2:Nat) (h1:m≤m2) (h2:m2≤rows.length)=>zoC (t:=t) (n:=n) H hR (own:=own) (row:=row) (L:=(row.length:Int)) (i:=(i:Int)) (op:=gOp c) (S:=gS c) (As:=gAs c) (N:=gN c) (V:=gV c) (P:=gP c) (ts:=ts) q2 (cBy c).length 0 n [] m2 (by omega) q4 (by simpa using q2) (by omega) h2
    have k3:=k3 c q1 q3
    have k5:=k5 c q2 q4
    rw[show((0:Nat):Int)=0 from rfl]at k3 k5
    simp only[List.drop_zero,List.nil_append]at k3 k5
    have ih:=fun(x:GStep) (m2:Nat) (h1:m≤m2) (h2:m2≤rows.length)=>zoD (L:=L) hl hx d (i+1) K (own++[x]) m2 (by omega) (by omega) (by simp;omega) (by omega) h2
    rw[u2,zeQ,codeR]
    obtain⟨op,S,N,⟨v1,v2,v3,v4,v5⟩,⟨p1,p2,p3⟩,Ks,Bs,As⟩:=c
    simp only[cKids,cBy,gOp,gS,gN,gV,gP,gAs]at *
    cases hk:kidsR R Ks m with
    | none=>
      obtain⟨m',e⟩:=k3.2 hk
      refine⟨fun us m1 h=>(by cases h),fun _=>⟨m', ?_⟩⟩
      rw[zan,if_pos (by simp;omega),if_pos (by simp),Int.toNat_natCast,u1]
      dsimp only
      rw[e]
    | some r=>
      obtain⟨ts,m2⟩:=r
      obtain⟨z1,z2,e3⟩:=k3.1 ts m2 hk
      obtain⟨g1,g2⟩:=zlh hR _ _ hm hk
      have k5:=k5 ts m2 g1 g2
      dsimp only
      cases hb:keysR R Bs m2 with
      | none=>
        obtain⟨m',e⟩:=k5.2 hb
        refine⟨fun us m1 h=>(by cases h),fun _=>⟨m', ?_⟩⟩
        rw[zan,if_pos (by simp;omega),if_pos (by simp),Int.toNat_natCast,u1]
        dsimp only
        rw[e3]
        dsimp only
        rw[zaR,e]
      | some r=>
        obtain⟨bs,m3⟩:=r
        obtain⟨z3,z4,e5⟩:=k5.1 bs m3 hb
        obtain⟨g3,g4⟩:=ziV hR _ _ g2 hb
        obtain⟨ihs,ihn⟩:=ih (.mk op S N (.mk v1 v2 v3 v4 v5) (.mk p1 p2 p3) ts bs As) m3 (by omega) g4
        have st:zan t n (K+1) own row (row.length:Int) (i:Int) (.mk rows (m:Int))=zan t n K (own++[.mk op S N (.mk v1 v2 v3 v4 v5) (.mk p1 p2 p3) ts bs As]) row (row.length:Int) ((i+1:Nat):Int) (.mk rows (m3:Int)):=by
          rw[zan,if_pos (by simp;omega),if_pos (by simp),Int.toNat_natCast,u1]
          dsimp only
          rw[e3]
          dsimp only
          rw[zaR,e5]
          dsimp only
          rw[za7,if_pos (by simp;omega)]
          dsimp only
          rw[hw]
        rw[st]
        dsimp only
        cases hs:zeQ R (row.drop (i+1)) m3 with
        | none=>exact⟨fun us m1 h=>(by cases h),fun _=>ihn hs⟩
        | some r=>
          obtain⟨us,m4⟩:=r
          refine⟨fun us' m1 h=> ?_,fun h=>by cases h⟩
          cases h
          obtain⟨z1,z2,z3,z4,e2⟩:=ihs us m4 hs
          exact⟨z1,z2,z3,z4,by rw[e2,List.append_assoc];rfl⟩
end
def Fits (rows:List (List GCode)) (n:Nat):Prop:=rows.length≤8388608∧∀row∈rows,row.length≤n∧∀c0∈row,(cKids c0).length≤n∧(cBy c0).length≤n
theorem znW {rows : List (List GCode)} (hf : Fits rows 4194304) : ∀ f : Nat, Ev fun n => ∀ (k : Int) (m : Nat), rows.length < m + f → m ≤ rows.length → Ans rows (raF rows f k m) ((tab n).zaf k (.mk rows (m : Int)))
  | 0=>(Ev.ge 0).mono fun n _ k m h1 h2=>by omega
  | f+1=>Ev.step (((znW hf f).and (Ev.ge 4194305)).mono fun n hh k m h1 h2=>by
    obtain⟨ih,hn⟩:=hh
    have hl:=hf.1
    rw[raF,zfO,zaf]
    by_cases hk:k=(m:Int)
    · subst hk
      by_cases hm:m < rows.length
      · rw[if_pos ⟨rfl,hm⟩,if_neg (by simp),if_neg (by simp;omega)]
        obtain⟨r1,r2⟩:=hf.2 (rows.getD m []) (by simp[hm])
        have hr0:rows[m]?=some (rows.getD m []):=by simp[hm]
        generalize rows.getD m []=row at *
        have g:=zoD (t:=tab n) (n:=n) (m0:=m+1) (R:=raF rows f) (fun k m' h3 h4=>ih k m' (by omega) h4) (fun k m' l m1 h=>by
          obtain⟨a1,a2,_⟩:=zkg rows f k m' l m1 h
          exact⟨by omega,a2⟩) (L:=0) r1 (fun c0 hc=>by have:=r2 c0 hc;omega) row.length 0 n [] (m+1) (by omega) (by omega) (by simpa using r1) (Nat.le_refl _) (by omega)
        rw[show((0:Nat):Int)=0 from rfl,List.drop_zero]at g
        have hw:IntKind.wrap .i64 ((m:Int)+1)=((m+1:Nat):Int):=wr1 (i:=m) (L:=rows.length) (by omega) (by omega)
        refine⟨fun l m1 h=> ?_,fun h=> ?_⟩
        · obtain⟨z1,z2,z3,z4,e⟩:=g.1 l m1 h
          rw[zaZ,if_pos (by simp),Int.toNat_natCast,hr0]
          dsimp only
          rw[hw,e]
          rfl
        · obtain⟨m',e⟩:=g.2 h
          refine⟨m', ?_⟩
          rw[zaZ,if_pos (by simp),Int.toNat_natCast,hr0]
          dsimp only
          rw[hw,e]
      · rw[if_neg (fun h=>hm h.2),if_neg (by simp),if_pos (by simp;omega)]
        exact⟨fun l m1 h=>(by cases h),fun _=>⟨_,rfl⟩⟩
    · rw[if_neg (fun h=>hk h.1),if_pos (by simpa using hk)]
      exact⟨fun l m1 h=>(by cases h),fun _=>⟨_,rfl⟩⟩)
theorem zfa {rows:List (List GCode)} (hf:Fits rows 4194304) (hw:wR rows≤2097152) (hb:nmL rows+1=rows.length→¬okR rows):Ev fun n=>(tab n).za6 (.mk rows)=some ([],2)∧(tab n).zbt (.mk rows)=some 2:=by
  have key:Ev fun n=>(tab n).za6 (.mk rows)=some ([],2):=by
    have e:=znW hf (rows.length+1)
    cases hr:raF rows (rows.length+1) 0 0 with
    | none=>
      refine Ev.step (e.mono fun n e=> ?_)
      obtain⟨m',e⟩:=(e 0 0 (by omega) (Nat.zero_le _)).2 hr
      have e:(tab n).zaf 0 (.mk rows 0)=some ([],false,.mk rows m'):=e
      rw[zex,za6,e]
      dsimp only
      rw[if_neg (by simp)]
    | some r=>
      obtain⟨l,m1⟩:=r
      obtain⟨a1,a2,a3,a4,a5⟩:=zkg rows _ _ _ _ _ hr
      by_cases hm:m1 < rows.length
      · refine Ev.step (e.mono fun n e=> ?_)
        have e:=(e 0 0 (by omega) (Nat.zero_le _)).1 l m1 hr
        have e:(tab n).zaf 0 (.mk rows 0)=some (l,true,.mk rows (m1:Int)):=e
        rw[zex,za6,e]
        dsimp only
        rw[if_pos rfl,if_pos (by simp;omega)]
      · have hm:m1=rows.length:=by omega
        subst hm
        rw[zop]at a3 a4 a5
        have c:=ziQ (l:=l) (by omega)
        have ho:okL2 l=false:=by
          cases ho:okL2 l with
          | false=>rfl
          | true=>
            unfold okL2 at ho
            rw[Bool.and_eq_true]at ho
            exact absurd (a5 11 ho.2) (hb (by omega))
        rw[ho]at c
        refine Ev.step ((e.and c).mono fun n hh=> ?_)
        obtain⟨e,c⟩:=hh
        have e:=(e 0 0 (by omega) (Nat.zero_le _)).1 l rows.length hr
        have e:(tab n).zaf 0 (.mk rows 0)=some (l,true,.mk rows (rows.length:Int)):=e
        rw[zex,za6,e]
        dsimp only
        rw[if_pos rfl,if_neg (by simp),c]
        dsimp only
        rw[if_pos (by simp)]
  have k2:Ev fun n=>(tab n).zbt (.mk rows)=some 2:=Ev.step (key.mono fun n e=>by rw[zhy,zbt,e])
  exact key.and k2
end Go.Proofs.YtgmidllbkjdnnaaDoor.W
