/- Two plans' rows are the same, just if the plans are. -/
import Derived.Test.YtgmidllbkjdnnaaDoorLsB
namespace Go.Proofs.YtgmidllbkjdnnaaDoor.W
open Go.Proofs.YtgmidllbkjdnnaaDoor.Flat
set_option linter.unusedVariables false
set_option linter.unusedSimpArgs false
theorem zgA {α : Type _} {f : α → α → Bool} : ∀ {a b c d : List α}, a.length = b.length → eqL f (a ++ c) (b ++ d) = (eqL f a b && eqL f c d)
  | [],[],c,d,_=>by rw[List.nil_append,List.nil_append,eqL,Bool.true_and]
  | x::xs,y::ys,c,d,h=>by rw[List.cons_append,List.cons_append,eqL,eqL,zgA (by simpa using h),Bool.and_assoc]
  | [],_::_,_,_,h=>by simp at h
  | _::_,[],_,_,h=>by simp at h
theorem zfP {α:Type _} {f:α→α→Bool} {a b:List α} (h:eqL f a b=true):a.length=b.length:=Decidable.byContradiction fun hn=>by rw[zdB hn]at h;cases h
theorem zhw {α : Type _} {f g : α → α → Bool} {c : α → α} : ∀ {a b : List α}, (∀ x ∈ a, ∀ y ∈ b, f (c x) (c y) = g x y) → eqL f (a.map c) (b.map c) = eqL g a b
  | [],[],_=>rfl
  | [],_::_,_=>rfl
  | _::_,[],_=>rfl
  | x::xs,y::ys,h=>by rw[List.map_cons,List.map_cons,eqL,eqL,h x (List.mem_cons_self ..) y (List.mem_cons_self ..),zhw fun z hz w hw=>h z (List.mem_cons_of_mem _ hz) w (List.mem_cons_of_mem _ hw)]
theorem zma : ∀ {a b : List Int}, eqL (fun x y => x == y) a b = true ↔ a = b
  | [],[]=>by simp[eqL]
  | [],_::_=>by simp[eqL]
  | _::_,[]=>by simp[eqL]
  | x::xs,y::ys=>by
    rw[eqL,Bool.and_eq_true,zma,beq_iff_eq,List.cons.injEq]
section
variable {g:List GStep→Nat}
theorem zjQ : ∀ {A B : List (List GStep)} {m : Nat}, starts g A m = starts g B m → tot g A = tot g B → eqL (fun t u => g t == g u) A B = true
  | [],[],_,_,_=>rfl
  | [],_::_,_,h,_=>by rw[starts,starts]at h;cases h
  | _::_,[],_,h,_=>by rw[starts,starts]at h;cases h
  | [t],[u],m,h,ht=>by
    simp only[tot,List.map_cons,List.map_nil,List.sum_cons,List.sum_nil]at ht
    simp only[eqL,Bool.and_true,beq_iff_eq]
    omega
  | [t],u::v::us,m,h,ht=>by simp[starts]at h
  | t::v::ts,[u],m,h,ht=>by simp[starts]at h
  | t::t2::ts,u::u2::us,m,h,ht=>by
    have h:(m:Int)::starts g (t2::ts) (m+g t)=(m:Int)::starts g (u2::us) (m+g u):=h
    have h2:=(List.cons.inj h).2
    have h3:m+g t=m+g u:=by
      have h4:((m+g t:Nat):Int)::starts g ts (m+g t+g t2)=((m+g u:Nat):Int)::starts g us (m+g u+g u2):=h2
      have:=(List.cons.inj h4).1
      omega
    rw[←h3]at h2
    rw[zeL,zeL g u]at ht
    rw[eqL,zjQ h2 (by omega)]
    simp only[Bool.and_true,beq_iff_eq]
    omega
theorem zks : ∀ {A B : List (List GStep)} {m : Nat}, eqL (fun t u => g t == g u) A B = true → starts g A m = starts g B m ∧ tot g A = tot g B
  | [],[],_,_=>⟨rfl,rfl⟩
  | [],_::_,_,h=>by cases h
  | _::_,[],_,h=>by cases h
  | t::ts,u::us,m,h=>by
    rw[eqL,Bool.and_eq_true,beq_iff_eq]at h
    have e:=zks (m:=m+g t) h.2
    rw[starts,starts,zeL,zeL,←h.1,e.1,e.2]
    exact⟨rfl,rfl⟩
theorem zgq {R : List GStep → Nat → List (List GCode)} {sl : List GStep → List GStep → Bool} : ∀ {A B : List (List GStep)} {m : Nat}, (∀ t, ∀ k, (R t k).length = g t) → (∀ t ∈ A, ∀ u ∈ B, ∀ k, sameR (R t k) (R u k) = sl t u) → eqL (fun t u => g t == g u) A B = true → sameR (blocks R g A m) (blocks R g B m) = eqL sl A B
  | [],[],_,_,_,_=>rfl
  | [],_::_,_,_,_,h=>by cases h
  | _::_,[],_,_,_,h=>by cases h
  | t::ts,u::us,m,hR,H,h=>by
    rw[eqL,Bool.and_eq_true,beq_iff_eq]at h
    have ih:=zgq (m:=m+g t) hR (fun x hx y hy=>H x (List.mem_cons_of_mem _ hx) y (List.mem_cons_of_mem _ hy)) h.2
    have h1:=H t (List.mem_cons_self ..) u (List.mem_cons_self ..) m
    unfold sameR at ih h1⊢
    rw[blocks,blocks,zgA (by rw[hR,hR,h.1]),h1,←h.1,ih,eqL]
theorem zp8 {R : List GStep → Nat → List (List GCode)} {sl : List GStep → List GStep → Bool} : ∀ {A B : List (List GStep)}, (∀ t, ∀ k, (R t k).length = g t) → (∀ t ∈ A, ∀ u ∈ B, ∀ k, sameR (R t k) (R u k) = sl t u) → eqL sl A B = true → eqL (fun t u => g t == g u) A B = true
  | [],[],_,_,_=>rfl
  | [],_::_,_,_,h=>by cases h
  | _::_,[],_,_,h=>by cases h
  | t::ts,u::us,hR,H,h=>by
    rw[eqL,Bool.and_eq_true]at h
    have h1:=H t (List.mem_cons_self ..) u (List.mem_cons_self ..) 0
    rw[h.1]at h1
    have h2:=zfP h1
    rw[hR,hR]at h2
    rw[eqL,zp8 hR (fun x hx y hy=>H x (List.mem_cons_of_mem _ hx) y (List.mem_cons_of_mem _ hy)) h.2,h2]
    simp
theorem zmU {R:List GStep→Nat→List (List GCode)} {sl:List GStep→List GStep→Bool} {A B:List (List GStep)} {m:Nat} (hR:∀t,∀k,(R t k).length=g t) (H:∀t∈A,∀u∈B,∀k,sameR (R t k) (R u k)=sl t u):(starts g A m=starts g B m∧sameR (blocks R g A m) (blocks R g B m)=true)↔eqL sl A B=true:=by
  constructor
  · intro ⟨h1,h2⟩
    have hl:=zfP h2
    rw[zeQ _ _ fun t _ k=>hR t k,zeQ _ _ fun t _ k=>hR t k]at hl
    rw[←zgq hR H (zjQ h1 hl)]
    exact h2
  · intro h
    have h1:=zp8 hR H h
    exact⟨(zks h1).1,by rw[zgq hR H h1];exact h⟩
def byOwn (b b':GBy):Bool:=bK b==bK b'&&((bKey b).toList==(bKey b').toList)&&bD b==bD b'
theorem zjR {C : List GStep → List GStep} : ∀ {By By' : List GBy} {m m' : Nat}, eqL sameK (keysF g (By.map (cpB C)) m) (keysF g (By'.map (cpB C)) m') = true ↔ eqL byOwn By By' = true ∧ starts g (chB (By.map (cpB C))) m = starts g (chB (By'.map (cpB C))) m'
  | [],[],_,_=>by simp[keysF,eqL,chB,starts]
  | [],b::bs,_,_=>by
    rw[List.map_nil,List.map_cons,keysF,keysF]
    constructor
    · intro h;split at h<;>cases h
    · intro h;cases h.1
  | b::bs,[],_,_=>by
    rw[List.map_nil,List.map_cons,keysF,keysF]
    constructor
    · intro h;split at h<;>cases h
    · intro h;cases h.1
  | b::bs,c::cs,m,m'=>by
    have e1:∀b:GBy,bK (cpB C b)=bK b∧bKey (cpB C b)=bKey b∧bD (cpB C b)=bD b:=fun b=>by cases b;exact⟨rfl,rfl,rfl⟩
    obtain⟨k1,k2,k3⟩:=e1 b
    obtain⟨j1,j2,j3⟩:=e1 c
    have ec:∀(b:GBy) (l:List GBy),chB (b::l)=if bK b==3 then bT b::chB l else chB l:=fun b l=>by
      unfold chB
      rw[List.filter_cons]
      split<;>rfl
    rw[List.map_cons,List.map_cons,keysF,keysF,ec,ec,k1,k2,k3,j1,j2,j3,eqL]
    unfold byOwn
    by_cases hb:(bK b==bK c)=true
    · have hb':=eq_of_beq hb
      by_cases h3:(bK b==3)=true
      · rw[if_pos h3,if_pos h3,if_pos (by rw[←hb'];exact h3),if_pos (by rw[←hb'];exact h3),eqL,starts,starts]
        have ih:=zjR (C:=C) (By:=bs) (By':=cs) (m:=m+g (bT (cpB C b))) (m':=m'+g (bT (cpB C c)))
        simp only[sameK,Bool.and_eq_true,beq_iff_eq,List.cons.injEq,ih]
        constructor
        · rintro ⟨⟨q1,q2,q3,q4,_⟩,q5,q6⟩
          exact⟨⟨⟨⟨q1,q2⟩,q4⟩,q5⟩,q3,q6⟩
        · rintro ⟨⟨⟨⟨q1,q2⟩,q4⟩,q5⟩,q3,q6⟩
          exact⟨⟨q1,q2,q3,q4,trivial⟩,q5,q6⟩
      · rw[if_neg h3,if_neg h3,if_neg (by rw[←hb'];exact h3),if_neg (by rw[←hb'];exact h3),eqL]
        have ih:=zjR (C:=C) (By:=bs) (By':=cs) (m:=m) (m':=m')
        simp only[sameK,Bool.and_eq_true,beq_iff_eq,ih]
        constructor
        · rintro ⟨⟨q1,q2,q3,q4,_⟩,q5,q6⟩
          exact⟨⟨⟨⟨q1,q2⟩,q4⟩,q5⟩,q6⟩
        · rintro ⟨⟨⟨⟨q1,q2⟩,q4⟩,q5⟩,q6⟩
          exact⟨⟨q1,q2,trivial,q4,trivial⟩,q5,q6⟩
    · have hne:¬bK b=bK c:=fun e=>hb (by rw[e];simp)
      constructor
      · intro h
        exfalso
        split at h<;>split at h<;>(rw[eqL,Bool.and_eq_true]at h;simp only[sameK,Bool.and_eq_true,beq_iff_eq]at h;exact hne h.1.1)
      · intro h
        exfalso
        simp only[Bool.and_eq_true,beq_iff_eq]at h
        exact hne h.1.1.1.1
theorem zdN (g : List GStep → Nat) : ∀ (ts : List (List GStep)) (n : Nat), (starts g ts n).length = ts.length
  | [],_=>rfl
  | t::ts,n=>by rw[starts,List.length_cons,zdN g ts,List.length_cons]
def ownS (x y:GStep):Bool:=opOf x==opOf y&&eqL (fun x y=>x.toList==y.toList) (sOf x) (sOf y)&&eqL (fun x y=>x==y) (nOf x) (nOf y)&&eqL (fun x y=>x.toList==y.toList) (asOf x) (asOf y)&&cmp (vOf x) (vOf y)==0&&sameP 2097152 (pOf x) (pOf y)&&(tOf x).length==(tOf y).length&&eqL byOwn (byOf x) (byOf y)
theorem cpP2 : ∀ (f h : Nat) (p q : GPred), zec f p = true → zec f q = true → sameP h (cpP f p) (cpP f q) = sameP h p q
  | _,0,_,_,_,_=>rfl
  | 0,_+1,p,_,h,_=>by rw[zec]at h;cases h
  | f+1,h+1,.mk k v p,.mk k' v' p',h1,h2=>by
    have h1:=zhS h1
    have h2:=zhS h2
    rw[cpP,cpP,sameP,sameP,zhw (f:=fun x y=>cmp x y==0) (g:=fun x y=>cmp x y==0) (c:=cp) fun x _ y _=>by rw[zmM,zoL],zhw (g:=sameP h) fun x hx y hy=>cpP2 f h x y (h1.2.2 x hx) (h2.2.2 y hy)]
theorem zkt {p:GPred} (h:zeK p=true):cpP 12 p=p:=by
  obtain⟨k,v,q⟩:=p
  simp only[zeK,Bool.and_eq_true,beq_iff_eq]at h
  have e1:v=[]:=List.eq_nil_of_length_eq_zero (by have:=h.2;omega)
  have e2:q=[]:=List.eq_nil_of_length_eq_zero (by have:=h.2;omega)
  subst e1 e2
  rfl
theorem zo1 {R R':List GStep→Bool} {x y:GStep} (hx:stepF R x=true) (hy:stepF R' y=true) (ho:opOf x=opOf y):sameP 2097152 (cpP 12 (pOf x)) (cpP 12 (pOf y))=sameP 2097152 (pOf x) (pOf y):=by
  unfold stepF at hx hy
  rw[←ho]at hy
  simp only[Bool.and_eq_true]at hx hy
  have h1:=hx.1.1.2
  have h2:=hy.1.1.2
  generalize shF (opOf x)=sh at h1 h2
  obtain⟨s1,s2,s3,s4,v,p⟩:=sh
  simp only[restF,Bool.and_eq_true]at h1 h2
  have h1:=h1.1.2
  have h2:=h2.1.2
  cases p with
  | true=>exact cpP2 12 _ _ _ (by simpa [okP] using h1) (by simpa [okP] using h2)
  | false=>rw[zkt (by simpa using h1),zkt (by simpa using h2)]
theorem zo2 {R R':List GStep→Bool} {C:List GStep→List GStep} {x y:GStep} {m m':Nat} (hx:stepF R x=true) (hy:stepF R' y=true):sameC (codeF g (cpS C x) m) (codeF g (cpS C y) m')=true↔ownS x y=true∧starts g (subs (cpS C x)) m=starts g (subs (cpS C y)) m':=by
  have hp:=fun ho=>zo1 hx hy ho
  obtain⟨op,S,N,V,P,Ts,By,As⟩:=x
  obtain⟨op',S',N',V',P',Ts',By',As'⟩:=y
  simp only[opOf,pOf]at hp
  have e0:∀x:GStep,subs x=tOf x++chB (byOf x):=fun _=>rfl
  rw[e0,e0,zfa,zfa]
  simp only[cpS,codeF,sameC,ownS,opOf,sOf,nOf,vOf,pOf,tOf,byOf,asOf,Bool.and_eq_true,beq_iff_eq,zma,zjR,zmM,zoL]
  have hs:∀(A B:List (List GStep)) (m m':Nat),starts g A m=starts g B m'→A.length=B.length:=fun A B m m' h=>by
    have:=congrArg List.length h
    rwa[zdN,zdN]at this
  constructor
  · rintro ⟨⟨⟨⟨⟨⟨⟨q1,q2⟩,q3⟩,q4⟩,q5⟩,q6,q7⟩,q8⟩,q9⟩
    rw[hp q1]at q9
    have hl:=hs _ _ _ _ q5
    rw[List.length_map,List.length_map]at hl
    exact⟨⟨⟨⟨⟨⟨⟨⟨q1,q2⟩,q3⟩,q4⟩,q8⟩,q9⟩,hl⟩,q6⟩,by rw[q5,q7]⟩
  · rintro ⟨⟨⟨⟨⟨⟨⟨⟨q1,q2⟩,q3⟩,q4⟩,q8⟩,q9⟩,hl⟩,q6⟩,qs⟩
    have hl2:(starts g (Ts.map C) m).length=(starts g (Ts'.map C) m').length:=by rw[zdN,zdN,List.length_map,List.length_map,hl]
    obtain⟨q5,q7⟩:=List.append_inj qs hl2
    exact⟨⟨⟨⟨⟨⟨⟨q1,q2⟩,q3⟩,q4⟩,q5⟩,q6,q7⟩,q8⟩,by rw[hp q1];exact q9⟩
theorem zmb {C:List GStep→List GStep} {x y:GStep} (h:ownS x y=true):(subs (cpS C x)).length=(subs (cpS C y)).length:=by
  rw[zgp,zgp,List.length_map,List.length_map]
  unfold ownS at h
  simp only[Bool.and_eq_true,beq_iff_eq]at h
  have h1:=h.1.2
  have h2:=h.2
  have:∀{a b:List GBy},eqL byOwn a b=true→(chB a).length=(chB b).length:=by
    intro a
    induction a with
    | nil=>intro b hb;cases b with | nil=>rfl | cons _ _=>cases hb
    | cons u us ih=>
      intro b hb
      cases b with
      | nil=>cases hb
      | cons v vs=>
        rw[eqL,Bool.and_eq_true]at hb
        have:=ih hb.2
        have hk:bK u=bK v:=by have:=hb.1;unfold byOwn at this;simp only[Bool.and_eq_true,beq_iff_eq]at this;exact this.1.1
        unfold chB at this⊢
        rw[List.filter_cons,List.filter_cons,hk]
        split
        · simp only[List.map_cons,List.length_cons];omega
        · exact this
  have e0:∀x:GStep,subs x=tOf x++chB (byOf x):=fun _=>rfl
  rw[e0,e0,List.length_append,List.length_append,h1,this h2]
theorem zku {R R' : List GStep → Bool} {C : List GStep → List GStep} : ∀ {a b : List GStep} {m m' : Nat}, (∀ x ∈ a, stepF R x = true) → (∀ y ∈ b, stepF R' y = true) → (eqL sameC (zeh g (a.map (cpS C)) m) (zeh g (b.map (cpS C)) m') = true ↔ eqL ownS a b = true ∧ starts g (subsL (a.map (cpS C))) m = starts g (subsL (b.map (cpS C))) m')
  | [],[],_,_,_,_=>by simp[zeh,eqL,subsL,starts]
  | [],_::_,_,_,_,_=>by simp[zeh,eqL]
  | _::_,[],_,_,_,_=>by simp[zeh,eqL]
  | x::xs,y::ys,m,m',hx,hy=>by
    have h1:=zo2 (g:=g) (C:=C) (m:=m) (m':=m') (hx x (List.mem_cons_self ..)) (hy y (List.mem_cons_self ..))
    have ih:=zku (C:=C) (a:=xs) (b:=ys) (m:=m+tot g (subs (cpS C x))) (m':=m'+tot g (subs (cpS C y))) (fun z hz=>hx z (List.mem_cons_of_mem _ hz)) (fun z hz=>hy z (List.mem_cons_of_mem _ hz))
    rw[List.map_cons,List.map_cons,zeh,zeh,eqL,Bool.and_eq_true,h1,ih,eqL,Bool.and_eq_true,zd2,zd2,zfa,zfa]
    constructor
    · rintro ⟨⟨q1,q2⟩,q3,q4⟩
      exact⟨⟨q1,q3⟩,by rw[q2,q4]⟩
    · rintro ⟨⟨q1,q3⟩,qs⟩
      obtain⟨q2,q4⟩:=List.append_inj qs (by rw[zdN,zdN,zmb q1])
      exact⟨⟨q1,q2⟩,q3,q4⟩
end
theorem zo3 {sl : List GStep → List GStep → Bool} (h0 : sl [] [] = true) : ∀ {a b : List GBy}, (∀ x ∈ a, bK x = 3 ∨ bT x = []) → (∀ x ∈ b, bK x = 3 ∨ bT x = []) → (eqL (sameB sl) a b = true ↔ eqL byOwn a b = true ∧ eqL sl (chB a) (chB b) = true)
  | [],[],_,_=>by simp[eqL,chB]
  | [],_::_,_,_=>by simp[eqL]
  | _::_,[],_,_=>by simp[eqL]
  | x::xs,y::ys,hx,hy=>by
    have ih:=zo3 h0 (a:=xs) (b:=ys) (fun z hz=>hx z (List.mem_cons_of_mem _ hz)) (fun z hz=>hy z (List.mem_cons_of_mem _ hz))
    have h1:=hx x (List.mem_cons_self ..)
    have h2:=hy y (List.mem_cons_self ..)
    have ec:∀(b:GBy) (l:List GBy),chB (b::l)=if bK b==3 then bT b::chB l else chB l:=fun b l=>by
      unfold chB
      rw[List.filter_cons]
      split<;>rfl
    rw[eqL,eqL,Bool.and_eq_true,Bool.and_eq_true,ih,ec,ec]
    obtain⟨k,s,t,d⟩:=x
    obtain⟨k',s',t',d'⟩:=y
    simp only[bK,bT,bKey,bD,sameB,byOwn,Bool.and_eq_true,beq_iff_eq]at h1 h2⊢
    by_cases hk:k=k'
    · subst hk
      by_cases h3:k=3
      · subst h3
        simp only[if_true,eqL,Bool.and_eq_true]
        constructor
        · rintro ⟨⟨⟨⟨q1,q2⟩,q3⟩,q4⟩,q5,q6⟩
          exact⟨⟨⟨⟨q1,q2⟩,q3⟩,q5⟩,q4,q6⟩
        · rintro ⟨⟨⟨⟨q1,q2⟩,q3⟩,q5⟩,q4,q6⟩
          exact⟨⟨⟨⟨q1,q2⟩,q3⟩,q4⟩,q5,q6⟩
      · have e1:t=[]:=h1.resolve_left h3
        have e2:t'=[]:=h2.resolve_left h3
        subst e1 e2
        simp only[if_neg h3,h0]
        constructor
        · rintro ⟨⟨⟨⟨q1,q2⟩,q3⟩,q4⟩,q5,q6⟩
          exact⟨⟨⟨⟨q1,q2⟩,q3⟩,q5⟩,q6⟩
        · rintro ⟨⟨⟨⟨q1,q2⟩,q3⟩,q5⟩,q6⟩
          exact⟨⟨⟨⟨q1,q2⟩,q3⟩,trivial⟩,q5,q6⟩
    · constructor
      · rintro ⟨⟨⟨⟨q1,q2⟩,q3⟩,q4⟩,q5,q6⟩;exact absurd q1 hk
      · rintro ⟨⟨⟨⟨q1,q2⟩,q3⟩,q5⟩,q6⟩;exact absurd q1 hk
theorem znt {R:List GStep→Bool} {x:GStep} (h:stepF R x=true):∀b∈byOf x,bK b=3∨bT b=[]:=by
  unfold stepF at h
  rw[Bool.and_eq_true,List.all_eq_true]at h
  intro b hb
  have:=h.2 b hb
  unfold byF at this
  simp only[Bool.and_eq_true,Bool.or_eq_true,beq_iff_eq]at this
  rcases this.1.2 with h | h
  · exact .inl h
  · exact .inr (List.eq_nil_of_length_eq_zero h)
theorem zo4 {R R':List GStep→Bool} {sl:List GStep→List GStep→Bool} (h0:sl [] []=true) {x y:GStep} (hx:stepF R x=true) (hy:stepF R' y=true):sameS sl x y=true↔ownS x y=true∧eqL sl (subs x) (subs y)=true:=by
  have b1:=znt hx
  have b2:=znt hy
  have e0:∀x:GStep,subs x=tOf x++chB (byOf x):=fun _=>rfl
  rw[e0,e0]
  obtain⟨op,S,N,V,P,Ts,By,As⟩:=x
  obtain⟨op',S',N',V',P',Ts',By',As'⟩:=y
  simp only[tOf,byOf]at b1 b2⊢
  simp only[sameS,ownS,opOf,sOf,nOf,vOf,pOf,tOf,byOf,asOf,Bool.and_eq_true,beq_iff_eq,zo3 h0 b1 b2]
  constructor
  · rintro ⟨⟨⟨⟨⟨⟨⟨q1,q2⟩,q3⟩,q4⟩,q5⟩,q6⟩,q7⟩,q8,q9⟩
    exact⟨⟨⟨⟨⟨⟨⟨⟨q1,q2⟩,q3⟩,q4⟩,q5⟩,q6⟩,zfP q7⟩,q8⟩,by rw[zgA (zfP q7),q7,q9];rfl⟩
  · rintro ⟨⟨⟨⟨⟨⟨⟨⟨q1,q2⟩,q3⟩,q4⟩,q5⟩,q6⟩,hl⟩,q8⟩,q⟩
    rw[zgA hl,Bool.and_eq_true]at q
    exact⟨⟨⟨⟨⟨⟨⟨q1,q2⟩,q3⟩,q4⟩,q5⟩,q6⟩,q.1⟩,q8,q.2⟩
theorem znu {x y:GStep} (h:ownS x y=true):(subs x).length=(subs y).length:=by
  have:=zmb (C:=id) h
  rwa[zgp,zgp,List.length_map,List.length_map]at this
theorem steps_iff {R R' : List GStep → Bool} {sl : List GStep → List GStep → Bool} (h0 : sl [] [] = true) : ∀ {a b : List GStep}, (∀ x ∈ a, stepF R x = true) → (∀ y ∈ b, stepF R' y = true) → (eqL (sameS sl) a b = true ↔ eqL ownS a b = true ∧ eqL sl (subsL a) (subsL b) = true)
  | [],[],_,_=>by simp[eqL,subsL]
  | [],_::_,_,_=>by simp[eqL]
  | _::_,[],_,_=>by simp[eqL]
  | x::xs,y::ys,hx,hy=>by
    have h1:=zo4 h0 (hx x (List.mem_cons_self ..)) (hy y (List.mem_cons_self ..))
    have ih:=steps_iff h0 (a:=xs) (b:=ys) (fun z hz=>hx z (List.mem_cons_of_mem _ hz)) (fun z hz=>hy z (List.mem_cons_of_mem _ hz))
    rw[eqL,eqL,Bool.and_eq_true,Bool.and_eq_true,h1,ih,zd2,zd2]
    constructor
    · rintro ⟨⟨q1,q2⟩,q3,q4⟩
      exact⟨⟨q1,q3⟩,by rw[zgA (znu q1),q2,q4];rfl⟩
    · rintro ⟨⟨q1,q3⟩,q⟩
      rw[zgA (znu q1),Bool.and_eq_true]at q
      exact⟨⟨q1,q.1⟩,q3,q.2⟩
theorem zn4 (F:Nat):sameL F [] []=true:=by cases F<;>rfl
theorem zkv : ∀ (f F g : Nat) (a b : List GStep) (n : Nat), f ≤ F → f ≤ g → zdZ f a = true → zdZ f b = true → sameR (rowsF f (cpL g a) n) (rowsF f (cpL g b) n) = sameL F a b
  | 0,_,_,a,_,_,_,_,h,_=>by cases h
  | f+1,0,_,_,_,_,h,_,_,_=>by omega
  | f+1,F+1,0,_,_,_,_,h,_,_=>by omega
  | f+1,F+1,g+1,a,b,n,hF,hg,ha,hb=>by
    have ra:=ha
    have rb:=hb
    rw[zdZ,List.all_eq_true]at ha hb
    have IH:∀t∈subsL a,∀u∈subsL b,∀k,sameR (rowsF f (cpL g t) k) (rowsF f (cpL g u) k)=sameL F t u:=fun t ht u hu k=>by
      obtain⟨x,hx,ht⟩:=zgy.1 ht
      obtain⟨y,hy,hu⟩:=zgy.1 hu
      exact zkv f F g t u k (by omega) (by omega) (zjP (ha x hx) t ht) (zjP (hb y hy) u hu)
    have k1:=zku (g:=plF f) (C:=cpL g) (a:=a) (b:=b) (m:=n+1) (m':=n+1) ha hb
    have k2:=zmU (g:=plF f) (R:=fun t k=>rowsF f t k) (sl:=fun t u=>sameR (rowsF f t 0) (rowsF f u 0)) (A:=subsL (cpL (g+1) a)) (B:=subsL (cpL (g+1) b)) (m:=n+1) (fun t k=>zgx f t k) (fun t ht u hu k=>by
      rw[zgz]at ht hu
      obtain⟨t',ht',rfl⟩:=List.mem_map.1 ht
      obtain⟨u',hu',rfl⟩:=List.mem_map.1 hu
      rw[IH t' ht' u' hu' k,IH t' ht' u' hu' 0])
    have k3:=steps_iff (zn4 F) ha hb
    have k4:eqL (fun t u=>sameR (rowsF f t 0) (rowsF f u 0)) (subsL (cpL (g+1) a)) (subsL (cpL (g+1) b))=eqL (sameL F) (subsL a) (subsL b):=by
      rw[zgz,zgz]
      exact zhw fun t ht u hu=>IH t ht u hu 0
    rw[Bool.eq_iff_iff,sameL,k3,←k4,←k2,rowsF,rowsF]
    unfold sameR at k1⊢
    rw[eqL,Bool.and_eq_true]
    have e:cpL (g+1)=fun l=>l.map (cpS (cpL g)):=by funext l;rw[cpL]
    rw[e]
    rw[k1]
    constructor
    · rintro ⟨⟨q1,q2⟩,q3⟩
      exact⟨q1,q2,q3⟩
    · rintro ⟨q1,q2,q3⟩
      exact⟨⟨q1,q2⟩,q3⟩
end Go.Proofs.YtgmidllbkjdnnaaDoor.W
