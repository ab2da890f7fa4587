/- The functions of a program over trees of data: whole functions. -/
import Derived.Test.YtgmidllbkjdnnaaGreatDoorFlatM2
import Derived.Orders
import Derived.LoopN
import Derived.SizedLaws
import Derived.ChangeArms
import Derived.OpenShut
import Derived.ChangeSlices
import Derived.Lib.LaidTab
namespace Go.Proofs.YtgmidllbkjdnnaaGreatDoor.Flat
set_option linter.unusedVariables false
set_option linter.unusedSimpArgs false
set_option linter.unusedSectionVars false
variable [Glob]
def Local {α:Type} (m:M α):Prop:=∀s a s' r w,m s=some (a,s',r,w)→
 (∀l,l∉w→s'.getF l=s.getF l)∧
 ∀t:St,(∀l,l∈r∨l∈w→t.getF l=s.getF l)→∃t',m t=some (a,t',r,w)∧(∀l∈w,t'.getF l=s'.getF l)∧∀l,l∉w→t'.getF l=t.getF l
theorem M.bind_some' {α β:Type} {m:M α} {f:α→M β} {s s2:St} {b:β} {r w:List FL} (h:(m >>=f) s=some (b,s2,r,w)):∃a s1 r1 w1 r2 w2,m s=some (a,s1,r1,w1)∧f a s1=some (b,s2,r2,w2)∧r=r1++r2∧w=w1++w2:=by
 have h':M.bind m f s=some (b,s2,r,w):=h
 unfold M.bind at h'
 cases hm:m s with
 | none=>rw[hm]at h';cases h'
 | some p=>
  obtain⟨a,s1,r1,w1⟩:=p
  rw[hm]at h'
  dsimp only at h'
  cases hf:f a s1 with
  | none=>rw[hf]at h';cases h'
  | some q=>
   obtain⟨b',s2',r2,w2⟩:=q
   rw[hf]at h'
   dsimp only at h'
   cases h'
   exact⟨a,s1,r1,w1,r2,w2,rfl,hf,rfl,rfl⟩
theorem Local.pure {α:Type} (a:α):Local (M.pure a):=by
 intro s b s' r w h
 cases h
 exact⟨fun _ _=>rfl,fun t _=>⟨t,rfl,fun l hl=>(by cases hl),fun _ _=>rfl⟩⟩
theorem Local.fail {α:Type}:Local (M.fail:M α):=by
 intro s b s' r w h
 cases h
theorem Local.lift {α:Type} (o:Option α):Local (M.lift o):=by
 intro s b s' r w h
 cases o with
 | none=>cases h
 | some a=>
  cases h
  exact⟨fun _ _=>rfl,fun t _=>⟨t,rfl,fun l hl=>(by cases hl),fun _ _=>rfl⟩⟩
theorem Local.when (b:Bool):Local (M.when b):=by
 intro s u s' r w h
 cases b with
 | false=>cases h
 | true=>
  cases h
  exact⟨fun _ _=>rfl,fun t _=>⟨t,rfl,fun l hl=>(by cases hl),fun _ _=>rfl⟩⟩
theorem Local.get (l:Loc):Local (M.get l):=by
 intro s c s' r w h
 unfold M.get at h
 cases hl:s.get l with
 | none=>rw[hl]at h;cases h
 | some d=>
  rw[hl]at h
  cases h
  refine⟨fun _ _=>rfl,fun t ht=>⟨t, ?_,fun l hl=>(by cases hl),fun _ _=>rfl⟩⟩
  have e:t.get l=s.get l:=ht (.l l) (.inl (List.mem_singleton.2 rfl))
  unfold M.get
  rw[e,hl]
  rfl
theorem Local.getS (b:Nat):Local (M.getS b):=by
 intro s c s' r w h
 unfold M.getS at h
 cases hl:s.get (.bx b)with
 | none=>rw[hl]at h;cases h
 | some d=>
  rw[hl]at h
  cases h
  refine⟨fun _ _=>rfl,fun t ht=>⟨t, ?_,fun l hl=>(by cases hl),fun _ _=>rfl⟩⟩
  have e:t.getF (.sk b)=s.getF (.sk b):=ht (.sk b) (.inl (List.mem_singleton.2 rfl))
  unfold St.getF at e
  dsimp only at e
  rw[hl]at e
  cases ht2:t.get (.bx b)with
  | none=>rw[ht2]at e;cases e
  | some d2=>
   rw[ht2]at e
   unfold M.getS
   rw[ht2]
   have e2:d2.skel=d.skel:=Option.some.inj e
   show some (d2.skel,t,[FL.sk b],[])=_
   rw[e2]
theorem St.zgj (s:St) {l l':Loc} (c:Cell) (h:l'≠l):(s.put l c).get l'=s.get l':=by
 cases l with
 | tm i=>exact St.zfp s i c l' h
 | bx i=>exact St.zd2 s i c l' h
theorem Loc.zlf (l:Loc):FL.l l∈l.fl:=by cases l<;>simp[Loc.fl]
theorem St.zgM (s:St) {l:Loc} (c:Cell) {f:FL} (h:f∉l.fl):(s.put l c).getF f=s.getF f:=by
 cases f with
 | l l'=>
  refine St.zgj s c fun e=>h ?_
  rw[e]
  exact l.zlf
 | sk b=>
  show((s.put l c).get (.bx b)).map _=(s.get (.bx b)).map _
  rw[St.zgj s c fun e=>h (by rw[←e];simp[Loc.fl])]
theorem St.zlY (s t:St) {l:Loc} (c d d':Cell) (hs:s.get l=some d) (ht:t.get l=some d') {f:FL} (h:f∈l.fl):(s.put l c).getF f=(t.put l c).getF f:=by
 have e:(s.put l c).get l=(t.put l c).get l:=by rw[St.get_put s l c d hs,St.get_put t l c d' ht]
 cases l with
 | tm i=>
  rw[Loc.fl,List.mem_singleton]at h
  subst h
  exact e
 | bx i=>
  rw[Loc.fl,List.mem_cons,List.mem_singleton]at h
  rcases h with rfl | rfl
  ·exact e
  ·show((s.put (.bx i) c).get (.bx i)).map _=((t.put (.bx i) c).get (.bx i)).map _
   rw[e]
theorem Local.put (l:Loc) (c:Cell):Local (M.put l c):=by
 intro s u s' r w h
 unfold M.put at h
 cases hl:s.get l with
 | none=>rw[hl]at h;cases h
 | some d=>
  rw[hl]at h
  cases h
  refine⟨fun l' hl'=>St.zgM s c hl',fun t ht=> ?_⟩
  have e:t.get l=s.get l:=ht (.l l) (.inr l.zlf)
  refine⟨t.put l c, ?_,fun l' hl'=>St.zlY t s c d d (by rw[e,hl]) hl hl',fun l' hl'=>St.zgM t c hl'⟩
  unfold M.put
  rw[e,hl]
  rfl
mutual
theorem T.zlZ:∀(p:List Nat) (x:T) {y x':T},x.far p=true→x.rep p y=some x'→x'.skel=x.skel
 | [],x,y,x',h,_=>by rw[T.far]at h;cases h
 | i::p,.st fs,y,x',h,hr=>by
  rw[T.far]at h
  rw[T.rep]at hr
  cases hg:fs[i]? with
  | none=>rw[hg]at h;cases h
  | some z=>
   rw[hg]at h hr
   dsimp only at h hr
   cases hz:z.rep p y with
   | none=>rw[hz]at hr;cases hr
   | some z'=>
    rw[hz]at hr
    cases hr
    rw[T.skel,T.skel,zkO fs i hg (T.zlZ p z h hz)]
 | i::p,.xl sz xs,y,x',h,hr=>by
  rw[T.rep]at hr
  cases hg:xs[i]? with
  | none=>rw[hg]at hr;cases hr
  | some z=>
   rw[hg]at hr
   dsimp only at hr
   cases hz:z.rep p y with
   | none=>rw[hz]at hr;cases hr
   | some z'=>
    rw[hz]at hr
    cases hr
    rw[T.skel,T.skel]
 | i::p,.v _,y,x',h,_=>by simp[T.far]at h
 | i::p,.sl _ _ _,y,x',h,_=>by simp[T.far]at h
 | i::p,.op,y,x',h,_=>by simp[T.far]at h
theorem zkO:∀(fs:List T) (i:Nat) {z z':T},fs[i]?=some z→z'.skel=z.skel→skels (fs.set i z')=skels fs
 | [],i,z,z',h,_=>by simp at h
 | f::fs,0,z,z',h,e=>by
  simp at h
  subst h
  rw[List.set_cons_zero,skels,skels,e]
 | f::fs,i+1,z,z',h,e=>by
  rw[List.set_cons_succ,skels,skels,zkO fs i (by simpa using h) e]
end
theorem Local.bind {α β:Type} {m:M α} {f:α→M β} (hm:Local m) (hf:∀a,Local (f a)):Local (m >>=f):=by
 intro s b s2 r w h
 obtain⟨a,s1,r1,w1,r2,w2,h1,h2,rfl,rfl⟩:=M.bind_some' h
 obtain⟨a1,a2⟩:=hm s a s1 r1 w1 h1
 obtain⟨b1,b2⟩:=hf a s1 b s2 r2 w2 h2
 refine⟨fun l hl=> ?_,fun t ht=> ?_⟩
 ·rw[List.mem_append,not_or]at hl
  rw[b1 l hl.2,a1 l hl.1]
 ·obtain⟨t1,c1,c2,c3⟩:=a2 t (fun l hl=>ht l (hl.imp (List.mem_append_left _) (List.mem_append_left _)))
  obtain⟨t2,d1,d2,d3⟩:=b2 t1 (fun l hl=>by
   by_cases hw:l∈w1
   ·exact c2 l hw
   ·rw[c3 l hw,ht l (hl.imp (List.mem_append_right _) (List.mem_append_right _)),a1 l hw])
  refine⟨t2,M.ze9 c1 d1,fun l hl=> ?_,fun l hl=> ?_⟩
  ·by_cases hw:l∈w2
   ·exact d2 l hw
   ·rcases List.mem_append.1 hl with hl | hl
    ·rw[d3 l hw,c2 l hl,b1 l hw]
    ·exact absurd hl hw
  ·rw[List.mem_append,not_or]at hl
   rw[d3 l hl.2,c3 l hl.1]
theorem St.zpA {s t:St} (h:∀l,s.getF l=t.getF l):s=t:=by
 obtain⟨a,b⟩:=s
 obtain⟨c,d⟩:=t
 have h1:a=c:=List.ext_getElem? fun i=>h (.l (.tm i))
 have h2:b=d:=List.ext_getElem? fun i=>h (.l (.bx i))
 rw[h1,h2]
theorem zfd:∀{fs:List FL} {f:FL},f∈fs→(zfu fs).testBit f.code=true
 | g::fs,f,h=>by
  show(Nat.shiftLeft 1 g.code|||zfu fs).testBit f.code=true
  rw[Nat.testBit_or,Bool.or_eq_true]
  rcases List.mem_cons.1 h with rfl | h
  ·left
   show(1 <<< f.code).testBit f.code=true
   rw[Nat.one_shiftLeft,Nat.testBit_two_pow_self]
  ·exact .inr (zfd h)
theorem zjB {a b k:Nat} (h:Nat.beq (Nat.land a b) 0=true) (ha:a.testBit k=true) (hb:b.testBit k=true):False:=by
 have h0:a&&&b=0:=Nat.eq_of_beq_eq_true h
 have h1:(a&&&b).testBit k=true:=by rw[Nat.testBit_and,ha,hb];rfl
 rw[h0,Nat.zero_testBit]at h1
 cases h1
theorem zn5 {f g:List FL × List FL} (h:apart f g=true):(∀l∈f.2,l∉g.1∧l∉g.2)∧∀l∈g.2,l∉f.1:=by
 unfold apart at h
 rw[Bool.and_eq_true]at h
 refine⟨fun l hl=>⟨fun h1=>zjB h.1 (zfd hl) ?_,fun h1=>zjB h.1 (zfd hl) ?_⟩,fun l hl h1=>zjB h.2 (zfd hl) (zfd h1)⟩
 ·show(zfu g.1|||zfu g.2).testBit l.code=true
  rw[Nat.testBit_or,zfd h1]
  rfl
 ·show(zfu g.1|||zfu g.2).testBit l.code=true
  rw[Nat.testBit_or,zfd h1,Bool.or_true]
theorem Local.swap {m k : M Unit} (hm : Local m) (hk : Local k) {s s1 s2 : St} {u v : Unit} {r1 w1 r2 w2 : List FL} (h1 : m s = some (u, s1, r1, w1)) (h2 : k s1 = some (v, s2, r2, w2)) (ha : apart (r1, w1) (r2, w2) = true) :
  ∃t,k s=some (v,t,r2,w2)∧m t=some (u,s2,r1,w1):=by
 obtain⟨hw1,hw2⟩:=zn5 ha
 obtain⟨a1,a2⟩:=hm s u s1 r1 w1 h1
 obtain⟨b1,b2⟩:=hk s1 v s2 r2 w2 h2
 obtain⟨t,c1,c2,c3⟩:=b2 s (fun l hl=>(a1 l (fun hw=>hl.elim (hw1 l hw).1 (hw1 l hw).2)).symm)
 obtain⟨t2,d1,d2,d3⟩:=a2 t (fun l hl=>c3 l (fun hw=>hl.elim (hw2 l hw) (fun h=>(hw1 l h).2 hw)))
 refine⟨t,c1, ?_⟩
 have:t2=s2:=by
  refine St.zpA fun l=> ?_
  by_cases h1:l∈w1
  ·rw[d2 l h1,b1 l (hw1 l h1).2]
  ·rw[d3 l h1]
   by_cases h2:l∈w2
   ·exact c2 l h2
   ·rw[c3 l h2,b1 l h2,a1 l h1]
 rw[←this]
 exact d1
section
variable (e:Env)
theorem zfA (t:TypeId) (x:Operand):Local (rdO e t x):=by
 unfold rdO
 repeat' first | exact Local.pure _ | exact Local.fail | exact Local.get _ | exact Local.put _ _ | exact Local.lift _ | exact Local.when _ | refine Local.bind ?_ fun _=> ?_ | split
theorem zin (x:Operand):Local (rdV x):=by
 unfold rdV
 repeat' first | exact Local.pure _ | exact Local.fail | exact Local.get _ | exact Local.put _ _ | exact Local.lift _ | exact Local.when _ | refine Local.bind ?_ fun _=> ?_ | split
theorem zkP (x:Operand):Local (rdS x):=by
 unfold rdS
 repeat' first | exact Local.pure _ | exact Local.fail | exact Local.get _ | refine Local.bind ?_ fun _=> ?_ | split
theorem zn6 (x:Operand):Local (rdI x):=by
 unfold rdI
 repeat' first | exact zin _ | exact Local.pure _ | exact Local.fail | exact Local.get _ | exact Local.put _ _ | exact Local.lift _ | exact Local.when _ | refine Local.bind ?_ fun _=> ?_ | split
theorem zhs (l:Loc) (n:Nat):Local (rdAt l n):=by
 unfold rdAt
 repeat' first | exact Local.pure _ | exact Local.fail | exact Local.get _ | exact Local.put _ _ | exact Local.lift _ | exact Local.when _ | refine Local.bind ?_ fun _=> ?_ | split
theorem zf5 (l:Loc) (p:List Nat) (n:Nat):Local (rdX l p n):=Local.bind (zhs _ _) fun _=>Local.lift _
theorem ziM (l:Loc) (p:List Nat) (n:Nat):Local (takeX l p n):=by
 intro s u s' r w h
 unfold takeX at h
 obtain⟨d,s1,r1,w1,r2,w2,h1,h2,rfl,rfl⟩:=M.bind_some' h
 have h1':=h1
 obtain⟨g1,rfl⟩:=M.za4 h1
 have hrw:r1=[.l l]∧w1=[]:=by
  unfold M.get at h1'
  rw[g1]at h1'
  cases h1'
  exact⟨rfl,rfl⟩
 obtain⟨rfl,rfl⟩:=hrw
 obtain⟨_,s2,r3,w3,r4,w4,h3,h4,rfl,rfl⟩:=M.bind_some' h2
 have h3':=h3
 obtain⟨g3,rfl⟩:=M.zam h3
 have hrw:r3=[]∧w3=[]:=by
  unfold M.when at h3'
  rw[if_pos g3]at h3'
  cases h3'
  exact⟨rfl,rfl⟩
 obtain⟨rfl,rfl⟩:=hrw
 cases hdv:d.val with
 | t x=>
  simp only[hdv]at h4
  obtain⟨z,s3,r5,w5,r6,w6,h5,h6,rfl,rfl⟩:=M.bind_some' h4
  have h5':=h5
  obtain⟨g5,rfl⟩:=M.zar h5
  have hrw:r5=[]∧w5=[]:=by
   unfold M.lift at h5'
   rw[g5]at h5'
   cases h5'
   exact⟨rfl,rfl⟩
  obtain⟨rfl,rfl⟩:=hrw
  obtain⟨x',s4,r7,w7,r8,w8,h7,h8,rfl,rfl⟩:=M.bind_some' h6
  have h7':=h7
  obtain⟨g7,rfl⟩:=M.zar h7
  have hrw:r7=[]∧w7=[]:=by
   unfold M.lift at h7'
   rw[g7]at h7'
   cases h7'
   exact⟨rfl,rfl⟩
  obtain⟨rfl,rfl⟩:=hrw
  obtain⟨_,s5,r9,w9,ra,wa,h9,h10,rfl,rfl⟩:=M.bind_some' h8
  have h9':=h9
  obtain⟨_,rfl⟩:=M.zkE h9
  have hrw:r9=[]∧w9=if x.far p=true then [.l l]else l.fl:=by
   unfold M.putK at h9'
   rw[g1]at h9'
   cases h9'
   exact⟨rfl,rfl⟩
  obtain⟨rfl,rfl⟩:=hrw
  have hpu:u=.t z∧s'=s.put l {d with val:=.t x'}∧ra=[]∧wa=[]:=by cases h10;exact⟨rfl,rfl,rfl,rfl⟩
  obtain⟨rfl,rfl,rfl,rfl⟩:=hpu
  have hsub:∀f,f∈(if x.far p=true then [FL.l l]else l.fl)→f∈l.fl:=by
   intro f hf
   by_cases hk:x.far p=true
   ·rw[if_pos hk,List.mem_singleton]at hf
    subst hf
    exact l.zlf
   ·rw[if_neg hk]at hf
    exact hf
  have hsk:x.far p=true→Cell.skel {d with val:=.t x'}=Cell.skel d:=by
   intro hk
   have e:=T.zlZ p x hk g7
   unfold Cell.skel
   rw[hdv]
   dsimp only
   rw[e]
  have out:∀(q:St),q.get l=some d→∀f,f∉(if x.far p=true then [FL.l l]else l.fl)→(q.put l {d with val:=.t x'}).getF f=q.getF f:=by
   intro q hq f hf
   by_cases hk:x.far p=true
   ·rw[if_pos hk,List.mem_singleton]at hf
    cases f with
    | l l'=>exact St.zgj q _ fun e=>hf (by rw[e])
    | sk b=>
     by_cases hb:l=.bx b
     ·subst hb
      show((q.put (.bx b) _).get (.bx b)).map _=(q.get (.bx b)).map _
      rw[St.get_put q (.bx b) _ d hq,hq]
      exact congrArg some (hsk hk)
     ·show((q.put l _).get (.bx b)).map _=(q.get (.bx b)).map _
      rw[St.zgj q _ fun e=>hb e.symm]
   ·rw[if_neg hk]at hf
    exact St.zgM q _ hf
  simp only[List.nil_append,List.append_nil]
  refine⟨out s g1,fun t ht=> ?_⟩
  have e:t.get l=s.get l:=ht (.l l) (.inl (by simp))
  have et:t.get l=some d:=by rw[e,g1]
  refine⟨t.put l {d with val:=.t x'}, ?_,fun f hf=>St.zlY t s _ d d et g1 (hsub f hf),out t et⟩
  unfold takeX
  refine M.ze9 (r1:=[.l l]) (w1:=[]) (r2:=[]) (s1:=t) (a:=d) (by unfold M.get;rw[et];rfl) ?_
  refine M.ze9 (r1:=[]) (w1:=[]) (r2:=[]) (s1:=t) (a:=()) (by unfold M.when;rw[if_pos g3]) ?_
  simp only[hdv]
  refine M.ze9 (r1:=[]) (w1:=[]) (r2:=[]) (s1:=t) (a:=z) (by unfold M.lift;rw[g5];rfl) ?_
  refine M.ze9 (r1:=[]) (w1:=[]) (r2:=[]) (s1:=t) (a:=x') (by unfold M.lift;rw[g7];rfl) ?_
  have hp:M.putK (x.far p) l {d with val:=.t x'} t=some ((),t.put l {d with val:=.t x'},[],if x.far p=true then [.l l]else l.fl):=by unfold M.putK;rw[et];rfl
  have:=M.ze9 (f:=fun _=>M.pure (AV.t z)) hp (rfl:M.pure (AV.t z) (t.put l {d with val:=.t x'})=some (.t z,t.put l {d with val:=.t x'},[],[]))
  rw[List.append_nil,List.append_nil]at this
  exact this
 | _=>simp only[hdv]at h4;exact(M.zt h4).elim
theorem zg9 (dst:Option Nat) (k:Bool) (l:Loc) (p:List Nat) (n:Nat):Local (wrX dst k l p n):=by
 unfold wrX
 repeat' first | exact Local.pure _ | exact Local.fail | exact Local.get _ | exact Local.put _ _ | exact Local.lift _ | exact Local.when _ | refine Local.bind ?_ fun _=> ?_ | split
theorem zkQ (x:Operand):Local (rdL x):=by
 unfold rdL
 repeat' first | exact Local.pure _ | exact Local.fail | exact Local.get _ | exact Local.put _ _ | exact Local.lift _ | exact Local.when _ | refine Local.bind ?_ fun _=> ?_ | split
theorem zgN (i:Nat):Local (takeO i):=by
 unfold takeO
 repeat' first | exact ziM _ _ _ | exact Local.pure _ | exact Local.fail | exact Local.get _ | exact Local.put _ _ | exact Local.lift _ | exact Local.when _ | refine Local.bind ?_ fun _=> ?_ | split
theorem zfB (t:TypeId) (x:Operand):Local (mvO e t x):=by
 unfold mvO
 repeat' first | exact ziM _ _ _ | exact zfA e _ _ | exact Local.pure _ | exact Local.fail | exact Local.get _ | exact Local.put _ _ | exact Local.lift _ | exact Local.when _ | refine Local.bind ?_ fun _=> ?_ | split
theorem zl0 (t:TypeId) (x:Operand):Local (mvTup e t x):=by
 unfold mvTup
 repeat' first | exact zfB e _ _ | exact zfA e _ _ | exact Local.pure _ | exact Local.fail | exact Local.get _ | refine Local.bind ?_ fun _=> ?_ | split
theorem ziN (b:Bool) (t:TypeId) (x:Operand):Local (mvFin e b t x):=by
 unfold mvFin
 repeat' first | exact zfB e _ _ | exact zgN _ | exact Local.pure _ | exact Local.fail | exact Local.get _ | exact Local.put _ _ | exact Local.lift _ | exact Local.when _ | refine Local.bind ?_ fun _=> ?_ | split
theorem zeU (dst:Option Nat) (x:AV) (og:Option (Loc × List Nat × Nat)):Local (wr dst x og):=by
 unfold wr
 split
 ·exact Local.pure _
 ·exact Local.bind (Local.get _) fun c=>Local.put _ _
theorem zmV (dst:Option Nat) (n:Nat) (i:Int) (l:Loc) (p:List Nat) (m:Nat):Local (idxX dst n i l p m):=by
 unfold idxX
 repeat' first | exact zf5 _ _ _ | exact zg9 _ _ _ _ _ | exact zeU _ _ _ | exact Local.pure _ | exact Local.fail | exact Local.get _ | exact Local.put _ _ | exact Local.lift _ | exact Local.when _ | refine Local.bind ?_ fun _=> ?_ | split
theorem zmW (dst:Option Nat) (l:Loc) (p:List Nat) (m:Nat):Local (lenX dst l p m):=by
 unfold lenX
 repeat' first | exact zf5 _ _ _ | exact zeU _ _ _ | exact Local.pure _ | exact Local.fail | exact Local.get _ | exact Local.put _ _ | exact Local.lift _ | exact Local.when _ | refine Local.bind ?_ fun _=> ?_ | split
theorem zmX (el:TypeId) (n bytes:Nat) (dst:Option Nat) (sz:Nat) (xs:List T) (u:TypeId) (y:Operand):Local (appX e el n bytes dst sz xs u y):=by
 unfold appX
 repeat' first | exact zfB e _ _ | exact zeU _ _ _ | exact Local.pure _ | exact Local.fail | exact Local.get _ | exact Local.put _ _ | exact Local.lift _ | exact Local.when _ | refine Local.bind ?_ fun _=> ?_ | split
theorem zjC:∀xs:List (Operand × TypeId),Local (lent e xs)
 | []=>Local.pure _
 | (x,t)::xs=>by
  rw[lent]
  refine Local.bind (zkQ _) fun g=>Local.bind ?_ fun y=> ?_
  ·cases g with
   | none=>exact zfA e _ _
   | some g=>exact Local.bind (zf5 _ _ _) fun _=>Local.pure _
  ·split
   ·exact Local.bind (zjC xs) fun _=>Local.pure _
   ·exact Local.fail
theorem zlg (o:Oper) (f:FuncId) (xs:List (Operand × TypeId)):Local (zjh e o f xs):=by
 unfold zjh
 refine Local.bind (zjC e _) fun _=>Local.bind (Local.lift _) fun p=> ?_
 repeat' first | exact zeU _ _ _ | exact Local.pure _ | exact Local.fail | exact Local.get _ | exact Local.put _ _ | exact Local.lift _ | exact Local.when _ | refine Local.bind ?_ fun _=> ?_ | split
theorem zjD (x:Operand):Local (rdPS x):=by
 unfold rdPS
 repeat' first | exact Local.pure _ | exact Local.fail | exact Local.get _ | exact Local.getS _ | exact Local.put _ _ | exact Local.lift _ | exact Local.when _ | refine Local.bind ?_ fun _=> ?_ | split
theorem zkR (x:Operand):Local (rdP x):=by
 unfold rdP
 repeat' first | exact Local.pure _ | exact Local.fail | exact Local.get _ | exact Local.put _ _ | exact Local.lift _ | exact Local.when _ | refine Local.bind ?_ fun _=> ?_ | split
theorem zl1 (b:Bool) (x:AV):Local (seal1 b x):=by
 unfold seal1
 repeat' first | exact Local.pure _ | exact Local.fail | exact Local.get _ | exact Local.put _ _ | exact Local.lift _ | exact Local.when _ | refine Local.bind ?_ fun _=> ?_ | split
theorem zgO (f:FuncId):∀(i:Nat) (xs:List AV),Local (seals e f i xs)
 | _,[]=>Local.pure _
 | i,x::xs=>by
  rw[seals]
  exact Local.bind (zl1 _ _) fun _=>Local.bind (zgO f _ _) fun _=>Local.pure _
theorem zl2 (f:FuncId) (i:Nat) (x:Operand) (t:TypeId):Local (rdArg e f i x t):=by
 unfold rdArg
 repeat' first | exact zgO e _ _ _ | exact zgN _ | exact zfA e _ _ | exact Local.pure _ | exact Local.fail | exact Local.get _ | exact Local.put _ _ | exact Local.lift _ | exact Local.when _ | refine Local.bind ?_ fun _=> ?_ | split
theorem zhU (f:FuncId):∀(i:Nat) (xs:List (Operand × TypeId)),Local (zie e f i xs)
 | _,[]=>Local.pure _
 | i,(x,t)::xs=>by
  rw[zie]
  exact Local.bind (zl2 e _ _ _ _) fun _=>Local.bind (zhU f _ _) fun _=>Local.pure _
theorem zgP (ps:List (Nat × Nat)):∀(bs:List Nat),Local (handOver ps bs)
 | []=>Local.pure _
 | b::bs=>by
  rw[handOver]
  refine Local.bind (Local.get _) fun d=>Local.bind (Local.when _) fun _=> ?_
  split
  ·exact Local.bind (Local.put _ _) fun _=>Local.bind (zgP ps bs) fun _=>Local.pure _
  ·exact Local.fail
theorem zhV:∀(bs:List Nat) (xs:List AV),Local (zjf bs xs)
 | [],[]=>Local.pure _
 | [],_::_=>Local.fail
 | _::_,[]=>Local.fail
 | b::bs,x::xs=>by
  cases x with
  | t x=>exact Local.bind (Local.get _) fun d=>Local.bind (Local.put _ _) fun _=>zhV bs xs
  | _=>exact Local.fail
theorem zjE:∀(bs:List Nat),Local (held bs)
 | []=>Local.pure _
 | b::bs=>by
  rw[held]
  refine Local.bind (Local.get _) fun d=> ?_
  split
  ·exact Local.fail
  ·exact zjE bs
theorem zlh (o:Oper) (f:FuncId) (xs:List (Operand × TypeId)) (more:List AV) (sb0:List Nat):Local (zho e o f xs more sb0):=by
 unfold zho
 refine Local.bind (zhU e _ _ _) fun p=> ?_
 obtain⟨ys,sb⟩:=p
 exact Local.bind (Local.when _) fun _=>Local.bind (zgP _ _) fun _=>Local.bind (zjE _) fun _=>Local.bind (Local.lift _) fun _=>Local.bind (Local.when _) fun _=>Local.bind (zhV _ _) fun _=>zeU _ _ _
theorem zf6 (ts:List TypeId):∀(ps:List (Nat × Operand)) (fs:List T),Local (zeR e ts ps fs)
 | [],_=>Local.pure _
 | (i,x)::r,fs=>by
  rw[zeR]
  refine Local.bind (Local.lift _) fun t=>Local.bind (Local.lift _) fun old=>Local.bind (zfB e _ _) fun y=> ?_
  split
  ·exact Local.bind (Local.when _) fun _=>zf6 ts r _
  ·exact Local.fail
theorem zf7 (t:TypeId):∀(ps:List (Nat × Operand)) (fs:List T),Local (zfb e t ps fs)
 | [],_=>Local.pure _
 | (i,x)::r,fs=>by
  rw[zfb]
  refine Local.bind (Local.lift _) fun old=>Local.bind (zfA e _ _) fun y=> ?_
  split
  ·exact Local.bind (Local.when _) fun _=>zf7 t r _
  ·exact Local.fail
theorem zjF:∀(xs:List Operand),Local (rdVs xs)
 | []=>Local.pure _
 | x::xs=>by
  rw[rdVs]
  exact Local.bind (zin _) fun _=>Local.bind (zjF xs) fun _=>Local.pure _
theorem zl3 (x:Operand):Local (rdCap x):=by
 unfold rdCap
 repeat' first | exact Local.pure _ | exact Local.fail | exact Local.get _ | exact Local.put _ _ | exact Local.lift _ | exact Local.when _ | refine Local.bind ?_ fun _=> ?_ | split
theorem zhW:∀(xs:List Operand),Local (zjg xs)
 | []=>Local.pure _
 | x::xs=>by
  rw[zjg]
  exact Local.bind (zl3 _) fun _=>Local.bind (zhW xs) fun _=>Local.pure _
theorem zn7 (x:Operand):Local (rdM x):=by
 unfold rdM
 repeat' first | exact Local.pure _ | exact Local.fail | exact Local.get _ | exact Local.put _ _ | exact Local.lift _ | exact Local.when _ | refine Local.bind ?_ fun _=> ?_ | split
theorem zmY (o:Oper) (op:BinOp) (t:TypeId) (y:Operand) (fs:List T):Local (binS e o op t y fs):=by
 unfold binS
 repeat' first | exact zkP _ | exact zeU _ _ _ | exact Local.fail | exact Local.lift _ | refine Local.bind ?_ fun _=> ?_ | split
theorem zl4 (o:Oper) (t:TypeId) (pl:Pl):Local (loadP e o t pl):=by
 unfold loadP
 repeat' (with_reducible first | exact zeU _ _ _ | exact zg9 _ _ _ _ _ | exact zhs _ _ | exact Local.pure _ | exact Local.fail | exact Local.get _ | exact Local.put _ _ | exact Local.lift _ | exact Local.when _ | refine Local.bind ?_ fun _=> ?_ | split)
theorem zli (o:Oper) (t:TypeId) (a x:Operand) (pl:Pl):Local (zji e o t a x pl):=by
 unfold zji
 repeat' (with_reducible first | exact zeU _ _ _ | exact ziN e _ _ _ | exact zfB e _ _ | exact zkR _ | exact zjD _ | exact Local.pure _ | exact Local.fail | exact Local.get _ | exact Local.put _ _ | exact Local.lift _ | exact Local.when _ | refine Local.bind ?_ fun _=> ?_ | split)
theorem zlj (o:Oper) (f q:Nat) (c:Cell):Local (zif o f q c):=by
 unfold zif
 repeat' (with_reducible first | exact zeU _ _ _ | exact zg9 _ _ _ _ _ | exact zf5 _ _ _ | exact Local.pure _ | exact Local.fail | exact Local.get _ | exact Local.put _ _ | exact Local.lift _ | exact Local.when _ | refine Local.bind ?_ fun _=> ?_ | split)
theorem zlk (el:TypeId) (len:Nat) (dst:Option Nat) (fs:List T) (i:Int):Local (zjj e el len dst fs i):=
 Local.bind (Local.when _) fun _=>Local.bind (Local.lift _) fun _=>zeU _ _ _
theorem zmZ (o:Oper):Local (fire e o):=by
 unfold fire
 repeat' (with_reducible first | exact zkP _ | exact zmY e _ _ _ _ _ | exact zn7 _ | exact zl4 e _ _ _ | exact zli e _ _ _ _ _ | exact zlj _ _ _ _ | exact zlk e _ _ _ _ _ | exact zkQ _ | exact zf5 _ _ _ | exact zhs _ _ | exact zg9 _ _ _ _ _ | exact zmV _ _ _ _ _ _ | exact zmW _ _ _ _ | exact zmX e _ _ _ _ _ _ _ _ | exact zlg e _ _ _ | exact Local.pure _ | exact Local.fail | exact Local.get _ | exact Local.put _ _ | exact Local.lift _ | exact Local.when _ | exact zeU _ _ _ | exact zfA e _ _ | exact zin _ | exact zn6 _ | exact zgN _ | exact zfB e _ _ | exact ziN e _ _ _ | exact zl0 e _ _ | exact zkR _ | exact zjD _ | exact zlh e _ _ _ _ _ | exact zgO e _ _ _ | exact zf6 e _ _ _ | exact zf7 e _ _ _ | exact zjF _ | exact zhW _ | refine Local.bind ?_ fun _=> ?_ | split)
theorem zl5 (ops:Array Oper) (o:Oper):Local (wants ops o):=by
 unfold wants
 repeat' first | exact Local.pure _ | exact Local.fail | exact Local.get _ | exact Local.put _ _ | exact Local.lift _ | exact Local.when _ | refine Local.bind ?_ fun _=> ?_ | split
theorem ziO (ops:Array Oper) (o:Oper):Local (fire1 e ops o):=by
 unfold fire1
 refine Local.bind (zl5 _ _) fun b=> ?_
 cases b with
 | true=>exact zmZ e o
 | false=>exact zeU _ _ _
end
end Go.Proofs.YtgmidllbkjdnnaaGreatDoor.Flat
namespace Go.Proofs.YtgmidllbkjdnnaaGreatDoor.Flat
set_option linter.unusedVariables false
set_option linter.unusedSimpArgs false
set_option linter.unusedSectionVars false
variable [Glob]
section
variable {en:Env} {e:Ent} {w:World} {E:Nat→Nat} {β:Bm} {τ:Loc→List Nat} {a:Act} {s s':St} {o:Oper} {r q:List FL} {u:Unit} {ops:Array Oper}
theorem zl6 (h:Sim e w E β τ a s) {b:Bool} (hr:wants ops o s=some (b,s',r,q)):s=s'∧Region.wanted o (yielded ops a.tmps)=b:=by
 unfold wants at hr
 unfold Region.wanted
 cases hg:o.guard with
 | none=>
  rw[hg]at hr
  obtain⟨rfl,rfl⟩:=M.zO (s:=s) hr
  exact⟨rfl,rfl⟩
 | some p=>
  obtain⟨j,want⟩:=p
  rw[hg]at hr
  dsimp only at hr⊢
  cases hd:(ops[j]?).bind (·.dst)with
  | none=>rw[hd]at hr;exact(M.zt (s:=s) hr).elim
  | some d=>
   rw[hd]at hr
   obtain⟨c,s1,_,_,_,_,h1,h2⟩:=M.bind_some hr
   obtain⟨g1,rfl⟩:=M.za4 h1
   have hv:=h.tm d c g1
   have hlt:d < a.tmps.size:=by rw[h.len];exact(List.getElem?_eq_some_iff.1 (show s.tm[d]?=some c from g1)).1
   have hy:yielded ops a.tmps j=match a.tmps.getD d undef with | .bool b=>some b | _=>none:=by
    unfold yielded
    rw[hd]
    have e1:a.tmps[d]?=some (a.tmps.getD d undef):=by simp[hlt]
    show(match a.tmps[d]? with | some (.bool b)=>some b | _=>none)=_
    rw[e1]
    cases a.tmps.getD d undef<;>rfl
   rw[hy]
   cases hcv:c.val with
   | t x=>
    cases x with
    | v y=>
     cases y with
     | bool b'=>
      simp only[hcv]at h2
      obtain⟨rfl,rfl⟩:=M.zO h2
      rw[hcv,RepV]at hv
      obtain⟨e1,_⟩:=zgf hv
      rw[e1]
      exact⟨rfl,by cases b'<;>cases want<;>rfl⟩
     | _=>simp only[hcv]at h2;exact(M.zt h2).elim
    | _=>simp only[hcv]at h2;exact(M.zt h2).elim
   | nd=>
    simp only[hcv]at h2
    obtain⟨rfl,rfl⟩:=M.zO h2
    rw[hcv,RepV]at hv
    rw[hv.1]
    exact⟨rfl,rfl⟩
   | _=>simp only[hcv]at h2;exact(M.zt h2).elim
theorem zl7 (hcall : ∀ f args fb r outs, en.call f args fb = some (r, outs) → zeQ en.P f args fb r outs) (h : Sim e w E β τ a s) {i : Nat} (hi : ops[i]? = some o) (hf : fire1 en ops o s = some (u, s', r, q)) {K : Act → World → Prop} {Q : Exit → Act → World → Prop}
  (hK:∀a' w' E' β' τ',Sim e w' E' β' τ' a' s'→K a' w'):wpOp en.P ops Q i K a w:=by
 unfold wpOp
 rw[hi]
 dsimp only
 obtain⟨b,s1,_,_,_,_,h1,h2⟩:=M.bind_some hf
 obtain⟨rfl,hw⟩:=zl6 h h1
 rw[hw]
 cases b with
 | true=>
  rw[if_pos rfl]
  exact .inl (zpz hcall h h2 fun v w' E' β' τ' k=>hK _ _ _ _ _ k)
 | false=>
  rw[if_neg Bool.false_ne_true]
  obtain⟨τ',k⟩:=Sim.wr h h2 (v:=undef) (B:=[]) (by rw[RepV];exact⟨rfl,rfl⟩) zd1 zdP
  exact hK _ _ _ _ _ k
theorem zkS (hcall:∀f args fb r outs,en.call f args fb=some (r,outs)→zeQ en.P f args fb r outs) {Q:Exit→Act→World→Prop}:∀{os:List Oper} {k:Nat} {s:St} {a:Act} {w:World} {E:Nat→Nat} {β:Bm} {τ:Loc→List Nat} {s':St} {fs:List (List FL × List FL)},(∀j,ops[k+j]?=os[j]?)→Sim e w E β τ a s→zfh en ops os s=some (s',fs)→
  (∀a' w' E' β' τ',Sim e w' E' β' τ' a' s'→Q .normal a' w')→wpOps en.P ops Q (List.range' k os.length) a w
 | [],k,s,a,w,E,β,τ,s',fs,hk,h,hr,hQ=>by
  rw[zfh]at hr
  cases hr
  exact hQ _ _ _ _ _ h
 | o::os,k,s,a,w,E,β,τ,s',fs,hk,h,hr,hQ=>by
  rw[zfh]at hr
  cases h1:fire1 en ops o s with
  | none=>rw[h1]at hr;cases hr
  | some p=>
   obtain⟨u,s1,r1,w1⟩:=p
   rw[h1]at hr
   dsimp only at hr
   cases h2:zfh en ops os s1 with
   | none=>rw[h2]at hr;cases hr
   | some p2=>
    obtain⟨s2,fs2⟩:=p2
    rw[h2]at hr
    cases hr
    rw[List.length_cons,List.range'_succ,wpOps_cons]
    refine zl7 hcall h (by simpa using hk 0) h1 fun a' w' E' β' τ' k'=> ?_
    exact zkS hcall (fun j=>by have:=hk (j+1);rw[List.getElem?_cons_succ]at this;rw[←this];congr 1;omega) k' h2 hQ
end
def RunL (en:Env) (ops:Array Oper) (F:Nat→List FL × List FL):List Nat→St→St→Prop
 | [],s,s'=>s=s'
 | i::L,s,s'=>∃o s1,ops[i]?=some o∧fire1 en ops o s=some ((),s1,(F i).1,(F i).2)∧RunL en ops F L s1 s'
theorem RunL.front {en:Env} {ops:Array Oper} {F:Nat→List FL × List FL} {i:Nat} {L2:List Nat}:∀{L1:List Nat} {s s':St},RunL en ops F (L1++i::L2) s s'→(∀j∈L1,apart (F j) (F i)=true)→RunL en ops F (i::(L1++L2)) s s'
 | [],s,s',h,_=>h
 | j::L1,s,s',h,ha=>by
  obtain⟨o,s1,h1,h2,h3⟩:=h
  obtain⟨o',s2,k1,k2,k3⟩:=RunL.front h3 fun j' hj'=>ha j' (List.mem_cons_of_mem _ hj')
  obtain⟨t,m1,m2⟩:=Local.swap (ziO en ops o) (ziO en ops o') h2 k2 (ha j (List.mem_cons_self ..))
  exact⟨o',t,k1,m1,o,s2,h1,m2,k3⟩
theorem zl8 {en:Env} {ops:Array Oper} {F:Nat→List FL × List FL}:∀{os:List Oper} {k:Nat} {s s':St} {fs:List (List FL × List FL)},(∀j,ops[k+j]?=os[j]?)→(∀(j:Nat) (p:List FL × List FL),fs[j]?=some p→F (k+j)=p)→zfh en ops os s=some (s',fs)→RunL en ops F (List.range' k os.length) s s'∧fs.length=os.length
 | [],k,s,s',fs,hk,hF,hr=>by rw[zfh]at hr;cases hr;exact⟨rfl,rfl⟩
 | o::os,k,s,s',fs,hk,hF,hr=>by
  rw[zfh]at hr
  cases h1:fire1 en ops o s with
  | none=>rw[h1]at hr;cases hr
  | some p=>
   obtain⟨u,s1,r1,w1⟩:=p
   rw[h1]at hr
   dsimp only at hr
   cases h2:zfh en ops os s1 with
   | none=>rw[h2]at hr;cases hr
   | some p2=>
    obtain⟨s2,fs2⟩:=p2
    rw[h2]at hr
    cases hr
    obtain⟨k1,k2⟩:=zl8 (k:=k+1) (fun j=>by have:=hk (j+1);rw[List.getElem?_cons_succ]at this;rw[←this];congr 1;omega) (fun j p hp=>by have:=hF (j+1) p (by rw[List.getElem?_cons_succ];exact hp);rw[←this];congr 1;omega) h2
    rw[List.length_cons,List.range'_succ]
    have hFk:F k=(r1,w1):=hF 0 _ rfl
    exact⟨⟨o,s1,by simpa using hk 0,by rw[hFk];exact h1,k1⟩,by simp[k2]⟩
def BefOk (ops:Array Oper) (b:Array Nat) (i:Nat):Prop:=∀j,zeI b j i=true→∃o e,ops[i]?=some o∧e∈o.after.toList∧Region.binds .any e=true∧(e.on=j∨zeI b j e.on=true)
theorem zl9 {acc:Array Nat} {j:Nat}:∀(es:List Edge) (n:Nat),(es.foldl (fun s e=>if Region.binds .any e then s|||2 ^ e.on|||acc.getD e.on 0 else s) n).testBit j=true→n.testBit j=true∨∃e∈es,Region.binds .any e=true∧(e.on=j∨zeI acc j e.on=true)
 | [],n,h=>.inl h
 | e::es,n,h=>by
  rw[List.foldl_cons]at h
  rcases zl9 es _ h with h | ⟨e',he,hb⟩
  ·by_cases hb:Region.binds .any e=true
   ·rw[if_pos hb]at h
    rw[Nat.testBit_or,Nat.testBit_or,Nat.testBit_two_pow]at h
    simp only[Bool.or_eq_true,decide_eq_true_eq]at h
    rcases h with (h | h) | h
    ·exact .inl h
    ·exact .inr ⟨e,List.mem_cons_self ..,hb,.inl h⟩
    ·exact .inr ⟨e,List.mem_cons_self ..,hb,.inr h⟩
   ·rw[if_neg hb]at h
    exact .inl h
  ·exact .inr ⟨e',List.mem_cons_of_mem _ he,hb⟩
theorem zhj {acc:Array Nat} {n i j:Nat} (h:zeI acc j i=true):zeI (acc.push n) j i=true:=by
 unfold zeI at h⊢
 by_cases hi:i < acc.size
 ·have:(acc.push n).getD i 0=acc.getD i 0:=by
   simp[Array.getElem?_push,Nat.ne_of_lt hi]
  rw[this]
  exact h
 ·have:acc.getD i 0=0:=by simp[Nat.le_of_not_lt hi]
  rw[this]at h
  simp at h
theorem zma {ops:Array Oper}:∀(os:List Oper) (acc:Array Nat),(∀j,ops[acc.size+j]?=os[j]?)→(∀i,i < acc.size→BefOk ops acc i)→∀i,BefOk ops (os.foldl (fun acc o=>acc.push (o.after.foldl (fun s e=>if Region.binds .any e then s|||2 ^ e.on|||acc.getD e.on 0 else s) 0)) acc) i
 | [],acc,hk,h,i=>by
  by_cases hi:i < acc.size
  ·exact h i hi
  ·intro j hj
   unfold zeI at hj
   have:acc.getD i 0=0:=by simp[Nat.le_of_not_lt hi]
   rw[List.foldl_nil,this]at hj
   simp at hj
 | o::os,acc,hk,h,i=>by
  rw[List.foldl_cons]
  refine zma os _ (fun j=> ?_) (fun i hi j hj=> ?_) i
  ·have:=hk (j+1)
   rw[List.getElem?_cons_succ]at this
   rw[←this,Array.size_push]
   congr 1
   omega
  ·rw[Array.size_push]at hi
   by_cases hi':i < acc.size
   ·have hj':zeI acc j i=true:=by
     unfold zeI at hj⊢
     rw[←hj]
     congr 1
     simp[Array.getElem?_push,Nat.ne_of_lt hi']
    obtain⟨o',e,h1,h2,h3,h4⟩:=h i hi' j hj'
    exact⟨o',e,h1,h2,h3,h4.imp id zhj⟩
   ·have hie:i=acc.size:=by omega
    subst hie
    have ho:ops[acc.size]?=some o:=by have:=hk 0;simpa using this
    unfold zeI at hj
    have hget:∀n:Nat,(acc.push n).getD acc.size 0=n:=fun n=>by simp
    rw[hget,←Array.foldl_toList]at hj
    rcases zl9 _ _ hj with hz | ⟨e,he,hb,h4⟩
    ·simp at hz
    ·exact⟨o,e,ho,he,hb,h4.imp id zhj⟩
theorem zn8 (ops:Array Oper) (i:Nat):BefOk ops (Region.before ops) i:=by
 unfold Region.before
 rw[←Array.foldl_toList]
 exact zma ops.toList #[] (fun j=>by simp) (fun i hi=>by simp at hi) i
theorem zjG:∀{os:List Oper} {k i:Nat} {o:Oper} {e:Edge},zhF k os=true→os[i]?=some o→e∈o.after.toList→Region.binds .any e=true→e.on < k+i
 | [],k,i,o,e,h,ho,he,hb=>by simp at ho
 | o'::os,k,i,o,e,h,ho,he,hb=>by
  rw[zhF,Bool.and_eq_true]at h
  cases i with
  | zero=>
   simp at ho
   subst ho
   have:=List.all_eq_true.1 h.1 e he
   rw[hb]at this
   simpa using this
  | succ i=>
   have:=zjG h.2 (by simpa using ho) he hb
   omega
theorem mem_ready' {ops:Array Oper} {listed:Array Bool} {i:Nat}:i∈Region.ready .any ops listed↔i < ops.size∧listed.getD i true=false∧∃o,ops[i]?=some o∧∀e∈o.after.toList,Region.binds .any e=true→listed.getD e.on false=true:=by
 unfold Region.ready
 rw[List.mem_filter,List.mem_range]
 constructor
 ·rintro ⟨h1,h2⟩
  rw[Bool.and_eq_true]at h2
  obtain⟨h2,h3⟩:=h2
  refine⟨h1,by simpa using h2,ops[i],Array.getElem?_eq_getElem h1,fun e he hb=> ?_⟩
  rw[Array.getElem?_eq_getElem h1]at h3
  simp only[Option.map_some,Option.getD_some]at h3
  have:=(Array.all_eq_true'.1 h3) e (Array.mem_toList_iff.1 he)
  rw[hb]at this
  simpa using this
 ·rintro ⟨h1,h2,o,h3,h4⟩
  refine⟨h1, ?_⟩
  rw[Bool.and_eq_true]
  refine⟨by rw[h2];rfl, ?_⟩
  rw[h3]
  simp only[Option.map_some,Option.getD_some]
  refine Array.all_eq_true'.2 fun e he=> ?_
  cases hb:Region.binds .any e with
  | false=>rfl
  | true=>rw[h4 e (Array.mem_toList_iff.2 he) hb];rfl
section
variable {en:Env} {e:Ent} {ops:Array Oper}
theorem zqo (hcall : ∀ f args fb r outs, en.call f args fb = some (r, outs) → zeQ en.P f args fb r outs) {Q : Exit → Act → World → Prop} {F : Nat → List FL × List FL} {sf : St} (hE : zhF 0 ops.toList = true)
  (hF:∀i j,j < ops.size→i < j→zeI (Region.before ops) i j=true∨apart (F i) (F j)=true)
  (hQ:∀a' w' E' β' τ',Sim e w' E' β' τ' a' sf→Q .normal a' w'):∀(fuel:Nat) (listed:Array Bool) (L:List Nat) (s:St) (a:Act) (w:World) (E:Nat→Nat) (β:Bm) (τ:Loc→List Nat),listed.size=ops.size→L.Pairwise (· < ·)→(∀i,i∈L↔i < ops.size∧listed.getD i true=false)→L.length≤fuel→
   (∀i j,listed.getD i false=true→zeI (Region.before ops) j i=true→listed.getD j false=true)→RunL en ops F L s sf→Sim e w E β τ a s→wpAny en.P .any ops Q fuel listed a w:=by
 have done:∀(listed:Array Bool) (L:List Nat) (s:St) (a:Act) (w:World) (E:Nat→Nat) (β:Bm) (τ:Loc→List Nat),listed.size=ops.size→L.Pairwise (· < ·)→(∀i,i∈L↔i < ops.size∧listed.getD i true=false)→RunL en ops F L s sf→Sim e w E β τ a s→Region.ready .any ops listed=[]→Q .normal a w:=by
  intro listed L s a w E β τ hs hp hm hL h hr
  cases L with
  | nil=>
   have:s=sf:=hL
   subst this
   exact hQ _ _ _ _ _ h
  | cons i L=>
   exfalso
   obtain⟨h1,h2⟩:=(hm i).1 (List.mem_cons_self ..)
   have:i∈Region.ready .any ops listed:=by
    refine mem_ready'.2 ⟨h1,h2,ops[i],Array.getElem?_eq_getElem h1,fun ed he hb=> ?_⟩
    have hlt:=zjG (i:=i) (o:=ops[i]) hE (by simp[h1]) he hb
    rw[Nat.zero_add]at hlt
    cases hq:listed.getD ed.on true with
    | true=>
     have h3:ed.on < listed.size:=by omega
     simp[h3]at hq⊢
     exact hq
    | false=>
     have hin:=(hm ed.on).2 ⟨by omega,hq⟩
     rcases List.mem_cons.1 hin with hin | hin
     ·omega
     ·have:=(List.pairwise_cons.1 hp).1 _ hin
      omega
   rw[hr]at this
   cases this
 intro fuel
 induction fuel with
 | zero=>
  intro listed L s a w E β τ hs hp hm hl hc hL h
  have:L=[]:=List.length_eq_zero_iff.1 (by omega)
  subst this
  have hr:Region.ready .any ops listed=[]:=by
   cases hq:Region.ready .any ops listed with
   | nil=>rfl
   | cons i l=>
    obtain⟨h1,h2,_⟩:=mem_ready'.1 (show i∈Region.ready .any ops listed by rw[hq];exact List.mem_cons_self ..)
    have:=(hm i).2 ⟨h1,h2⟩
    cases this
  exact⟨hr,done listed [] s a w E β τ hs hp hm hL h hr⟩
 | succ fuel ih=>
  intro listed L s a w E β τ hs hp hm hl hc hL h
  refine⟨done listed L s a w E β τ hs hp hm hL h,fun i hi=> ?_⟩
  obtain⟨h1,h2,o,h3,h4⟩:=mem_ready'.1 hi
  have hin:=(hm i).2 ⟨h1,h2⟩
  obtain⟨L1,L2,rfl⟩:=List.append_of_mem hin
  rw[List.pairwise_append,List.pairwise_cons]at hp
  obtain⟨p1,⟨p2,p3⟩,p4⟩:=hp
  have anc:∀j,zeI (Region.before ops) j i=true→listed.getD j false=true:=by
   intro j hj
   obtain⟨o',ed,q1,q2,q3,q4⟩:=zn8 ops i j hj
   rw[h3]at q1
   cases q1
   have hl:=h4 ed q2 q3
   rcases q4 with q4 | q4
   ·rw[←q4];exact hl
   ·exact hc _ _ hl q4
  have hfr:=RunL.front hL fun j hj=>by
   have hji:j < i:=p4 j hj i (List.mem_cons_self ..)
   rcases hF j i h1 hji with hb | hb
   ·exfalso
    have h5:=anc j hb
    obtain⟨h6,h7⟩:=(hm j).1 (List.mem_append_left _ hj)
    have h8:j < listed.size:=by omega
    simp[h8]at h5 h7
    rw[h5]at h7
    cases h7
   ·exact hb
  obtain⟨o',s1,k1,k2,k3⟩:=hfr
  rw[h3]at k1
  cases k1
  have set:∀(j:Nat) (d:Bool),(listed.setIfInBounds i true).getD j d=if j=i∧i < listed.size then true else listed.getD j d:=by
   intro j d
   by_cases hj:j=i
   ·subst hj
    by_cases hlt:j < listed.size
    ·simp[hlt]
    ·simp[hlt,Nat.le_of_not_lt hlt]
   ·simp[hj,Array.getElem?_setIfInBounds,Ne.symm hj]
  refine zl7 hcall h h3 k2 fun a' w' E' β' τ' k=> ?_
  refine ih (listed.setIfInBounds i true) (L1++L2) s1 a' w' E' β' τ' (by simpa using hs) ?_ (fun j=> ?_) ?_ (fun j l hj hb=> ?_) k3 k
  ·rw[List.pairwise_append]
   exact⟨p1,p3,fun x hx y hy=>p4 x hx y (List.mem_cons_of_mem _ hy)⟩
  ·rw[set]
   have hne:j∈L1++L2↔j∈L1++i::L2∧j≠i:=by
    constructor
    ·intro hj
     refine⟨?_, ?_⟩
     ·rcases List.mem_append.1 hj with hj | hj
      ·exact List.mem_append_left _ hj
      ·exact List.mem_append_right _ (List.mem_cons_of_mem _ hj)
     ·rcases List.mem_append.1 hj with hj | hj
      ·have:=p4 j hj i (List.mem_cons_self ..);omega
      ·have:=p2 j hj;omega
    ·rintro ⟨hj,hn⟩
     rcases List.mem_append.1 hj with hj | hj
     ·exact List.mem_append_left _ hj
     ·rcases List.mem_cons.1 hj with hj | hj
      ·exact absurd hj hn
      ·exact List.mem_append_right _ hj
   rw[hne,hm j]
   by_cases hj:j=i
   ·subst hj
    rw[if_pos ⟨rfl,by omega⟩]
    simp
   ·rw[if_neg (fun h=>hj h.1)]
    simp[hj]
  ·simp at hl⊢
   omega
  ·rw[set]at hj⊢
   by_cases hji:j=i∧i < listed.size
   ·obtain⟨rfl,_⟩:=hji
    have:=anc l hb
    by_cases hl2:l=j∧j < listed.size
    ·rw[if_pos hl2]
    ·rw[if_neg hl2];exact this
   ·rw[if_neg hji]at hj
    have:=hc j l hj hb
    by_cases hl2:l=i∧i < listed.size
    ·rw[if_pos hl2]
    ·rw[if_neg hl2];exact this
end
end Go.Proofs.YtgmidllbkjdnnaaGreatDoor.Flat
namespace Go.Proofs.YtgmidllbkjdnnaaGreatDoor.Flat
set_option linter.unusedVariables false
set_option linter.unusedSimpArgs false
set_option linter.unusedSectionVars false
variable [Glob]
def Bm.now (β:Bm):Bm:=⟨fun b _=>β b (β.G b),fun _=>0⟩
mutual
theorem RepV.norm {w:World} {E:Nat→Nat} {F:Nat→Prop} {β:Bm} {bx:List Cell} (hg:∀(b:Nat) (c:Cell),bx[b]?=some c→c.gen=β.G b):∀{x:AV} {v:Value} {B:List Nat},RepV w E F β x v B→RepV w E F β.now (x.norm bx) v B
 | .t x,v,B,h=>by rw[RepV]at h;rw[AV.norm,RepV];exact h;all_goals simp
 | .tup xs,v,B,h=>by rw[RepV]at h;rw[AV.norm,RepV];exact h;all_goals simp
 | .ptr b g p o,v,B,h=>by
  rw[RepV]at h
  obtain⟨h1,h2,h3⟩:=h
  rw[AV.norm]
  cases hb:bx[b]? with
  | none=>dsimp only;rw[RepV];exact h2
  | some c=>
   dsimp only
   by_cases hc:(c.gen==g)=true
   ·rw[if_pos hc,RepV]
    have:g=β.G b:=by rw[←hg b c hb];exact(by simpa using hc:c.gen=g).symm
    exact⟨by rw[h1,this];rfl,h2,Nat.zero_le _⟩
   ·rw[if_neg hc,RepV];exact h2
 | .ref x,v,B,h=>by rw[RepV]at h;rw[AV.norm,RepV];exact h;all_goals simp
 | .fref f caps,v,B,h=>by
  rw[RepV]at h
  obtain⟨hb,ad,cv,e1,hs,hc,hr⟩:=h
  rw[AV.norm]
  cases hn:norms bx caps with
  | none=>dsimp only;rw[RepV];exact hb
  | some cs=>dsimp only;rw[RepV];exact⟨hb,ad,cv,e1,hs,hc,RepVs.norm hg hr hn⟩
 | .fn f caps,v,B,h=>by
  rw[RepV]at h
  obtain⟨hb,cv,e1,hr⟩:=h
  rw[AV.norm]
  cases hn:norms bx caps with
  | none=>dsimp only;rw[RepV];exact hb
  | some cs=>dsimp only;rw[RepV];exact⟨hb,cv,e1,RepVs.norm hg hr hn⟩
 | .io _,v,B,h=>by rw[RepV]at h;exact h.elim
 | .xr _ _ _ _,v,B,h=>by rw[RepV]at h;rw[AV.norm,RepV];exact h
 | .un,v,B,h=>by rw[RepV]at h;rw[AV.norm,RepV];exact h;all_goals simp
 | .nd,v,B,h=>by rw[RepV]at h;rw[AV.norm,RepV];exact h;all_goals simp
theorem RepVs.norm {w:World} {E:Nat→Nat} {F:Nat→Prop} {β:Bm} {bx:List Cell} (hg:∀(b:Nat) (c:Cell),bx[b]?=some c→c.gen=β.G b):∀{xs:List AV} {vs:List Value} {ys:List AV},RepVs w E F β xs vs→norms bx xs=some ys→RepVs w E F β.now ys vs
 | [],vs,ys,h,hn=>by rw[norms]at hn;cases hn;rw[RepVs]at h⊢;exact h
 | x::xs,vs,ys,h,hn=>by
  rw[RepVs]at h
  obtain⟨v,vr,e1,h1,h2⟩:=h
  rw[norms]at hn
  have key:∃yr,norms bx xs=some yr∧ys=x.norm bx::yr:=by
   split at hn
   ·cases hn
   ·rename_i yr hyr _
    cases hn
    exact⟨yr,hyr,rfl⟩
   ·cases hn
  obtain⟨yr,k1,rfl⟩:=key
  rw[RepVs]
  exact⟨v,vr,e1,RepV.norm hg h1,RepVs.norm hg h2 k1⟩
end
section
variable {en:Env} {e:Ent} {w:World} {E:Nat→Nat} {β:Bm} {τ:Loc→List Nat} {a:Act} {s s':St} {o:Oper} {r q:List FL} {u:Unit} {ops:Array Oper}
theorem znj {bx:List Cell} {x:AV} {k:Bool} {l:Loc} {p:List Nat} {n:Nat}:x.norm bx≠ .xr k l p n:=by
 cases x with
 | ptr b g p o=>
  rw[AV.norm]
  repeat' split
  all_goals exact fun h=>by cases h
 | fn f cs=>
  rw[AV.norm]
  split<;>exact fun h=>by cases h
 | fref f cs=>
  rw[AV.norm]
  split<;>exact fun h=>by cases h
 | _=>simp[AV.norm]
theorem Sim.norm (h:Sim e w E β τ a s):Sim e w E β.now τ a s.norm:=by
 have gt:∀(i:Nat) (c:Cell),s.norm.tm[i]?=some c→∃d,s.tm[i]?=some d∧c=⟨d.val.norm s.bx,none,0,0⟩:=by
  intro i c hc
  have hc:(s.tm.map fun c=>(⟨c.val.norm s.bx,none,0,0⟩:Cell))[i]?=some c:=hc
  rw[List.getElem?_map]at hc
  cases hd:s.tm[i]? with
  | none=>rw[hd]at hc;cases hc
  | some d=>rw[hd]at hc;cases hc;exact⟨d,rfl,rfl⟩
 have gb:∀(i:Nat) (c:Cell),s.norm.bx[i]?=some c→∃d,s.bx[i]?=some d∧c=⟨d.val.norm s.bx,none,0,0⟩:=by
  intro i c hc
  have hc:(s.bx.map fun c=>(⟨c.val.norm s.bx,none,0,0⟩:Cell))[i]?=some c:=hc
  rw[List.getElem?_map]at hc
  cases hd:s.bx[i]? with
  | none=>rw[hd]at hc;cases hc
  | some d=>rw[hd]at hc;cases hc;exact⟨d,rfl,rfl⟩
 have un:∀(d:Cell),d.val.norm s.bx≠ .un→d.val≠ .un:=fun d hn hd=>hn (by rw[hd,AV.norm];all_goals simp)
 refine⟨h.dfr,by rw[h.len];simp[St.norm],fun i c hc=> ?_,fun i c hc hv=> ?_,h.tok,h.one,h.nod,fun l k i c hk hc hv=> ?_,fun i j c d hc hd hv hv' he=> ?_,fun i c kk l p n hc ho=> ?_,h.z,h.mz,h.mlt,h.blt,h.dis,fun b c hc=> ?_,h.fr,fun i k hk=> ?_⟩
 ·obtain⟨d,hd,rfl⟩:=gt i c hc
  exact RepV.norm h.gn (h.tm i d hd)
 ·obtain⟨d,hd,rfl⟩:=gb i c hc
  obtain⟨cells,ty,k1,k2,k3,k4⟩:=h.bx i d hd (un d hv)
  have hG:=h.gn i d hd
  rw[hG]at k1 k3 k4
  refine⟨cells,ty,k1, ?_,k3,k4⟩
  cases hdv:d.val with
  | t x=>
   rw[hdv]at k2
   show RepC w E e.F β.now ((AV.t x).norm s.bx) cells.toList _
   rw[AV.norm]
   ·exact k2
   all_goals simp
  | fn f caps=>
   rw[hdv]at k2 hv
   obtain⟨v,q1,q2⟩:=k2
   have q3:=RepV.norm h.gn q2
   show RepC w E e.F β.now ((AV.fn f caps).norm s.bx) cells.toList _
   rw[AV.norm]at hv q3⊢
   cases hn:norms s.bx caps with
   | none=>rw[hn]at hv;exact absurd rfl hv
   | some cs=>rw[hn]at q3;exact⟨v,q1,q3⟩
  | _=>rw[hdv]at k2;exact k2.elim
 ·obtain⟨d,hd,rfl⟩:=gb i c hc
  have:=h.tb l k i d hk hd (un d hv)
  rw[h.gn i d hd]at this
  exact this
 ·obtain⟨c',hc',rfl⟩:=gb i c hc
  obtain⟨d',hd',rfl⟩:=gb j d hd
  refine h.bb i j c' d' hc' hd' (un c' hv) (un d' hv') ?_
  rw[h.gn i c' hc',h.gn j d' hd']
  exact he
 ·obtain⟨d,hd,rfl⟩:=gt i c hc
  rcases ho with ho | ⟨_,ho⟩
  ·exact absurd ho znj
  ·cases ho
 ·obtain⟨d,hd,rfl⟩:=gb b c hc
  rfl
 ·obtain⟨q1,q2⟩:=h.fx i k hk
  exact⟨by simpa [St.norm] using q1,q2⟩
theorem zhX {ks:List Nat}:∀{cs:List Cell} {k i:Nat} {c:Cell},(keeps ks k cs)[i]?=some c→(cs[i]?=some c∧ks.contains (k+i)=true)∨(∃d,cs[i]?=some d)∧c=⟨.un,none,0,0⟩
 | [],k,i,c,h=>by rw[keeps]at h;simp at h
 | d::cs,k,i,c,h=>by
  rw[keeps]at h
  cases i with
  | zero=>
   simp only[List.getElem?_cons_zero,Option.some.injEq]at h
   by_cases hk:ks.contains k=true
   ·rw[if_pos hk]at h;subst h;exact .inl ⟨rfl,hk⟩
   ·rw[if_neg hk]at h;exact .inr ⟨⟨d,rfl⟩,h.symm⟩
  | succ i=>
   rw[List.getElem?_cons_succ]at h
   rcases zhX h with ⟨h1,h2⟩ | ⟨⟨d',h1⟩,h2⟩
   ·exact .inl ⟨by rw[List.getElem?_cons_succ];exact h1,by rw[show k+(i+1)=k+1+i by omega];exact h2⟩
   ·exact .inr ⟨⟨d',by rw[List.getElem?_cons_succ];exact h1⟩,h2⟩
theorem zio {ks:List Nat}:∀{cs:List Cell} {k:Nat},(keeps ks k cs).length=cs.length
 | [],k=>rfl
 | d::cs,k=>by rw[keeps,List.length_cons,List.length_cons,zio]
theorem Sim.forget (h:Sim e w E β τ a s) (hg:∀(b:Nat) (c:Cell),s.bx[b]?=some c→c.gen=0) (ho:∀(i:Nat) (c:Cell),s.tm[i]?=some c→∀k l p n,¬c.told k l p n) (ks:Option (List Nat × List Nat)):∃τ',Sim e w E β τ' a (s.forget ks):=by
 cases ks with
 | none=>exact⟨τ,h⟩
 | some p=>
  obtain⟨ka,kb⟩:=p
  let τ':Loc→List Nat:=fun l=>match l with
   | .tm i=>if ka.contains i=true then τ (.tm i)else []
   | .bx i=>if kb.contains i=true then τ (.bx i)else []
  have sub:∀{l:Loc} {k:Nat},k∈τ' l→k∈τ l:=by
   intro l k hk
   cases l with
   | tm i=>
    have hk:k∈(if ka.contains i=true then τ (.tm i)else []):=hk
    by_cases hc:ka.contains i=true
    ·rw[if_pos hc]at hk;exact hk
    ·rw[if_neg hc]at hk;cases hk
   | bx i=>
    have hk:k∈(if kb.contains i=true then τ (.bx i)else []):=hk
    by_cases hc:kb.contains i=true
    ·rw[if_pos hc]at hk;exact hk
    ·rw[if_neg hc]at hk;cases hk
  have gt:∀(i:Nat) (c:Cell),(s.forget (some (ka,kb))).tm[i]?=some c→(s.tm[i]?=some c∧ka.contains i=true)∨c=⟨.un,none,0,0⟩:=by
   intro i c hc
   rcases zhX (k:=0) (show(keeps ka 0 s.tm)[i]?=some c from hc)with ⟨h1,h2⟩ | ⟨_,h2⟩
   ·exact .inl ⟨h1,by rwa[Nat.zero_add]at h2⟩
   ·exact .inr h2
  have gb:∀(i:Nat) (c:Cell),(s.forget (some (ka,kb))).bx[i]?=some c→(s.bx[i]?=some c∧kb.contains i=true)∨c=⟨.un,none,0,0⟩∧∃d,s.bx[i]?=some d:=by
   intro i c hc
   rcases zhX (k:=0) (show(keeps kb 0 s.bx)[i]?=some c from hc)with ⟨h1,h2⟩ | ⟨h1,h2⟩
   ·exact .inl ⟨h1,by rwa[Nat.zero_add]at h2⟩
   ·exact .inr ⟨h2,h1⟩
  refine⟨τ',h.dfr, ?_,fun i c hc=> ?_,fun i c hc hv=> ?_,fun l k hk=>h.tok l k (sub hk),fun l l' k hk hk'=>h.one l l' k (sub hk) (sub hk'),fun l=> ?_,fun l k i c hk hc hv=> ?_,fun i j c d hc hd hv hv' he=> ?_,fun i c kk l p n hc hog=> ?_,h.z,h.mz,h.mlt,h.blt,h.dis,fun b c hc=> ?_,h.fr,fun i k hk=> ?_⟩
  ·show a.tmps.size=(keeps ka 0 s.tm).length
   rw[zio]
   exact h.len
  ·rcases gt i c hc with ⟨h1,h2⟩ | rfl
   ·show RepV w E e.F β c.val _ (if ka.contains i=true then τ (.tm i)else [])
    rw[if_pos h2]
    exact h.tm i c h1
   ·show RepV w E e.F β .un _ (if ka.contains i=true then τ (.tm i)else [])
    rw[RepV]
    by_cases hk:ka.contains i=true
    ·rcases zhX (k:=0) (show(keeps ka 0 s.tm)[i]?=some ⟨.un,none,0,0⟩ from hc)with ⟨h1,h2⟩ | ⟨⟨d,hd⟩,_⟩
     ·have:=h.tm i _ h1
      rw[RepV]at this
      rw[if_pos hk]
      exact this
     ·have hc':(keeps ka 0 s.tm)[i]?=some ⟨.un,none,0,0⟩:=hc
      have:∀(cs:List Cell) (k j:Nat) (d:Cell),cs[j]?=some d→ka.contains (k+j)=true→(keeps ka k cs)[j]?=some d:=by
       intro cs
       induction cs with
       | nil=>intro k j d hj;simp at hj
       | cons x cs ih=>
        intro k j d hj hkj
        rw[keeps]
        cases j with
        | zero=>
         simp only[List.getElem?_cons_zero,Option.some.injEq]at hj⊢
         rw[Nat.add_zero]at hkj
         rw[if_pos hkj]
         exact hj
        | succ j=>
         rw[List.getElem?_cons_succ]at hj⊢
         exact ih (k+1) j d hj (by rw[show k+1+j=k+(j+1) by omega];exact hkj)
      have h3:=this s.tm 0 i d hd (by rw[Nat.zero_add];exact hk)
      rw[hc']at h3
      cases h3
      have:=h.tm i _ hd
      rw[RepV]at this
      rw[if_pos hk]
      exact this
    ·rw[if_neg hk]
  ·rcases gb i c hc with ⟨h1,h2⟩ | ⟨rfl,_⟩
   ·have h3:=h.bx i c h1 hv
    show∃cells ty,w.heap[β i c.gen]?=some (.cells cells ty (0,0))∧RepC w E e.F β c.val cells.toList (if kb.contains i=true then τ (.bx i)else [])∧_
    rw[if_pos h2]
    exact h3
   ·exact absurd rfl hv
  ·cases l with
   | tm i=>
    show(if ka.contains i=true then τ (.tm i)else []).Nodup
    split
    ·exact h.nod _
    ·exact List.nodup_nil
   | bx i=>
    show(if kb.contains i=true then τ (.bx i)else []).Nodup
    split
    ·exact h.nod _
    ·exact List.nodup_nil
  ·rcases gb i c hc with ⟨h1,h2⟩ | ⟨rfl,_⟩
   ·exact h.tb l k i c (sub hk) h1 hv
   ·exact absurd rfl hv
  ·rcases gb i c hc with ⟨h1,h2⟩ | ⟨rfl,_⟩
   ·rcases gb j d hd with ⟨h3,h4⟩ | ⟨rfl,_⟩
    ·exact h.bb i j c d h1 h3 hv hv' he
    ·exact absurd rfl hv'
   ·exact absurd rfl hv
  ·exfalso
   rcases gt i c hc with ⟨h1,h2⟩ | rfl
   ·exact ho i c h1 _ _ _ _ hog
   ·rcases hog with hog | ⟨_,hog⟩<;>cases hog
  ·rcases gb b c hc with ⟨h1,h2⟩ | ⟨rfl,d,hd⟩
   ·exact h.gn b c h1
   ·have h1:=h.gn b d hd
    rw[hg b d hd]at h1
    exact h1
  ·obtain⟨q1,q2⟩:=h.fx i k hk
   refine⟨?_,q2⟩
   show(keeps ka 0 s.tm).length≤i
   rw[zio]
   exact q1
theorem Sim.shed1 (h:Sim e w E β τ a s) (l:Loc):∃E' τ',Sim e w E' β τ' a (s.shed1 l):=by
 unfold St.shed1
 cases hc:s.get l with
 | none=>exact⟨E,τ,h⟩
 | some c=>
  dsimp only
  cases hv:c.val with
  | t x=>exact h.pubAt hc hv
  | _=>exact⟨E,τ,h⟩
theorem Sim.sheds:∀(ls:List Loc) {E:Nat→Nat} {s:St} {τ:Loc→List Nat},Sim e w E β τ a s→∃E' τ',Sim e w E' β τ' a (s.sheds ls)
 | [],E,_,τ,h=>⟨E,τ,h⟩
 | l::ls,_,_,_,h=>by
  obtain⟨_,_,h1⟩:=h.shed1 l
  exact Sim.sheds ls h1
theorem Sim.keep (h:Sim e w E β τ a s) (hg:∀(b:Nat) (c:Cell),s.bx[b]?=some c→c.gen=0) (ho:∀(i:Nat) (c:Cell),s.tm[i]?=some c→∀k l p n,¬c.told k l p n) (ks:Option (List Nat × List Nat)):∃E' τ',Sim e w E' β τ' a (s.keep ks):=by
 cases ks with
 | none=>exact⟨E,τ,h⟩
 | some p=>
  obtain⟨_,h1⟩:=h.forget hg ho (some p)
  exact h1.sheds _
theorem zha (s:St):(∀(b:Nat) (c:Cell),s.norm.bx[b]?=some c→c.gen=0)∧∀(i:Nat) (c:Cell),s.norm.tm[i]?=some c→∀k l p n,¬c.told k l p n:=by
 refine⟨fun b c hc=> ?_,fun i c hc k l p n ht=> ?_⟩
 ·obtain⟨d,_,rfl⟩:=List.mem_map.1 (List.mem_of_getElem? (show(s.bx.map fun c=>(⟨c.val.norm s.bx,none,0,0⟩:Cell))[b]?=some c from hc))
  rfl
 ·obtain⟨d,_,rfl⟩:=List.mem_map.1 (List.mem_of_getElem? (show(s.tm.map fun c=>(⟨c.val.norm s.bx,none,0,0⟩:Cell))[i]?=some c from hc))
  rcases ht with ht | ⟨_,ht⟩
  ·exact znj ht
  ·cases ht
def exOf:Ex→Exit
 | .normal=>.normal
 | .exit id=>.exit id
 | .ret=>.ret
def Ends (e:Ent) (x:Ex) (s':St) (ex:Exit) (a':Act) (w':World):Prop:=ex=exOf x∧∃E' β' τ',Sim e w' E' β' τ' a' s'
theorem Ends.prune {en:Env} {e:Ent} {k:Nat} {r:Option (Ex × St)} {x:Ex} {s':St} (h:Flat.prune en k r=some (x,s')):∃s0,r=some (x,s0)∧∀ex a' w',Ends e x s0 ex a' w'→Ends e x s' ex a' w':=by
 cases r with
 | none=>cases h
 | some p=>
  obtain⟨y,s0⟩:=p
  cases y with
  | normal=>
   cases h
   refine⟨s0,rfl, ?_⟩
   rintro ex a' w' ⟨rfl,E',β',τ',h2⟩
   cases en.keep k with
   | none=>exact⟨rfl,E',β',τ',h2⟩
   | some ks=>
    obtain⟨E2,τ2,k2⟩:=h2.norm.keep (zha s0).1 (zha s0).2 (some ks)
    exact⟨rfl,E2,β'.now,τ2,k2⟩
  | exit i=>cases h;exact⟨s',rfl,fun _ _ _ h=>h⟩
  | ret=>cases h;exact⟨s',rfl,fun _ _ _ h=>h⟩
theorem znk {P:Program} {c:Code} {f:St→Option (Ex × St)} (hf:∀s a w E β τ x s',Sim e w E β τ a s→f s=some (x,s')→c.wp P (Ends e x s') a w):∀(k:Nat) {s a w E β τ x s'},Sim e w E β τ a s→loopN f k s=some (x,s')→Code.rounds P c (Ends e x s') k a w
 | 0,s,a,w,E,β,τ,x,s',h,hr=>by rw[loopN]at hr;cases hr
 | k+1,s,a,w,E,β,τ,x,s',h,hr=>by
  rw[rounds_succ]
  rw[loopN]at hr
  cases h1:f s with
  | none=>rw[h1]at hr;cases hr
  | some p=>
   obtain⟨y,s1⟩:=p
   refine wp_mono (hf s a w E β τ y s1 h h1) ?_
   rintro ex a' w' ⟨rfl,E',β',τ',h2⟩
   rw[h1]at hr
   cases y with
   | normal=>
    dsimp only at hr
    exact znk hf k h2 hr
   | exit id=>cases hr;exact⟨rfl,E',β',τ',h2⟩
   | ret=>cases hr;exact⟨rfl,E',β',τ',h2⟩
theorem zgk (hcall:∀f args fb r outs,en.call f args fb=some (r,outs)→zeQ en.P f args fb r outs) (hm:en.P.follows .mixedOrders=true) {n:Nat}:∀(c:Code) {s a w E β τ x s'},Sim e w E β τ a s→exec en n c s=some (x,s')→c.wp en.P (Ends e x s') a w
 | .skip,s,a,w,E,β,τ,x,s',h,hr=>by
  rw[exec]at hr
  cases hr
  exact wp_skip ⟨rfl,E,β,τ,h⟩
 | .region id ops draw,s,a,w,E,β,τ,x,s',h,hr=>by
  rw[exec]at hr
  cases h1:zfh en ops ops.toList s with
  | none=>rw[h1]at hr;cases hr
  | some p=>
   obtain⟨s1,fs⟩:=p
   rw[h1]at hr
   dsimp only at hr
   by_cases hd:(draw&& !zih ops fs)=true
   ·rw[if_pos hd]at hr;cases hr
   rw[if_neg hd]at hr
   cases hr
   have hQ:∀a' w' E' β' τ',Sim e w' E' β' τ' a' s1→Ends e .normal (s1.norm.keep (en.keep id)) .normal a' w':=fun a' w' E' β' τ' k=>by
    obtain⟨E2,τ2,k2⟩:=k.norm.keep (zha s1).1 (zha s1).2 (en.keep id)
    exact⟨rfl,E2,β'.now,τ2,k2⟩
   cases draw with
   | false=>
    refine wp_region ?_
    rw[List.range_eq_range']
    have:=zkS hcall (ops:=ops) (k:=0) (os:=ops.toList) (Q:=Ends e .normal (s1.norm.keep (en.keep id))) (fun j=>by simp) h h1 hQ
    simpa using this
   | true=>
    have hd':zih ops fs=true:=by simpa using hd
    unfold zih at hd'
    rw[Bool.and_eq_true]at hd'
    obtain⟨hE,hA⟩:=hd'
    obtain⟨hL,hlen⟩:=zl8 (F:=fun i=>fs.getD i ([],[])) (ops:=ops) (k:=0) (os:=ops.toList) (fun j=>by simp) (fun j p hp=>by rw[Nat.zero_add];simp[hp]) h1
    refine wp_region_any hm ?_
    have hlen':fs.length=ops.size:=by rw[hlen];simp
    refine zqo hcall hE (F:=fun i=>fs.getD i ([],[])) (sf:=s1) (fun i j hj hij=> ?_) hQ ops.size (Array.replicate ops.size false) (List.range ops.size) s a {w with drawn:=w.drawn+1} E β τ (by simp) (List.pairwise_lt_range) (fun i=> ?_) (by simp) (fun i j hi=> ?_) ?_ h.drew
    ·have h2:=List.all_eq_true.1 hA j (List.mem_range.2 (by rw[hlen'];exact hj))
     have h3:=List.all_eq_true.1 h2 i (List.mem_range.2 hij)
     simpa using h3
    ·rw[List.mem_range]
     constructor
     ·intro hi
      exact⟨hi,by simp[hi]⟩
     ·exact fun h=>h.1
    ·exfalso
     by_cases hlt:i < ops.size
     ·simp[hlt]at hi
     ·simp[hlt]at hi
    ·have:=hL
     simpa [List.range_eq_range'] using this
 | .seq x y,s,a,w,E,β,τ,ex,s',h,hr=>by
  rw[exec]at hr
  refine wp_seq ?_
  cases h1:exec en n x s with
  | none=>rw[h1]at hr;cases hr
  | some p=>
   obtain⟨z,s1⟩:=p
   rw[h1]at hr
   refine wp_mono (zgk hcall hm x h h1) ?_
   rintro ex' a' w' ⟨rfl,E',β',τ',h2⟩
   cases z with
   | normal=>
    dsimp only at hr
    exact zgk hcall hm y h2 hr
   | exit id=>cases hr;exact⟨rfl,E',β',τ',h2⟩
   | ret=>cases hr;exact⟨rfl,E',β',τ',h2⟩
 | .cond c x y,s,a,w,E,β,τ,ex,s',h,hr=>by
  rw[exec]at hr
  cases h1:rdV c s with
  | none=>rw[h1]at hr;cases hr
  | some p=>
   obtain⟨v,s1,r1,w1⟩:=p
   obtain⟨rfl,e1,_⟩:=zeH h h1
   rw[h1]at hr
   cases v with
   | bool b=>
    dsimp only at hr
    obtain⟨s0,hr0,hE⟩:=Ends.prune (e:=e) hr
    refine wp_cond e1 ?_
    cases b with
    | true=>
     rw[if_pos rfl]at hr0⊢
     exact wp_mono (zgk hcall hm x h hr0) hE
    | false=>
     rw[if_neg Bool.false_ne_true]at hr0⊢
     exact wp_mono (zgk hcall hm y h hr0) hE
   | _=>cases hr
 | .block id c,s,a,w,E,β,τ,ex,s',h,hr=>by
  rw[exec]at hr
  obtain⟨s0,hr0,hE⟩:=Ends.prune (e:=e) hr
  refine wp_mono ?_ hE
  clear hr hE
  have hr:=hr0
  clear hr0
  refine wp_block ?_
  cases h1:exec en n c s with
  | none=>rw[h1]at hr;cases hr
  | some p=>
   obtain⟨z,s1⟩:=p
   rw[h1]at hr
   refine wp_mono (zgk hcall hm c h h1) ?_
   rintro ex' a' w' ⟨rfl,E',β',τ',h2⟩
   cases z with
   | normal=>cases hr;exact⟨rfl,E',β',τ',h2⟩
   | exit i=>
    dsimp only at hr
    by_cases hi:i=id
    ·rw[if_pos hi]at hr
     cases hr
     show(if i=id then _ else _)
     rw[if_pos hi]
     exact⟨rfl,E',β',τ',h2⟩
    ·rw[if_neg hi]at hr
     cases hr
     show(if i=id then _ else _)
     rw[if_neg hi]
     exact⟨rfl,E',β',τ',h2⟩
   | ret=>cases hr;exact⟨rfl,E',β',τ',h2⟩
 | .loop c,s,a,w,E,β,τ,ex,s',h,hr=>by
  rw[exec]at hr
  exact wp_loop_rounds n (znk (fun s a w E β τ x s' h hr=>zgk hcall hm c h hr) n h hr)
 | .exit id,s,a,w,E,β,τ,ex,s',h,hr=>by
  rw[exec]at hr
  cases hr
  exact wp_exit ⟨rfl,E,β,τ,h⟩
 | .ret,s,a,w,E,β,τ,ex,s',h,hr=>by
  rw[exec]at hr
  cases hr
  exact wp_ret ⟨rfl,E,β,τ,h⟩
 | .rangeFunc _ _ _ _,s,a,w,E,β,τ,ex,s',h,hr=>by rw[exec]at hr;cases hr;all_goals simp
 | .scope _,s,a,w,E,β,τ,ex,s',h,hr=>by rw[exec]at hr;cases hr;all_goals simp
 | .label _,s,a,w,E,β,τ,ex,s',h,hr=>by rw[exec]at hr;cases hr;all_goals simp
 | .goto _,s,a,w,E,β,τ,ex,s',h,hr=>by rw[exec]at hr;cases hr;all_goals simp
 | .refuse _,s,a,w,E,β,τ,ex,s',h,hr=>by rw[exec]at hr;cases hr;all_goals simp
end
end Go.Proofs.YtgmidllbkjdnnaaGreatDoor.Flat
namespace Go.Proofs.YtgmidllbkjdnnaaGreatDoor.Flat
set_option linter.unusedVariables false
set_option linter.unusedSimpArgs false
set_option linter.unusedSectionVars false
variable [Glob]
def zm0 (a:Act):ResultVar→Sem Value
 | .tmp t=>pure (a.tmps.getD t undef)
 | .cell d t=>do loadVar t (←asAddr (a.tmps.getD d undef))
section
variable {en:Env} {e:Ent} {w:World} {E:Nat→Nat} {β:Bm} {τ:Loc→List Nat} {a:Act} {s s':St} {o:Oper} {r q:List FL} {u:Unit} {ops:Array Oper} {P:Program}
theorem zkt (h:Sim e w E β τ a s) {rv:ResultVar} {x:T} (hr:zhG P s rv=some x):∃v,(zm0 a rv).run P w=.ok v w∧RepT w E x v (τ (locOf rv)):=by
 cases rv with
 | tmp t=>
  dsimp only[zhG]at hr
  cases hc:s.tm[t]? with
  | none=>rw[hc]at hr;cases hr
  | some c=>
   rw[hc]at hr
   have hv:=h.tm t c hc
   cases hcv:c.val with
   | t y=>
    simp only[hcv]at hr
    cases hr
    rw[hcv,RepV]at hv
    exact⟨_,rfl,hv⟩
   | _=>simp only[hcv]at hr;cases hr
 | cell d t=>
  dsimp only[zhG]at hr
  cases hc:s.tm[d]? with
  | none=>rw[hc]at hr;cases hr
  | some c=>
   rw[hc]at hr
   have hv:=h.tm d c hc
   obtain⟨val,og,ver,gen⟩:=c
   cases val with
   | ptr b g p o=>
    cases g with
    | succ _=>cases hr
    | zero=>
     cases p with
     | cons _ _=>cases hr
     | nil=>
      cases o with
      | succ _=>cases hr
      | zero=>
       have hr2:(if b=d then(match s.bx[b]? with
        | some c=>(match c.val with
         | .t x=>if fits P t x=true∧c.gen=0 then some x else none
         | _=>none)
        | none=>none)else none)=some x:=hr
       clear hr
       by_cases hb:b=d
       ·rw[if_pos hb]at hr2
        subst hb
        have hr:=hr2
        clear hr2
        cases hc2:s.bx[b]? with
        | none=>rw[hc2]at hr;cases hr
        | some c2=>
         rw[hc2]at hr
         obtain⟨val2,og2,ver2,gen2⟩:=c2
         cases val2 with
         | t y=>
          dsimp only at hr
          by_cases hf:fits P t y=true∧gen2=0
          ·rw[if_pos hf]at hr
           cases hr
           obtain⟨hf1,rfl⟩:=hf
           obtain⟨cells,ty,k1,k2,k3,k4⟩:=h.bx b _ hc2 (fun h=>by cases h)
           dsimp only at k1 k2
           have hv':RepV w E e.F β (.ptr b 0 [] 0) (a.tmps.getD b undef) _:=hv
           rw[RepV]at hv'
           refine⟨valOf x cells.toList, ?_,cells.toList,k2,rfl⟩
           show(do loadVar t (←asAddr (a.tmps.getD b undef)):Sem Value).run P w=_
           rw[hv'.1]
           have hcell:∀(j:Nat) (u:Value),cells.toList[j]?=some u→w.cell? ((⟨β b 0,0,none⟩:Addr).add j)=some u:=fun j u hj=>by
            rw[zf3,Nat.zero_add]
            exact ze5 (by simpa using k1) hj
           rw[Sem.run_bind]
           exact zfs hf1 k2 hcell
          ·rw[if_neg hf]at hr;cases hr
         | _=>cases hr
       ·rw[if_neg hb]at hr2;cases hr2
   | _=>cases hr
theorem zhY (h:Sim e w E β τ a s):∀{rs:List ResultVar} {xs:List T},zec P s rs=some xs→∃vs,(rs.mapM (zm0 a)).run P w=.ok vs w∧RepTs w E xs vs (rs.map fun rv=>τ (locOf rv)).flatten
 | [],xs,hr=>by rw[zec]at hr;cases hr;exact⟨[],rfl,rfl,rfl⟩
 | rv::rs,xs,hr=>by
  rw[zec]at hr
  cases h1:zhG P s rv with
  | none=>rw[h1]at hr;cases hr
  | some x=>
   cases h2:zec P s rs with
   | none=>rw[h1,h2]at hr;cases hr
   | some xr=>
    rw[h1,h2]at hr
    cases hr
    obtain⟨v,k1,k2⟩:=zkt h h1
    obtain⟨vs,m1,m2⟩:=zhY h h2
    refine⟨v::vs, ?_,v,vs,_,_,rfl,by rw[List.map_cons,List.flatten_cons],k2,m2⟩
    rw[List.mapM_cons,Sem.run_bind,k1]
    dsimp only[Result.andThen]
    rw[Sem.run_bind,m1]
    rfl
theorem zku (h:Sim e w E β τ a s) {fn:Func} {xs:List T} (hr:zec P s fn.results.toList=some xs):∃v,(results fn a.tmps).run P w=.ok v w∧RepV w E (fun _=>False) ⟨fun _ _=>0,fun _=>0⟩ (asRes xs) v ((fn.results.toList.map fun rv=>τ (locOf rv)).flatten):=by
 obtain⟨vs,k1,k2⟩:=zhY h hr
 have hrun:(results fn a.tmps).run P w=.ok (if h:vs.toArray.size=1 then vs.toArray[0]else .tuple vs.toArray) w:=by
  have e1:results fn a.tmps=(do
    let vs←fn.results.mapM (zm0 a)
    pure (if h:vs.size=1 then vs[0]else .tuple vs)):=by
   unfold results
   congr 1
  rw[e1,Array.mapM_eq_mapM_toList,Sem.run_bind,Sem.run_map,k1]
  rfl
 refine⟨_,hrun, ?_⟩
 cases xs with
 | nil=>
  obtain⟨rfl,hB⟩:=k2
  show RepV w E _ _ (.tup []) _ _
  rw[RepV]
  exact⟨[],rfl,rfl,hB⟩
 | cons x xs=>
  cases xs with
  | nil=>
   obtain⟨v,vr,B1,B2,rfl,e1,h1,rfl,rfl⟩:=k2
   show RepV w E _ _ (.t x) _ _
   rw[RepV,e1,List.append_nil]
   exact h1
  | cons y ys=>
   show RepV w E _ _ (.tup (x::y::ys)) _ _
   rw[RepV]
   have hl:vs.toArray.size≠1:=by
    obtain⟨v,vr,B1,B2,rfl,e1,h1,v2,vr2,B3,B4,rfl,_⟩:=k2
    simp
   rw[dif_neg hl]
   exact⟨vs,rfl,k2⟩
theorem zn9 {xs:List T} {v:Value} {B:List Nat} (h:RepV w E (fun _=>False) ⟨fun _ _=>0,fun _=>0⟩ (asRes xs) v B) {E':Nat→Nat} (hE:∀k,E k≤E' k) (hB:∀k∈B,pubE w k≤E' k):RepV w E' (fun _=>False) ⟨fun _ _=>0,fun _=>0⟩ (asRes (pubs xs)) v []:=by
 cases xs with
 | nil=>
  have h:RepV w E _ _ (.tup []) v B:=h
  rw[RepV]at h
  obtain⟨vs,e1,h1⟩:=h
  show RepV w E' _ _ (.tup (pubs [])) v []
  rw[RepV]
  exact⟨vs,e1,h1.pub hE hB⟩
 | cons x xs=>
  cases xs with
  | nil=>
   have h:RepV w E _ _ (.t x) v B:=h
   rw[RepV]at h
   obtain⟨cs,h1,h2⟩:=h
   show RepV w E' _ _ (.t x.pub) v []
   rw[RepV]
   exact⟨cs,Rep.pub hE h1 hB,by rw[h2,zf4]⟩
  | cons y ys=>
   have h:RepV w E _ _ (.tup (x::y::ys)) v B:=h
   rw[RepV]at h
   obtain⟨vs,e1,h1⟩:=h
   show RepV w E' _ _ (.tup (pubs (x::y::ys))) v []
   rw[RepV]
   exact⟨vs,e1,h1.pub hE hB⟩
theorem RepTs.shX {w:World} {E:Nat→Nat}:∀{xs:List T} {vs:List Value} {B:List Nat},RepTs w E xs vs B→∃B',RepTs w E (shXs true xs) vs B'∧B'.Sublist B
 | [],vs,B,h=>⟨B,by rw[shXs];exact h,List.Sublist.refl _⟩
 | x::xs,vs,B,h=>by
  obtain⟨v,vr,B1,B2,e,eb,⟨cs,h1,h1'⟩,h2⟩:=h
  obtain⟨C1,k1,k2⟩:=Rep.shX true h1
  obtain⟨C2,k3,k4⟩:=h2.shX
  exact⟨C1++C2,by rw[shXs];exact⟨v,vr,C1,C2,e,rfl,⟨cs,k1,by rw[h1',zii]⟩,k3⟩,by rw[eb];exact k2.append k4⟩
theorem zoa {xs:List T} {v:Value} {B:List Nat} (h:RepV w E (fun _=>False) ⟨fun _ _=>0,fun _=>0⟩ (asRes xs) v B):∃B',RepV w E (fun _=>False) ⟨fun _ _=>0,fun _=>0⟩ (asRes (shXs true xs)) v B'∧B'.Sublist B:=by
 cases xs with
 | nil=>
  have h:RepV w E _ _ (.tup []) v B:=h
  rw[RepV]at h
  obtain⟨vs,e1,h1⟩:=h
  obtain⟨B',k1,k2⟩:=h1.shX
  exact⟨B',by show RepV w E _ _ (.tup (shXs true [])) v B';rw[RepV];exact⟨vs,e1,k1⟩,k2⟩
 | cons x xs=>
  cases xs with
  | nil=>
   have h:RepV w E _ _ (.t x) v B:=h
   rw[RepV]at h
   obtain⟨cs,h1,h2⟩:=h
   obtain⟨B',k1,k2⟩:=Rep.shX true h1
   exact⟨B',by show RepV w E _ _ (.t (x.shX true)) v B';rw[RepV];exact⟨cs,k1,by rw[h2,zii]⟩,k2⟩
  | cons y ys=>
   have h:RepV w E _ _ (.tup (x::y::ys)) v B:=h
   rw[RepV]at h
   obtain⟨vs,e1,h1⟩:=h
   obtain⟨B',k1,k2⟩:=h1.shX
   exact⟨B',by show RepV w E _ _ (.tup (shXs true (x::y::ys))) v B';rw[RepV];exact⟨vs,e1,k1⟩,k2⟩
theorem zkT:∀{cs:List Cell} {outs:List AV},zfi cs=some outs→outs.length=cs.length∧∀(i:Nat) (c:Cell),cs[i]?=some c→∃x,c.val=.t x∧outs[i]?=some (.t x)
 | [],outs,h=>by rw[zfi]at h;cases h;exact⟨rfl,fun i c hc=>by simp at hc⟩
 | c::cs,outs,h=>by
  rw[zfi]at h
  obtain⟨val,og,ver,gen⟩:=c
  cases val with
  | t x=>
   dsimp only at h
   cases h2:zfi cs with
   | none=>rw[h2]at h;cases h
   | some ys=>
    rw[h2]at h
    cases h
    obtain⟨k1,k2⟩:=zkT h2
    refine⟨by simp[k1],fun i c hc=> ?_⟩
    cases i with
    | zero=>simp at hc;subst hc;exact⟨x,rfl,rfl⟩
    | succ i=>
     obtain⟨y,q1,q2⟩:=k2 i c (by simpa using hc)
     exact⟨y,q1,by simpa using q2⟩
  | _=>simp only at h;cases h
end
theorem zob {w : World} {E : Nat → Nat} {β : Bm} {τ : Loc → List Nat} {Ba M : List Nat} {vs : List Value} {args fb : List AV} {k : Nat} {gok : GlOk w Ba M} (h : Sim ⟨w, E, Ba, M, fun _ => none, gok⟩ w E β τ ⟨vs.toArray, []⟩ (argSt args fb)) (hk : args.length ≤ k)
  (hh:∀x∈args,x.handed=true) (hp:∀p∈ptrss args,p.1 < fb.length∧p.2=0) (hfb:∀x∈fb,∃y,x=AV.t y) (hg:∀i,i < fb.length→β.G i=0):
  ∃τ',Sim ⟨w,E,Ba,M,fun i=>if k≤i∧i-k < fb.length then some (β (i-k) 0)else none,gok⟩ w E ⟨fun b _=>if k≤b then β (b-k) 0 else 0,fun _=>0⟩ τ' {tmps:=vs.toArray++Array.replicate (k-vs.toArray.size) undef,defers:=[]} (entry args fb k):=by
 have hlen:vs.length=args.length:=by
  have:=h.len
  simpa [argSt] using this
 let τ':Loc→List Nat:=fun l=>match l with
  | .tm i=>if i < args.length then τ (.tm i)else []
  | .bx i=>if k≤i then τ (.bx (i-k))else []
 have mem:∀{l:Loc} {j:Nat},j∈τ' l→(∃i,l=.tm i∧i < args.length∧j∈τ (.tm i))∨(∃i,l=.bx i∧k≤i∧j∈τ (.bx (i-k))):=by
  intro l j hj
  cases l with
  | tm i=>
   have hj:j∈(if i < args.length then τ (.tm i)else []):=hj
   by_cases hi:i < args.length
   ·rw[if_pos hi]at hj;exact .inl ⟨i,rfl,hi,hj⟩
   ·rw[if_neg hi]at hj;cases hj
  | bx i=>
   have hj:j∈(if k≤i then τ (.bx (i-k))else []):=hj
   by_cases hi:k≤i
   ·rw[if_pos hi]at hj;exact .inr ⟨i,rfl,hi,hj⟩
   ·rw[if_neg hi]at hj;cases hj
 have gbx:∀(i:Nat) (c:Cell),(entry args fb k).bx[i]?=some c→c.val≠ .un→k≤i∧∃x,c=⟨.t x,none,0,0⟩∧fb[i-k]?=some (.t x)∧(argSt args fb).bx[i-k]?=some c:=by
  intro i c hc hv
  have hc:(List.replicate k (⟨.un,none,0,0⟩:Cell)++fb.map fun x=>(⟨x,none,0,0⟩:Cell))[i]?=some c:=hc
  by_cases hi:i < k
  ·rw[List.getElem?_append_left (by simpa using hi)]at hc
   rw[List.getElem?_replicate,if_pos hi]at hc
   cases hc
   exact absurd rfl hv
  ·rw[List.getElem?_append_right (by simpa using Nat.le_of_not_lt hi)]at hc
   simp only[List.length_replicate]at hc
   have hc2:=hc
   rw[List.getElem?_map]at hc
   cases hx:fb[i-k]? with
   | none=>rw[hx]at hc;cases hc
   | some x=>
    rw[hx]at hc
    obtain⟨y,rfl⟩:=hfb x (List.mem_of_getElem? hx)
    cases hc
    exact⟨by omega,y,rfl,rfl,hc2⟩
 refine⟨τ',rfl, ?_,fun i c hc=> ?_,fun i c hc hv=> ?_,fun l j hj=> ?_,fun l l' j hj hj'=> ?_,fun l=> ?_,fun l j i c hj hc hv=> ?_,fun i j c d hc hd hv hv' he=> ?_,fun i c kk l p n hc ho=> ?_,h.z,h.mz,h.mlt,h.blt,h.dis,fun b c hc=> ?_,h.fr,fun i j hj=> ?_⟩
 ·simp only[entry,Array.size_append,Array.size_replicate,List.length_append,List.length_map,List.length_replicate,zgL]
  simp[hlen]
 ·have hc:(((rens (k+·) args).map fun x=>(⟨x,none,0,0⟩:Cell))++List.replicate (k-args.length) ⟨.nd,none,0,0⟩)[i]?=some c:=hc
  by_cases hi:i < args.length
  ·rw[List.getElem?_append_left (by simpa [zgL] using hi),List.getElem?_map,zgK]at hc
   cases hx:args[i]? with
   | none=>rw[hx]at hc;cases hc
   | some x=>
    rw[hx]at hc
    cases hc
    have h1:=h.tm i ⟨x,none,0,0⟩ (by simp[argSt,hx])
    show RepV w E _ _ (x.ren (k+·)) _ (if i < args.length then τ (.tm i)else [])
    rw[if_pos hi]
    have e1:(vs.toArray++Array.replicate (k-vs.toArray.size) undef).getD i undef=(vs.toArray).getD i undef:=by
     have:i < vs.toArray.size:=by simp;omega
     rw[Array.getD_eq_getD_getElem?,Array.getD_eq_getD_getElem?,Array.getElem?_append_left this]
    rw[e1]
    clear e1
    refine RepV.ren (fun b g hb=> ?_) h1
    have hin:(b,g)∈ptrss args:=by
     clear hc h1 hlen hk gbx mem h hfb hg hi hh
     induction args generalizing i with
     | nil=>simp at hx
     | cons y ys ih=>
      rw[ptrss]
      cases i with
      | zero=>simp at hx;subst hx;exact List.mem_append_left _ hb
      | succ i=>exact List.mem_append_right _ (ih (fun p hp'=>hp p (by rw[ptrss];exact List.mem_append_right _ hp')) i (by simpa using hx))
    obtain⟨q1,q2⟩:=hp _ hin
    dsimp only at q1 q2
    subst q2
    show(if k≤k+b then β (k+b-k) 0 else 0)=β b 0
    rw[if_pos (by omega),Nat.add_sub_cancel_left]
  ·have hsz:((rens (k+·) args).map fun x=>(⟨x,none,0,0⟩:Cell)).length=args.length:=by simp[zgL]
   rw[List.getElem?_append_right (by rw[hsz];omega),hsz,List.getElem?_replicate]at hc
   by_cases hi2:i-args.length < k-args.length
   ·rw[if_pos hi2]at hc
    cases hc
    show RepV w E _ _ .nd _ (if i < args.length then τ (.tm i)else [])
    rw[if_neg hi,RepV]
    refine⟨?_,rfl⟩
    have:vs.toArray.size≤i:=by simp;omega
    show(vs.toArray++Array.replicate (k-vs.toArray.size) undef).getD i undef=undef
    rw[Array.getD_eq_getD_getElem?,Array.getElem?_append_right this,Array.getElem?_replicate]
    split<;>rfl
   ·rw[if_neg hi2]at hc;cases hc
 ·obtain⟨hki,x,rfl,q1,q2⟩:=gbx i c hc hv
  obtain⟨cells,ty,k1,k2,k3,k4⟩:=h.bx (i-k) _ q2 hv
  show∃(cells:Array Value) (ty:TypeId),w.heap[(if k≤i then β (i-k) 0 else 0)]?=_∧Rep w E x cells.toList (if k≤i then τ (.bx (i-k))else [])∧E (if k≤i then β (i-k) 0 else 0)=0∧(w.heap.size≤(if k≤i then β (i-k) 0 else 0)∨(if k≤i then β (i-k) 0 else 0)∈M)
  rw[if_pos hki,if_pos hki]
  exact⟨cells,ty,k1,k2,k3,k4⟩
 ·rcases mem hj with ⟨i,rfl,_,q⟩ | ⟨i,rfl,_,q⟩
  ·exact h.tok _ _ q
  ·exact h.tok _ _ q
 ·rcases mem hj with ⟨i,rfl,_,q⟩ | ⟨i,rfl,q0,q⟩<;>rcases mem hj' with ⟨i',rfl,_,q'⟩ | ⟨i',rfl,q0',q'⟩
  ·exact h.one _ _ j q q'
  ·cases h.one _ _ j q q'
  ·cases h.one _ _ j q q'
  ·have:=h.one _ _ j q q'
   injection this with this
   have:i=i':=by omega
   rw[this]
 ·cases l with
  | tm i=>
   show(if i < args.length then τ (.tm i)else []).Nodup
   split
   ·exact h.nod _
   ·exact List.nodup_nil
  | bx i=>
   show(if k≤i then τ (.bx (i-k))else []).Nodup
   split
   ·exact h.nod _
   ·exact List.nodup_nil
 ·obtain⟨hki,x,rfl,q1,q2⟩:=gbx i c hc hv
  show j≠(if k≤i then β (i-k) 0 else 0)
  rw[if_pos hki]
  rcases mem hj with ⟨i',rfl,_,q⟩ | ⟨i',rfl,_,q⟩
  ·exact h.tb _ j (i-k) _ q q2 hv
  ·exact h.tb _ j (i-k) _ q q2 hv
 ·obtain⟨hki,x,rfl,q1,q2⟩:=gbx i c hc hv
  obtain⟨hkj,y,rfl,q3,q4⟩:=gbx j d hd hv'
  have he:(if k≤i then β (i-k) 0 else 0)=(if k≤j then β (j-k) 0 else 0):=he
  rw[if_pos hki,if_pos hkj]at he
  have:=h.bb (i-k) (j-k) _ _ q2 q4 hv hv' he
  omega
 ·exfalso
  have hc:(((rens (k+·) args).map fun x=>(⟨x,none,0,0⟩:Cell))++List.replicate (k-args.length) ⟨.nd,none,0,0⟩)[i]?=some c:=hc
  have hm:=List.mem_of_getElem? hc
  rcases List.mem_append.1 hm with hm | hm
  ·obtain⟨x,hx,rfl⟩:=List.mem_map.1 hm
   obtain⟨i',hi'⟩:=zgi hx
   rw[zgK]at hi'
   cases hy:args[i']? with
   | none=>rw[hy]at hi';cases hi'
   | some y=>
    rw[hy]at hi'
    cases hi'
    have hd:=zhr (ρ:=(k+·)) (hh y (List.mem_of_getElem? hy))
    rcases ho with ho | ⟨_,ho⟩
    ·have ho:y.ren (k+·)=.xr _ _ _ _:=ho
     rw[ho]at hd
     cases hd
    ·cases ho
  ·rw[(List.mem_replicate.1 hm).2]at ho
   rcases ho with ho | ⟨_,ho⟩<;>cases ho
 ·have hc:(List.replicate k (⟨.un,none,0,0⟩:Cell)++fb.map fun x=>(⟨x,none,0,0⟩:Cell))[b]?=some c:=hc
  have hm:=List.mem_of_getElem? hc
  rcases List.mem_append.1 hm with hm | hm
  ·rw[(List.mem_replicate.1 hm).2]
  ·obtain⟨x,_,rfl⟩:=List.mem_map.1 hm
   rfl
 ·have hj:(if k≤i∧i-k < fb.length then some (β (i-k) 0)else none)=some j:=hj
  by_cases hi:k≤i∧i-k < fb.length
  ·rw[if_pos hi]at hj
   cases hj
   refine⟨?_, ?_⟩
   ·simp only[entry,List.length_append,List.length_map,List.length_replicate,zgL]
    omega
   ·show(if k≤i then β (i-k) 0 else 0)=_
    rw[if_pos hi.1]
  ·rw[if_neg hi]at hj;cases hj
theorem zjH {τ:Loc→List Nat} (h1:∀l,(τ l).Nodup) (h2:∀l l' k,k∈τ l→k∈τ l'→l=l'):∀{ls:List Loc},ls.Nodup→(ls.map τ).flatten.Nodup
 | [],_=>List.nodup_nil
 | l::ls,hn=>by
  rw[List.nodup_cons]at hn
  rw[List.map_cons,List.flatten_cons,List.nodup_append]
  refine⟨h1 l,zjH h1 h2 hn.2,fun x hx y hy e1=> ?_⟩
  subst e1
  obtain⟨B,hB,hxB⟩:=List.mem_flatten.1 hy
  obtain⟨l',hl',rfl⟩:=List.mem_map.1 hB
  have:=h2 l l' x hx hxB
  rw[this]at hn
  exact hn.1 hl'
theorem zoI {P : Program} {own : FuncId → Nat → Bool} {kp : FuncId → Nat → Option (List Nat × List Nat)} {X : FuncId → List AV → List AV → Option (AV × List AV)} (hm : P.follows .mixedOrders = true) (hX : ∀ f args fb r outs, X f args fb = some (r, outs) → zeQ P f args fb r outs) :
  ∀(n:Nat) (f:FuncId) (args fb:List AV) (r:AV) (outs:List AV),run P own kp X n f args fb=some (r,outs)→zeQ P f args fb r outs
 | 0,f,args,fb,r,outs,hr=>by rw[run]at hr;cases hr
 | n+1,f,args,fb,r,outs,hr=>by
  rw[run]at hr
  cases hx:X f args fb with
  | some p=>rw[hx]at hr;cases hr;exact hX f args fb r outs hx
  | none=>
   rw[hx]at hr
   dsimp only at hr
   cases hf:P.funcs[f]? with
   | none=>rw[hf]at hr;cases hr
   | some fn=>
    rw[hf]at hr
    dsimp only at hr
    cases hb:fn.body with
    | none=>rw[hb]at hr;cases hr
    | some c=>
     rw[hb]at hr
     dsimp only at hr
     by_cases hc:args.length=fn.params.size+fn.nfree∧args.length≤fn.ntmps∧zfY fn.ntmps fn.results.toList=true∧(fn.name== "runtime.NumGoroutine")=false
     case neg=>rw[if_neg hc]at hr;cases hr
     rw[if_pos hc]at hr
     obtain⟨_,hk,hnod,hname⟩:=hc
     cases he:exec ⟨P,run P own kp X n,own,fn.results.toList.map locOf,kp f,fun d=>own f (d+3000)⟩ n c (entry args fb fn.ntmps)with
     | none=>rw[he]at hr;cases hr
     | some p=>
      obtain⟨x,s⟩:=p
      rw[he]at hr
      have key:∃xs outs',x≠ .exit 0∧(x=.normal∨x=.ret)∧zec P s fn.results.toList=some xs∧zfi (s.bx.drop fn.ntmps)=some outs'∧outs'.length=fb.length∧r=asRes (if own f 2000=true then(if own f 2003=true then shXs true xs else xs)else pubs xs)∧outs=outs':=by
       have rest : ∀ (h : (match zec P s fn.results.toList, zfi (s.bx.drop fn.ntmps) with
         | some xs,some outs=>if outs.length=fb.length then some (asRes (if own f 2000=true then(if own f 2003=true then shXs true xs else xs)else pubs xs),outs)else none
         | _,_=>none)=some (r,outs)),∃xs outs',zec P s fn.results.toList=some xs∧zfi (s.bx.drop fn.ntmps)=some outs'∧outs'.length=fb.length∧r=asRes (if own f 2000=true then(if own f 2003=true then shXs true xs else xs)else pubs xs)∧outs=outs':=by
        intro h
        cases h1:zec P s fn.results.toList with
        | none=>rw[h1]at h;cases h
        | some xs=>
         cases h2:zfi (s.bx.drop fn.ntmps)with
         | none=>rw[h1,h2]at h;cases h
         | some outs'=>
          rw[h1,h2]at h
          dsimp only at h
          by_cases hl:outs'.length=fb.length
          ·rw[if_pos hl]at h;cases h;exact⟨xs,outs,rfl,rfl,hl,rfl,rfl⟩
          ·rw[if_neg hl]at h;cases h
       cases x with
       | exit i=>cases hr
       | normal=>obtain⟨xs,o1,q⟩:=rest hr;exact⟨xs,o1,(fun h=>by cases h),.inl rfl,q⟩
       | ret=>obtain⟨xs,o1,q⟩:=rest hr;exact⟨xs,o1,(fun h=>by cases h),.inr rfl,q⟩
      obtain⟨xs,outs',_,hx2,hres,houts,hlen,rfl,rfl⟩:=key
      intro w E β τ Ba vs gok hargs hptr hfb hBa hinj hsim
      have hG0:∀i,i < fb.length→β.G i=0:=fun i hi=>by
       have h1:=hsim.gn i ⟨fb[i],none,0,0⟩ (by simp[argSt,hi])
       exact h1.symm
      obtain⟨τ1,hent⟩:=zob hsim hk hargs hptr hfb hG0
      refine .inl ⟨fn,hf,by rw[hb];rfl,hname,calls_of_wp hf hb ?_⟩
      refine wp_mono (zgk (en:=⟨P,run P own kp X n,own,fn.results.toList.map locOf,kp f,fun d=>own f (d+3000)⟩) (fun f args fb r outs h=>zoI hm hX n f args fb r outs h) hm c hent he) ?_
      rintro ex a' w' ⟨rfl,E',β',τ',hs⟩
      obtain⟨v,hv1,hv2⟩:=zku hs hres
      obtain⟨o1,o2⟩:=zkT houts
      have hdl:(s.bx.drop fn.ntmps).length=fb.length:=by rw[←o1,hlen]
      have inj:∀{j:Nat},j < fb.length→β' (fn.ntmps+j) (β'.G (fn.ntmps+j))=β j 0∧s.tm.length≤fn.ntmps+j:=fun {j} hj=>by
       have hh:(if fn.ntmps≤fn.ntmps+j∧fn.ntmps+j-fn.ntmps < fb.length then some (β (fn.ntmps+j-fn.ntmps) 0)else none)=some (β j 0):=by
        rw[Nat.add_sub_cancel_left,if_pos ⟨by omega,hj⟩]
       obtain⟨q1,q2⟩:=hs.fx (fn.ntmps+j) (β j 0) hh
       exact⟨q2,q1⟩
      rw[zfY,Bool.and_eq_true,decide_eq_true_eq]at hnod
      obtain⟨hn1,hn2⟩:=hnod
      have hlocs:∀rv∈fn.results.toList,∀j,locOf rv≠ .bx (fn.ntmps+j):=by
       intro rv hrv j he
       have:=List.all_eq_true.1 hn2 rv hrv
       cases rv with
       | tmp t=>cases he
       | cell d t=>
        injection he with he
        have h2: @LT.lt Nat instLTNat d fn.ntmps:=of_decide_eq_true this
        rw[he]at h2
        omega
      have hflat:((fn.results.toList.map fun rv=>τ' (locOf rv)).flatten++((List.range fb.length).map fun j=>τ' (.bx (fn.ntmps+j))).flatten)=((fn.results.toList.map locOf++(List.range fb.length).map fun j=>Loc.bx (fn.ntmps+j)).map τ').flatten:=by
       rw[List.map_append,List.map_map,List.map_map,List.flatten_append]
       rfl
      have hR:∃v,(results fn a'.tmps).run P w'=.ok v w'∧∃E' B Bf,After w E β Ba fb.length (asRes (if own f 2000=true then(if own f 2003=true then shXs true xs else xs)else pubs xs)) outs v w' E' B Bf:=by
       have hR0:∃E' B Bf,After w E β Ba fb.length (asRes xs) outs v w' E' B Bf:= ?_
       ·obtain⟨E2,B2,Bf2,A⟩:=hR0
        refine⟨v,hv1, ?_⟩
        by_cases ho:own f 2000=true
        ·rw[if_pos ho]
         by_cases h3:own f 2003=true
         ·rw[if_pos h3]
          obtain⟨B3,q1,q2⟩:=zoa A.v
          exact⟨E2,B3,Bf2,A.fr,A.z,q1,A.lo,A.lb,A.at_,A.nod.sublist (q2.append (List.Sublist.refl _)),fun k hk=>A.tok k (by rcases List.mem_append.1 hk with hk | hk;exact List.mem_append_left _ (q2.subset hk);exact List.mem_append_right _ hk)⟩
         ·rw[if_neg h3];exact⟨E2,B2,Bf2,A⟩
        ·rw[if_neg ho]
         have hnd:=A.nod
         rw[List.nodup_append]at hnd
         have hout:∀k,(k < w.heap.size∧k∉Ba)→k∉B2:=fun k hk hb=>by
          rcases(A.tok k (List.mem_append_left _ hb)).2 with q | q
          ·omega
          ·exact hk.2 q
         have hM:∀k∈blks β fb.length,k∉B2:=fun k hk=>hout k ⟨hsim.mlt k hk,fun hb=>hsim.dis k hb hk⟩
         refine⟨pubB w' E2 B2,[],Bf2,⟨A.fr.size,fun k hk h1 h2=>⟨(A.fr.same k hk h1 h2).1,(if_neg (hout k ⟨hk,h1⟩)).trans (A.fr.same k hk h1 h2).2⟩,fun k hk hkw=>⟨Nat.le_trans (A.fr.ba k hk hkw).1 (zhO _ _ _ _),(A.fr.ba k hk hkw).2⟩,fun k hk hkw hnb he=>⟨(if_neg (hM k hk)).trans (A.fr.m k hk hkw hnb he).1,(A.fr.m k hk hkw hnb he).2⟩,A.fr.ext⟩,fun k hk=> ?_,zn9 A.v (zhO _ _ _) (fun k hk=>by show _≤(if k∈B2 then _ else _);rw[if_pos hk];omega),A.lo,A.lb,fun i hi=> ?_,by simpa using hnd.2.1,fun k hk=>A.tok k (List.mem_append_right _ (by simpa using hk))⟩
         ·have:k∉B2:=fun hb=>by have:=(A.tok k (List.mem_append_left _ hb)).1;omega
          exact(if_neg this).trans (A.z k hk)
         ·obtain⟨x,cells,ty,Bi,q1,q2,q3,q4,q5⟩:=A.at_ i hi
          refine⟨x,cells,ty,Bi,q1,q2,q3,Rep.mv ⟨fun k i hi=>⟨Nat.lt_of_lt_of_le hi (zhO _ _ _ _),rfl⟩,fun k hk=>⟨if_neg (fun hb=>hnd.2.2 k hb k (List.mem_flatten.2 ⟨Bi,List.mem_of_getElem? q2,hk⟩) rfl),rfl⟩⟩ q4,(if_neg (hM _ (List.mem_map.2 ⟨i,List.mem_range.2 hi,rfl⟩))).trans q5⟩
       refine⟨E',_,(List.range fb.length).map fun j=>τ' (.bx (fn.ntmps+j)),hs.fr,hs.z,hv2,hlen,by simp,fun i hi=> ?_, ?_,fun k hk=> ?_⟩
       ·have hc:(s.bx.drop fn.ntmps)[i]?=some ((s.bx.drop fn.ntmps)[i]'(by omega)):=List.getElem?_eq_getElem (by omega)
        obtain⟨y,q1,q2⟩:=o2 i _ hc
        have hc2:s.bx[fn.ntmps+i]?=some ((s.bx.drop fn.ntmps)[i]'(by omega)):=by rw[←hc,List.getElem?_drop]
        obtain⟨cells,ty,k1,k2,k3,k4⟩:=hs.bx _ _ hc2 (by rw[q1];exact fun h=>by cases h)
        rw[hs.gn _ _ hc2,(inj hi).1]at k1 k3
        rw[q1]at k2
        exact⟨y,cells,ty,_,q2,by simp[hi],k1,k2,k3⟩
       ·rw[hflat]
        refine zjH hs.nod hs.one ?_
        rw[List.nodup_append]
        refine⟨hn1, ?_,fun x hx y hy e1=> ?_⟩
        ·rw[List.Nodup,List.pairwise_map]
         refine List.Pairwise.imp ?_ List.pairwise_lt_range
         intro i j hij e1
         injection e1 with e1
         omega
        ·subst e1
         obtain⟨rv,hrv,rfl⟩:=List.mem_map.1 hx
         obtain⟨j,_,hj⟩:=List.mem_map.1 hy
         exact hlocs rv hrv j hj.symm
       ·rw[hflat]at hk
        obtain⟨B,hB,hkB⟩:=List.mem_flatten.1 hk
        obtain⟨l,_,rfl⟩:=List.mem_map.1 hB
        exact hs.tok l k hkB
      rcases hx2 with rfl | rfl
      ·exact⟨hs.dfr,hR⟩
      ·exact⟨hs.dfr,hR⟩
end Go.Proofs.YtgmidllbkjdnnaaGreatDoor.Flat
namespace Go.Proofs.YtgmidllbkjdnnaaGreatDoor.Flat
open Go.RowKit Go.ChangeShapes Go.WideShapes
set_option linter.unusedVariables false
set_option linter.unusedSimpArgs false
set_option linter.unusedSectionVars false
def All2 {α β:Type} (R:α→β→Prop):List α→List β→Prop
 | [],[]=>True
 | a::l,b::m=>R a b∧All2 R l m
 | _,_=>False
def TyT (P:Program):Nat→TypeId→T→Prop
 | 0,_,_=>False
 | n+1,t,x=>match P.underlying t with
  | some (.int k)=>∃a,x=.v (.int k a)∧(Lit.int k a).wf=true
  | some .bool=>∃b,x=.v (.bool b)
  | some .string=>∃s:ByteArray,x=.v (.string s)∧s.size≤140737488351232
  | some (.struct fs)=>∃xs,x=.st xs∧All2 (fun(f:Field) y=>TyT P n f.type y) fs.toList xs
  | some (.slice e)=>∃xs,x=.sl false (P.cellsOf e) xs∧xs.length * P.bytesOf e≤140737488351232∧∀y∈xs,TyT P n e y
  | _=>False
theorem ziP {α β:Type} {R S:α→β→Prop} (h:∀a b,R a b→S a b):∀{l:List α} {m:List β},All2 R l m→All2 S l m
 | [],[],_=>trivial
 | _::_,_::_,h'=>⟨h _ _ h'.1,ziP h h'.2⟩
 | [],_::_,h'=>h'.elim
 | _::_,[],h'=>h'.elim
theorem TyT.succ {P:Program}:∀{n:Nat} {t:TypeId} {x:T},TyT P n t x→TyT P (n+1) t x
 | 0,t,x,h=>h.elim
 | n+1,t,x,h=>by
  rw[TyT]at h⊢
  split at h
  ·exact h
  ·exact h
  ·exact h
  ·obtain⟨xs,e1,h1⟩:=h
   exact⟨xs,e1,ziP (fun f y h=>TyT.succ h) h1⟩
  ·obtain⟨xs,e1,h1,h2⟩:=h
   exact⟨xs,e1,h1,fun y hy=>TyT.succ (h2 y hy)⟩
  ·exact h.elim
theorem TyT.le {P:Program} {n m:Nat} {t:TypeId} {x:T} (hnm:n≤m) (h:TyT P n t x):TyT P m t x:=by
 obtain⟨j,rfl⟩:=Nat.exists_eq_add_of_le hnm
 induction j with
 | zero=>exact h
 | succ j ih=>exact TyT.succ (ih (by omega))
def lay (P:Program):List Field→Nat→Option Nat
 | [],o=>some o
 | f::fs,o=>if f.offset=o then lay P fs (o+P.cellsOf f.type)else none
def tysOk (P:Program) (ts:List TypeId):Bool:=ts.all fun t=>match P.underlying t with
 | some (.int _) | some .bool | some .string=>true
 | some (.struct fs)=>lay P fs.toList 0==some (P.cellsOf t)&&fs.toList.all fun f=>decide (f.type∈ts)
 | some (.slice e)=>decide (e∈ts)&&decide (0 < P.cellsOf e)
 | _=>false
theorem znl {w:World} {E:Nat→Nat} {P:Program} {cs:List Value}:∀{fs:List Field} {ys:List T} {o e:Nat},lay P fs o=some e→fs.length=ys.length→cs.length=e→(∀(i:Nat) (f:Field) (y:T),fs[i]?=some f→ys[i]?=some y→Rep w E y ((cs.drop f.offset).take (P.cellsOf f.type)) [])→RepS w E ys (cs.drop o) []
 | [],[],o,e,hl,_,hc,_=>by
  rw[lay]at hl
  cases hl
  rw[RepS]
  exact⟨List.drop_eq_nil_of_le (by omega),rfl⟩
 | [],_::_,o,e,_,h,_,_=>by cases h
 | _::_,[],o,e,_,h,_,_=>by cases h
 | f::fs,y::ys,o,e,hl,hn,hc,h=>by
  rw[lay]at hl
  by_cases ho:f.offset=o
  ·rw[if_pos ho]at hl
   have h1:=h 0 f y rfl rfl
   rw[ho]at h1
   have h2:=znl hl (by simpa using hn) hc (fun i f' y' hf hy=>h (i+1) f' y' (by simpa using hf) (by simpa using hy))
   rw[RepS]
   refine⟨_,_,[],[], ?_,rfl,h1,h2⟩
   rw[←List.drop_drop,List.take_append_drop]
  ·rw[if_neg ho]at hl;cases hl
theorem zjI {α β:Type} {R:α→β→Prop}:∀{l:List α} {m:List β},l.length=m.length→(∀(i:Nat) a b,l[i]?=some a→m[i]?=some b→R a b)→All2 R l m
 | [],[],_,_=>trivial
 | [],_::_,h,_=>by cases h
 | _::_,[],h,_=>by cases h
 | a::l,b::m,h,hr=>⟨hr 0 a b rfl rfl,(zjI (by simpa using h) fun i a' b' ha hb=>hr (i+1) a' b' (by simpa using ha) (by simpa using hb))⟩
theorem ziq {α:Type} {Q:Nat→α→Prop}:∀n:Nat,(∀i,i < n→∃a,Q i a)→∃l:List α,l.length=n∧∀(i:Nat) a,l[i]?=some a→Q i a
 | 0,_=>⟨[],rfl,fun i a h=>by simp at h⟩
 | n+1,h=>by
  obtain⟨l,hl,hq⟩:=ziq n (fun i hi=>h i (by omega))
  obtain⟨a,ha⟩:=h n (by omega)
  refine⟨l++[a],by simp[hl],fun i b hb=> ?_⟩
  by_cases hi:i < n
  ·rw[List.getElem?_append_left (by omega)]at hb
   exact hq i b hb
  ·have hi2:i=n:=by
    have:=(List.getElem?_eq_some_iff.1 hb).1
    simp at this
    omega
   subst hi2
   rw[List.getElem?_append_right (by omega),hl,Nat.sub_self]at hb
   simp at hb
   subst hb
   exact ha
theorem zjJ {H:Type} {P:Program} {e:TypeId}:∀{l:List (DataW H)} {y:DataW H},y∈l→∀z∈y.weights P e,z∈DataW.weightsAll P e l
 | d::r,y,hy,z,hz=>by
  simp only[DataW.weightsAll,List.mem_append]
  rcases List.mem_cons.1 hy with rfl | hy
  ·exact .inl hz
  ·exact .inr (zjJ hy z hz)
theorem znm {w:World} {sz:Nat} {ad:Addr} (hz:0 < sz):∀{xs:List T} {o:Nat},(∀(i:Nat) (x:T),xs[i]?=some x→∃cs,cs.length=sz∧(∀j u,cs[j]?=some u→w.cell? (ad.add (o+i * sz+j))=some u)∧Rep w (pubE w) x cs [])→RepA w (pubE w) sz ad o xs
 | [],o,h=>by rw[RepA];trivial
 | x::xs,o,h=>by
  rw[RepA]
  obtain⟨cs,h1,h2,h3⟩:=h 0 x rfl
  refine⟨⟨?_,cs,h1,fun j u hj=>by have:=h2 j u hj;simpa using this,h3⟩,znm hz fun i y hy=> ?_⟩
  ·have hlt:sz-1 < cs.length:=by omega
   have:=zpx (h2 (sz-1) _ (List.getElem?_eq_getElem hlt))
   rw[add_block,zgb]at this
   omega
  ·obtain⟨cs',q1,q2,q3⟩:=h (i+1) y (by simpa using hy)
   refine⟨cs',q1,fun j u hj=> ?_,q3⟩
   have:=q2 j u hj
   rw[←this]
   congr 2
   rw[Nat.add_mul]
   omega
mutual
def T.wt:T→Nat
 | .v (.string s)=>s.size+1
 | .v _=>1
 | .st fs=>wts fs+1
 | .sl _ _ xs=>wts xs+1
 | .xl _ xs=>wts xs+1
 | .op=>1
def wts:List T→Nat
 | []=>0
 | x::xs=>x.wt+wts xs
end
theorem zfv {H:Type} {u:DataW H→Nat}:∀{ys:List T} {ds:List (DataW H)},ys.length=ds.length→(∀(i:Nat) y d,ys[i]?=some y→ds[i]?=some d→y.wt≤u d)→wts ys≤(ds.map u).sum
 | [],_,_,_=>by rw[wts];exact Nat.zero_le _
 | y::ys,[],h,_=>by cases h
 | y::ys,d::ds,h,hr=>by
  rw[wts,List.map_cons,List.sum_cons]
  have h1:=hr 0 y d rfl rfl
  have h2:=zfv (ys:=ys) (ds:=ds) (by simpa using h) fun i y' d' ha hb=>hr (i+1) y' d' (by simpa using ha) (by simpa using hb)
  omega
theorem zmb {H:Type} {u:DataW H→Nat} (u1:∀d,1≤u d) (uS:∀b:List UInt8,b.length+1≤u (.lit (.string b))) (uA:∀l,(l.map u).sum+1≤u (.agg l)) (uL:∀l m,(l.map u).sum+1≤u (.slice l m)) {enc:TypeId × Value→H} {P:Program} {w:World} {base:Nat} {spare:Nat→Bool} {held:Bool} {ts:List TypeId} (hts:tysOk P ts=true):∀(n:Nat) (t:TypeId),t∈ts→∀cs x,DataW.trod enc P w base spare held n t cs=some x→(∀z∈x.1.weights P t,z≤reachBytes)→∃y,Rep w (pubE w) y cs []∧TyT P n t y∧y.wt≤u x.1:=by
 intro n
 induction n using Nat.strongRecOn with
 | _ n ih=>
 intro t ht cs x hx hw
 have hk:=List.all_eq_true.1 hts t ht
 have n0:∃m,n=m+1:=by
  cases n with
  | zero=>simp[DataW.trod]at hx
  | succ m=>exact⟨m,rfl⟩
 obtain⟨m,rfl⟩:=n0
 split at hk
 ·rename_i k hu
  obtain⟨a,rfl,_,hwf⟩:=DataW.trod_int hu hx
  exact⟨.v (.int k a),by rw[Rep];exact⟨rfl,rfl,rfl⟩,by rw[TyT,hu];exact⟨a,rfl,hwf⟩,by rw[T.wt];exact u1 _;intro s hs;cases hs⟩
 ·rename_i hu
  obtain⟨b,rfl,_⟩:=DataW.trod_bool hu hx
  exact⟨.v (.bool b),by rw[Rep];exact⟨rfl,rfl,rfl⟩,by rw[TyT,hu];exact⟨b,rfl⟩,by rw[T.wt];exact u1 _;intro s hs;cases hs⟩
 ·rename_i hu
  obtain⟨s,rfl,rfl,_⟩:=DataW.trod_string hu hx
  refine⟨.v (.string s),by rw[Rep];exact⟨rfl,rfl,rfl⟩, ?_,by rw[T.wt];have:=uS s.data.toList;simpa using this⟩
  rw[TyT,hu]
  refine⟨s,rfl, ?_⟩
  have h2:=hw s.data.toList.length (by simp[DataW.weights])
  have h3:s.size≤reachBytes:=by simpa using h2
  exact h3
 ·rename_i fs hu
  rw[Bool.and_eq_true]at hk
  obtain⟨hl,hin⟩:=hk
  have hl':lay P fs.toList 0=some (P.cellsOf t):=by simpa using hl
  obtain⟨xs,m',he,hxe,hlen,hxl,hf⟩:=DataW.trod_struct hu hx
  have hmm:m'=m:=by omega
  subst hmm
  obtain⟨ys,hyl,hy⟩:=ziq (Q:=fun i (y:T)=>∀f,fs[i]?=some f→Rep w (pubE w) y ((cs.drop f.offset).take (P.cellsOf f.type)) []∧TyT P m' f.type y∧∀z,xs[i]?=some z→y.wt≤u z.1) fs.size (fun i hi=>by
   have hfi:fs[i]?=some fs[i]:=Array.getElem?_eq_getElem hi
   have h1:=hf i _ hfi
   obtain⟨z,hz⟩:∃z,xs[i]?=some z:=⟨xs[i]'(by omega),List.getElem?_eq_getElem (by omega)⟩
   rw[hz]at h1
   have hmem:(fs[i]).type∈ts:=by
    have:=List.all_eq_true.1 hin fs[i] (by simp)
    simpa using this
   obtain⟨y,q1,q2,q3⟩:=ih m' (by omega) _ hmem _ z h1 (fun u hu2=>by
    subst hxe
    refine hw u ?_
    simp only[DataW.weights,hu]
    refine DataW.weights_mem_each (j:=i) (t:=fs[i].type) (d:=z.1) ?_ (by rw[List.getElem?_map,hz];rfl) u hu2
    rw[List.getElem?_map,Array.getElem?_toList,hfi]
    rfl)
   exact⟨y,fun f hf2=>by rw[hfi]at hf2;cases hf2;exact⟨q1,q2,fun z2 hz2=>by rw[hz]at hz2;cases hz2;exact q3⟩⟩)
  refine⟨.st ys, ?_, ?_, ?_⟩
  ·rw[Rep]
   have:=znl (w:=w) (E:=pubE w) (cs:=cs) (ys:=ys) hl' (by simp[hyl]) hlen (fun i f y h1 h2=>(hy i y h2 f (by simpa using h1)).1)
   rw[List.drop_zero]at this
   exact this
  ·rw[TyT,hu]
   exact⟨ys,rfl,zjI (by simp[hyl]) fun i f y h1 h2=>(hy i y h2 f (by simpa using h1)).2.1⟩
  ·rw[T.wt,hxe]
   have:=uA (xs.map (·.1))
   have h3:wts ys≤((xs.map (·.1)).map u).sum:=zfv (by simp[hyl,hxl]) fun i y d h1 h2=>by
    rw[List.getElem?_map]at h2
    cases hz:xs[i]? with
    | none=>rw[hz]at h2;cases h2
    | some z=>
     rw[hz]at h2
     cases h2
     have hi:i < fs.size:=by rw[←hyl];exact(List.getElem?_eq_some_iff.1 h1).1
     exact(hy i y h1 fs[i] (Array.getElem?_eq_getElem hi)).2.2 z hz
   have h4:((xs.map (·.1)).map u).sum+1≤u (.agg (xs.map (·.1))):=this
   dsimp only
   omega
 ·rename_i e hu
  rw[Bool.and_eq_true]at hk
  obtain⟨hin,hpos⟩:=hk
  have hin':e∈ts:=of_decide_eq_true hin
  have hpos':0 < P.cellsOf e:=of_decide_eq_true hpos
  rcases DataW.trod_slice hu hx with ⟨rfl,_⟩ | ⟨a,len,cap,elems,rest,m',he,rfl,rfl,_,hl,hm,hlen,hel,_,_⟩
  ·refine⟨.sl false (P.cellsOf e) [], ?_, ?_,by rw[T.wt,wts];exact u1 _⟩
   ·rw[Rep];exact⟨none,0,rfl,Nat.le_refl _,hpos',rfl,rfl,rfl⟩
   ·rw[TyT,hu];exact⟨[],rfl,by simp,fun y hy=>by cases hy⟩
  ·have hmm:m'=m:=by omega
   subst hmm
   have hwt:∀z∈DataW.weightsAll P e (elems.map (·.1)),z≤reachBytes:=fun z hz=>hw z (by simp only[DataW.weights,hu];exact List.mem_cons_of_mem _ (List.mem_append_left _ hz))
   have hlb:len * P.bytesOf e≤140737488351232:=by
    have:=hw (((elems.map (·.1)).length+(rest.map (·.1)).length) * P.bytesOf e) (by simp only[DataW.weights,hu];exact List.mem_cons_self)
    rw[List.length_map,List.length_map,hlen]at this
    exact Nat.le_trans (Nat.mul_le_mul_right _ (Nat.le_add_right _ _)) this
   obtain⟨ys,hyl,hy⟩:=ziq (Q:=fun i (y:T)=>TyT P m' e y∧(∀z,elems[i]?=some z→y.wt≤u z.1)∧∃c,c.length=P.cellsOf e∧(∀j u,c[j]?=some u→w.cell? (a.add (0+i * P.cellsOf e+j))=some u)∧Rep w (pubE w) y c []) len (fun i hi=>by
    have h1:=hel i hi
    obtain⟨z,hz⟩:∃z,elems[i]?=some z:=⟨elems[i]'(by omega),List.getElem?_eq_getElem (by omega)⟩
    rw[hz]at h1
    obtain⟨c,hcells,hc2⟩:=Option.bind_eq_some_iff.1 h1
    obtain⟨y,q1,q2,q3⟩:=ih m' (by omega) e hin' c z hc2 (fun u hu2=>hwt u (zjJ (List.mem_map.2 ⟨z,List.mem_of_getElem? hz,rfl⟩) u hu2))
    obtain⟨_,hcl,hcc⟩:=World.cells?_some hcells
    refine⟨y,q2,fun z2 hz2=>by rw[hz]at hz2;cases hz2;exact q3,c,hcl,fun j u hj=> ?_,q1⟩
    have hlt:j < P.cellsOf e:=by rw[←hcl];exact(List.getElem?_eq_some_iff.1 hj).1
    have:=hcc j hlt
    rw[hj,add_add]at this
    rw[Nat.zero_add]
    exact this)
   refine⟨.sl false (P.cellsOf e) ys, ?_, ?_, ?_⟩
   ·rw[Rep]
    refine⟨some a,cap,by rw[hyl],by omega,hpos', ?_,false,⟨fun h=>(by cases h),fun h=>(by cases h)⟩,rfl,fun h=>by cases h⟩
    exact znm hpos' fun i x hx=>(hy i x hx).2.2
   ·rw[TyT,hu]
    refine⟨ys,rfl,by rw[hyl];exact hlb,fun y hyin=> ?_⟩
    obtain⟨i,hi⟩:=List.getElem?_of_mem hyin
    exact(hy i y hi).1
   ·rw[T.wt]
    have h4:=uL (elems.map (·.1)) (rest.map (·.1))
    have h3:wts ys≤((elems.map (·.1)).map u).sum:=zfv (by simp[hyl,hlen]) fun i y d h1 h2=>by
     rw[List.getElem?_map]at h2
     cases hz:elems[i]? with
     | none=>rw[hz]at h2;cases h2
     | some z=>
      rw[hz]at h2
      cases h2
      exact(hy i y h1).2.1 z hz
    dsimp only
    omega
 ·cases hk
def zfO (w:World):List T→List Value→Prop
 | [],vs=>vs=[]
 | y::ys,vs=>∃v vr,vs=v::vr∧RepT w (pubE w) y v []∧zfO w ys vr
theorem zfO.len {w:World}:∀{ys:List T} {vs:List Value},zfO w ys vs→vs.length=ys.length
 | [],vs,h=>by rw[show vs=[] from h];rfl
 | y::ys,vs,h=>by
  obtain⟨v,vr,rfl,_,h2⟩:=h
  rw[List.length_cons,List.length_cons,zfO.len h2]
theorem zfO.get {w:World}:∀{ys:List T} {vs:List Value} {i:Nat} {y:T},zfO w ys vs→ys[i]?=some y→∃v,vs[i]?=some v∧RepT w (pubE w) y v []
 | [],vs,i,y,h,hy=>by simp at hy
 | z::ys,vs,i,y,h,hy=>by
  obtain⟨v,vr,rfl,h1,h2⟩:=h
  cases i with
  | zero=>simp at hy;subst hy;exact⟨v,rfl,h1⟩
  | succ i=>
   obtain⟨v',q1,q2⟩:=zfO.get (i:=i) h2 (by simpa using hy)
   exact⟨v',by simpa using q1,q2⟩
variable [Glob]
theorem zoJ {P : Program} {f : FuncId} {fn : Func} (hf : P.funcs[f]? = some fn) (hb : fn.body.isSome = true) (hn : (fn.name == "runtime.NumGoroutine") = false) {ys : List T} {vs : List Value} {w : World} (gok : GlOk w [] []) (ha : zfO w ys vs)
  (hc:zeQ P f (ys.map .t) [] (.t (.v (.bool true))) []):Calls P f vs.toArray w fun e w'=>e=.returned (.bool true)∧Below w.heap.size w w':=by
 have hsim:Sim ⟨w,pubE w,[],blks ⟨fun _ _=>0,fun _=>0⟩ 0,fun _=>none,gok⟩ w (pubE w) ⟨fun _ _=>0,fun _=>0⟩ (fun _=>[]) ⟨vs.toArray,[]⟩ (argSt (ys.map .t) []):=by
  refine⟨rfl, ?_,fun i c hc=> ?_,fun i c hc=>(by simp[argSt]at hc),fun l k hk=>(by cases hk),fun l l' k hk=>(by cases hk),fun l=>List.nodup_nil,fun l k i c hk=>(by cases hk),fun i j c d hc=>(by simp[argSt]at hc),fun i c kk l p n hc ho=> ?_,fun k hk=> ?_,fun k hk=>(by simp[blks]at hk),fun k hk=>(by simp[blks]at hk),fun k hk=>(by cases hk),fun k hk=>(by cases hk),fun b c hc=>(by simp[argSt]at hc),Fr.refl _ _ _ _,fun i k hk=>(by cases hk)⟩
  ·simp[argSt,ha.len]
  ·have hc:((ys.map AV.t).map fun x=>(⟨x,none,0,0⟩:Cell))[i]?=some c:=hc
   rw[List.getElem?_map,List.getElem?_map]at hc
   cases hy:ys[i]? with
   | none=>rw[hy]at hc;cases hc
   | some y=>
    rw[hy]at hc
    cases hc
    obtain⟨v,q1,q2⟩:=ha.get hy
    show RepV w (pubE w) _ _ (.t y) (vs.toArray.getD i undef) []
    rw[RepV]
    have:vs.toArray.getD i undef=v:=by simp[q1]
    rw[this]
    exact q2
  ·have hc:((ys.map AV.t).map fun x=>(⟨x,none,0,0⟩:Cell))[i]?=some c:=hc
   obtain⟨x,hx,rfl⟩:=List.mem_map.1 (List.mem_of_getElem? hc)
   obtain⟨y,_,rfl⟩:=List.mem_map.1 hx
   rcases ho with ho | ⟨_,ho⟩<;>cases ho
  ·unfold pubE
   rw[Array.getElem?_eq_none hk]
 have h:=hc w (pubE w) ⟨fun _ _=>0,fun _=>0⟩ (fun _=>[]) [] vs gok (fun x hx=>by obtain⟨y,_,rfl⟩:=List.mem_map.1 hx;rfl) (fun p hp=> ?_) (fun x hx=>by cases hx) (fun k hk=>by cases hk) (fun i j hi=>by simp at hi) hsim
 ·have fin:∀v w',(∃E' B Bf,After w (pubE w) ⟨fun _ _=>0,fun _=>0⟩ [] ([]:List AV).length (.t (.v (.bool true))) [] v w' E' B Bf)→v=.bool true∧Below w.heap.size w w':=by
   rintro v w' ⟨E',B,Bf,A⟩
   have hv:=A.v
   rw[RepV]at hv
   obtain⟨e1,_⟩:=zgf hv
   exact⟨e1,A.fr.ext.1,A.fr.ext.2.1,A.fr.ext.2.2,A.fr.size,fun k hk=>(A.fr.same k hk (fun h=>by cases h) (fun h=>by simp[blks]at h)).1⟩
  rcases h with ⟨fn',h1,h2,h3,h4⟩ | ⟨v,w',h1,_⟩
  ·refine h4.mono fun e w' he=> ?_
   cases e with
   | returned v=>obtain⟨q1,q2⟩:=fin v w' he;exact⟨by rw[q1],q2⟩
   | _=>exact he.elim
  ·rw[zhT hf hb hn]at h1
   cases h1
 ·exfalso
  clear hsim ha hc
  induction ys with
  | nil=>rw[List.map_nil,ptrss]at hp;cases hp
  | cons y ys ih=>
   rw[List.map_cons,ptrss,AV.ptrs]at hp
   ·exact ih (by simpa using hp)
   all_goals simp
end Go.Proofs.YtgmidllbkjdnnaaGreatDoor.Flat
namespace Go.Proofs.YtgmidllbkjdnnaaGreatDoor.Flat
set_option linter.unusedVariables false
set_option linter.unusedSimpArgs false
set_option linter.unusedSectionVars false
variable [Glob]
inductive Ans where
 | b (d:Bool)
 | v (x:Value)
 | t (x:T)
 | l (xs:List T)
 | c (r:AV) (outs:List AV)
 | k (x:Ex) (s:St)
 | j (i:Nat) (x:Ex) (s:St)
inductive Obl where
 | b (x d:Bool)
 | v (o:Option Value) (x:Value)
 | t (o:Option T) (x:T)
 | l (xs ys:List T)
 | le (m n:Nat)
 | n (x:Bool)
 | c (f:FuncId) (args fb:List AV) (r:AV) (outs:List AV)
 | k (cd:Code) (s:St) (x:Ex) (s':St)
 | j (cd:Code) (s:St) (x:Ex) (s':St)
def Obl.ok (e:Env) (n:Nat):Obl→Prop
 | .b x d=>x=d
 | .v o x=>o=some x
 | .t o x=>o=some x
 | .l xs ys=>xs=ys
 | .le m n=>m≤n
 | .c f args fb r outs=>e.call f args fb=some (r,outs)
 | .k cd s x s'=>exec e n cd s=some (x,s')
 | .j cd s x s'=>exec e n cd s=some (x,s')
 | .n x=>x=true
def scOf:List Obl→List Ans
 | []=>[]
 | .b _ d::r=>.b d::scOf r
 | .v _ x::r=>.v x::scOf r
 | .t _ x::r=>.t x::scOf r
 | .l _ xs::r=>.l xs::scOf r
 | .c _ _ _ x outs::r=>.c x outs::scOf r
 | .k _ _ x s::r=>.k x s::scOf r
 | .j cd _ x s::r=>.j (cd.rid 0) x s::scOf r
 | .le _ _::r=>scOf r
 | .n _::r=>scOf r
def Obls (e:Env) (n:Nat):List Obl→Prop
 | []=>True
 | o::os=>o.ok e n∧Obls e n os
theorem Obls.append {e:Env} {n:Nat}:∀{a b:List Obl},Obls e n (a++b)→Obls e n a∧Obls e n b
 | [],b,h=>⟨trivial,h⟩
 | o::a,b,h=>⟨⟨h.1,(Obls.append h.2).1⟩,(Obls.append h.2).2⟩
def N (α:Type):=List Ans→St→Option (α × St × List Ans × List Obl × List FL × List FL)
namespace N
def of {α:Type} (m:M α):N α:=fun sc s=>match m s with
 | some (a,s',r,w)=>some (a,s',sc,[],r,w)
 | none=>none
def fail {α:Type}:N α:=fun _ _=>none
def bind {α β:Type} (n:N α) (f:α→N β):N β:=fun sc s=>match n sc s with
 | some (a,s1,sc1,o1,r1,w1)=>(match f a sc1 s1 with
  | some (b,s2,sc2,o2,r2,w2)=>some (b,s2,sc2,o1++o2,r1++r2,w1++w2)
  | none=>none)
 | none=>none
def b (q:Bool):N Bool:=fun sc s=>match sc with
 | .b d::sc=>some (d,s,sc,[.b q d],[],[])
 | _=>none
def v (o:Option Value):N Value:=fun sc s=>match sc with
 | .v x::sc=>some (x,s,sc,[.v o x],[],[])
 | _=>none
def t (o:Option T):N T:=fun sc s=>match sc with
 | .t x::sc=>some (x,s,sc,[.t o x],[],[])
 | _=>none
def l (xs:List T):N (List T):=fun sc s=>match sc with
 | .l ys::sc=>some (ys,s,sc,[.l xs ys],[],[])
 | _=>none
def c (f:FuncId) (args fb:List AV):N (AV × List AV):=fun sc s=>match sc with
 | .c r outs::sc=>some ((r,outs),s,sc,[.c f args fb r outs],[],[])
 | _=>none
def need (q:Bool):N Unit:=fun sc s=>some ((),s,sc,[.n q],[],[])
def le (m n:Nat):N Unit:=fun sc s=>some ((),s,sc,[.le m n],[],[])
end N
section
variable (e:Env)
def zm1 (ops:Array Oper) (o:Oper):N Bool:=match o.guard with
 | none=>N.of (M.pure true)
 | some (j,want)=>match (ops[j]?).bind (·.dst)with
  | some d=>N.bind (N.of (M.get (.tm d))) fun c=>match c.val with
   | .t (.v (.bool b))=>N.bind (N.b b) fun b=>N.of (M.pure (b==want))
   | .nd=>N.of (M.pure false)
   | _=>N.fail
  | none=>N.fail
def zi9 (o:Oper) (f:FuncId) (xs:List (Operand × TypeId)) (more:List AV) (sb0:List Nat):N Unit:=
 N.bind (N.of (zie e f 0 xs)) fun p=>
 let zs:=p.1++more
 N.bind (N.of (M.when (zs.all AV.handed))) fun _=>
 let ps:=ptrss zs
 let bs:=uniq (ps.map (·.1))
 N.bind (N.of (handOver ps bs)) fun fb=>
 N.bind (N.of (held (sb0++p.2))) fun _=>
 N.bind (N.c f (rens (posOf bs) zs) fb) fun ro=>
 N.bind (N.of (M.when ro.1.plain)) fun _=>
 N.bind (N.of (zjf bs ro.2)) fun _=>
 N.of (wr o.dst ro.1 none)
def asks:BinOp→Value→Bool
 | .quo,_=>true
 | .rem,_=>true
 | .shl,_=>true
 | .shr,_=>true
 | .add,.string _=>true
 | _,_=>false
def zll (el:TypeId) (len:Nat) (dst:Option Nat) (fs:List T) (i:Int):N Unit:=
 N.bind (N.of (M.when (zgd e.P el fs))) fun _=>N.bind (N.need (decide (0≤i∧i < (len:Int)))) fun _=>N.bind (N.t fs[i.toNat]?) fun y=>N.of (wr dst (.ref y) none)
mutual
def pubN:T→N T
 | .st fs=>N.bind (pubsN fs) fun ys=>N.of (M.pure (.st ys))
 | .xl sz xs=>N.bind (N.l (pubs xs)) fun ys=>N.of (M.pure (.sl false sz ys))
 | x=>N.of (M.pure x.pub)
def pubsN:List T→N (List T)
 | []=>N.of (M.pure [])
 | x::xs=>N.bind (pubN x) fun y=>N.bind (pubsN xs) fun ys=>N.of (M.pure (y::ys))
end
def zm2 (l:Loc):N Unit:=fun sc s=>match s.get l with
 | none=>some ((),s,sc,[],[],[])
 | some c=>match c.val with
  | .t x=>(match pubN x sc s with
   | some (y,_,sc',ob,_,_)=>some ((),s.put l {c with val:=.t y},sc',ob,[],[])
   | none=>none)
  | _=>some ((),s,sc,[],[],[])
def zjK:List Loc→N Unit
 | []=>N.of (M.pure ())
 | l::ls=>N.bind (zm2 l) fun _=>zjK ls
def keepN (ks:Option (List Nat × List Nat)):N Unit:=fun sc s=>match ks with
 | none=>some ((),s,sc,[],[],[])
 | some (a,b)=>zjK ((a.filterMap fun i=>if 100000≤i then some (Loc.tm (i-100000))else none)++(b.filterMap fun i=>if 100000≤i then some (Loc.bx (i-100000))else none)) sc (s.forget (some (a,b)))
def lentN:List (Operand × TypeId)→N (List AV)
 | []=>N.of (M.pure [])
 | (x,t)::r=>N.bind (N.of (rdL x)) fun q=>
  N.bind (match q with
   | some (l,p,n)=>N.bind (N.bind (N.of (rdAt l n)) fun x=>N.t (x.get p)) fun z=>N.bind (pubN z) fun z'=>N.of (M.pure (AV.t z'))
   | none=>N.of (rdO e t x)) fun y=>match y with
  | .t y=>N.bind (lentN r) fun ys=>N.of (M.pure (AV.t y::ys))
  | _=>N.fail
def rdXN (l:Loc) (p:List Nat) (n:Nat):N T:=N.bind (N.of (rdAt l n)) fun x=>N.t (x.get p)
def idxXN (dst:Option Nat) (n:Nat) (i:Int) (l:Loc) (p:List Nat) (m:Nat):N Unit:=N.bind (rdXN l p m) fun z=>match z with
 | .xl sz xs=>N.bind (N.of (M.when (sz==n))) fun _=>N.bind (N.need (decide (0≤i))) fun _=>N.bind (N.t xs[i.toNat]?) fun _=>N.of (wrX dst true l (p++[i.toNat]) m)
 | .sl _ sz xs=>N.bind (N.of (M.when (sz==n))) fun _=>N.bind (N.need (decide (0≤i))) fun _=>N.bind (N.t xs[i.toNat]?) fun y=>N.of (wr dst (.ref y) none)
 | _=>N.fail
def lenXN (dst:Option Nat) (l:Loc) (p:List Nat) (m:Nat):N Unit:=N.bind (rdXN l p m) fun z=>match z with
 | .xl _ xs=>N.bind (N.v (some (.int .i64 (xs.length:Int)))) fun v=>N.of (wr dst (.t (.v v)) none)
 | .sl _ _ xs=>N.bind (N.v (some (.int .i64 (xs.length:Int)))) fun v=>N.of (wr dst (.t (.v v)) none)
 | _=>N.fail
def appXN (el:TypeId) (n bytes:Nat) (dst:Option Nat) (sz:Nat) (xs:List T) (u:TypeId) (y:Operand):N Unit:=
 N.bind (N.of (M.lift (zeroT e.P el))) fun z=>N.bind (N.of (M.when (sz==n&&z.size==n&&decide (0 < n)&&decide (0 < bytes)))) fun _=>N.bind (N.of (mvO e u y)) fun b=>match b with
 | .t (.xl sz' ys)=>N.bind (N.of (M.lift (elemOf e u))) fun _=>N.bind (N.of (M.when (sz'==n))) fun _=>N.bind (N.le ((xs.length+ys.length) * bytes) 140737488355328) fun _=>N.bind (N.l (xs++ys)) fun zs=>N.of (wr dst (.t (.xl sz zs)) none)
 | .t (.sl _ sz' ys)=>N.bind (N.of (M.lift (elemOf e u))) fun _=>N.bind (N.of (M.when (sz'==n))) fun _=>N.bind (N.le ((xs.length+ys.length) * bytes) 140737488355328) fun _=>N.bind (N.l (xs++ys)) fun zs=>N.of (wr dst (.t (.xl sz zs)) none)
 | _=>N.fail
def zoK (l:Loc) (p:List Nat) (n:Nat):N AV:=N.bind (N.of (M.get l)) fun d=>N.bind (N.of (M.when (d.ver==n))) fun _=>match d.val with
 | .t x=>N.bind (N.t (x.get p)) fun z=>N.bind (N.t (x.rep p z.sh)) fun x'=>N.bind (N.of (M.putK (x.far p) l {d with val:=.t x'})) fun _=>N.of (M.pure (.t z))
 | _=>N.fail
def zm3 (i:Nat):N AV:=if e.mkx (4000000+i)=true then N.bind (N.of (M.get (.tm i))) fun c=>(match c.val with
 | .xr false l p n=>zoK l p n
 | _=>N.fail)else N.of (takeO i)
def znn (o:Oper) (f:FuncId) (xs:List (Operand × TypeId)):N Unit:=N.bind (lentN e xs) fun ys=>N.bind (N.c f ys []) fun ro=>match ro.1,ro.2 with
 | .t y,[]=>N.bind (N.of (M.when y.owned)) fun _=>N.of (wr o.dst (.t y) none)
 | .tup ys,[]=>N.bind (N.of (M.when (zfE ys))) fun _=>N.of (wr o.dst (.tup ys) none)
 | _,_=>N.fail
def fireN (o:Oper):N Unit:=match o.op with
 | .load t a=>N.bind (N.of (rdPS a)) fun pl=>match pl with
  | .xp l p n=>N.bind (N.of (rdAt l n)) fun x=>N.bind (N.t (x.get p)) fun y=>N.bind (N.of (M.when (x.far p&&fits e.P t y))) fun _=>N.of (if y.hasX=true then wrX o.dst false l p n else wr o.dst (.t y.sh) none)
  | pl=>N.of (loadP e o t pl)
 | .store t a x=>N.bind (N.of (rdP a)) fun pl=>match pl with
  | .xp _ _ _=>N.bind (N.of (mvO e t x)) fun y=>N.bind (N.of (rdP a)) fun pl=>match pl with
   | .xp l p n=>N.bind (N.of (M.get l)) fun c=>N.bind (N.of (M.when (c.ver==n))) fun _=>match c.val,y with
    | .t old,.t y=>N.bind (N.t (old.get p)) fun y0=>N.bind (N.t (old.rep p (y.shX false))) fun new=>N.bind (N.of (M.when (old.far p&&fits e.P t y0&&y.size==y0.size))) fun _=>
     N.bind (N.of (M.put l {c with val:=.t new,og:=none,ver:=c.ver+1})) fun _=>N.of (wr o.dst .nd none)
    | _,_=>N.fail
   | _=>N.fail
  | pl=>N.of (zji e o t a x pl)
 | .fieldAddr t x f=>N.bind (N.of (M.lift (zfM e t f))) fun ft=>match x with
  | .tmp i=>N.bind (N.of (M.get (.tm i))) fun c=>match c.val with
   | .xr true l p n=>N.bind (rdXN l p n) fun z=>match z with
    | .st fs=>N.bind (N.of (M.when (sizes (fs.take f)==ft.2&&decide (f < fs.length)))) fun _=>N.of (wrX o.dst true l (p++[f]) n)
    | _=>N.fail
   | _=>N.of (zif o f ft.2 c)
  | _=>N.fail
 | .field t x f=>N.bind (N.of (M.lift (zfM e t f))) fun ft=>N.bind (N.of (rdL x)) fun g=>match g with
  | some (l,p,n)=>N.bind (rdXN l p n) fun z=>match z with
   | .st fs=>(match fs[f]? with
    | some y=>N.bind (N.of (M.when (sizes (fs.take f)==ft.2&&fits e.P ft.1 y))) fun _=>N.of (if y.hasX=true then wrX o.dst false l (p++[f]) n else wr o.dst (.t y.sh) none)
    | none=>N.fail)
   | _=>N.fail
  | none=>N.bind (N.of (rdO e t x)) fun y=>match y with
   | .t (.st fs)=>(match fs[f]? with
    | some y=>N.bind (N.of (M.when (sizes (fs.take f)==ft.2&&fits e.P ft.1 y))) fun _=>N.of (wr o.dst (.t y) none)
    | none=>N.fail)
   | _=>N.fail
 | .makeSlice t l c=>N.bind (N.of (M.lift (elemOf e t))) fun p=>N.bind (N.of (M.lift (e.P.info? p.1))) fun i=>N.bind (N.of (M.lift (zeroT e.P p.1))) fun z=>N.bind (N.of (rdI l)) fun a=>N.bind (N.of (rdI c)) fun b=>
  N.bind (N.of (M.when (z.size==p.2&&decide (0 < p.2)))) fun _=>N.bind (N.need (decide (0≤a∧a≤b∧(i.bytes:Int) * b≤281474976710656∧b≤9223372036854775807))) fun _=>
  N.bind (N.l (List.replicate a.toNat (z.sh.shX false))) fun zs=>N.of (wr o.dst (.t (if mkD e o.dst 0=true then .xl p.2 zs else .sl true p.2 zs)) none)
 | .pick c a b=>N.bind (N.of (rdV c)) fun v=>match v with
  | .bool q=>N.bind (N.b q) fun q=>N.bind (N.of (rdO e o.type (if q=true then a else b))) fun y=>N.of (wr o.dst y none)
  | _=>N.fail
 | .indexAddr t x ix=>match arrOf e.P t with
  | some (len,el)=>N.bind (N.of (rdI ix)) fun i=>N.bind (N.of (M.lift (sizeT e.P el))) fun n=>match x with
   | .tmp j=>N.bind (N.of (M.get (.tm j))) fun c=>match c.val with
    | .ptr b g p off=>N.bind (N.of (M.when (decide (0≤i∧i < (len:Int))))) fun _=>N.of (wr o.dst (.ptr b g (p++[i.toNat]) (off+i.toNat * n)) none)
    | .ref (.st fs)=>zll e el len o.dst fs i
    | _=>N.fail
   | .global g=>(match Glob.gl g with
    | some (.st fs)=>zll e el len o.dst fs i
    | _=>N.fail)
   | _=>N.fail
  | none=>N.bind (N.of (rdI ix)) fun i=>N.bind (N.of (M.lift (elemOf e t))) fun p=>N.bind (N.of (rdL x)) fun g=>match g with
  | some (l,q,m)=>idxXN o.dst p.2 i l q m
  | none=>N.bind (N.of (rdO e t x)) fun y=>match y with
  | .t (.sl _ sz xs)=>N.bind (N.of (M.when (sz==p.2))) fun _=>N.bind (N.need (decide (0≤i))) fun _=>N.bind (N.t xs[i.toNat]?) fun y=>N.of (wr o.dst (.ref y) none)
  | _=>N.fail
 | .index t x ix=>match arrOf e.P t with
  | some (len,el)=>N.bind (N.of (rdI ix)) fun i=>N.bind (N.of (rdO e t x)) fun y=>match y with
   | .t (.st fs)=>N.bind (N.of (M.when (zgd e.P el fs))) fun _=>N.bind (N.need (decide (0≤i∧i < (len:Int)))) fun _=>N.bind (N.t fs[i.toNat]?) fun y=>N.of (wr o.dst (.t y) none)
   | _=>N.fail
  | none=>N.bind (N.of (rdV ix)) fun i=>N.bind (N.of (rdV x)) fun s=>N.bind (N.v (ev e.P (Instr.index t s i))) fun v=>N.bind (N.of (M.when (okv v))) fun _=>N.of (wr o.dst (.t (.v v)) none)
 | .binOp op t x y _=>N.bind (N.of (rdS x)) fun g=>match g with
  | some fs=>N.of (binS e o op t y fs)
  | none=>N.bind (N.of (rdV x)) fun a=>N.bind (N.of (rdV y)) fun b=>
  N.bind (if asks op a=true then N.v (ev e.P (do eqGuard op t x y a b;binOp op t a b))else N.of (M.lift (ev e.P (do eqGuard op t x y a b;binOp op t a b)))) fun v=>
  N.bind (N.of (M.when (okv v))) fun _=>N.of (wr o.dst (.t (.v v)) none)
 | .slice t x lo hi none=>N.bind (N.of (rdO e t x)) fun y=>match y with
  | .t (.sl _ sz xs)=>N.bind (N.of (M.lift (elemOf e t))) fun p=>
   N.bind (N.of (match lo with | some v=>rdI v | none=>M.pure 0)) fun l=>
   N.bind (match hi with | some v=>N.of (rdI v) | none=>N.bind (N.v (some (.int .i64 (xs.length:Int)))) fun v=>(match v with | .int _ n=>N.of (M.pure n) | _=>N.fail)) fun h=>
   N.bind (N.of (M.when (sz==p.2))) fun _=>N.bind (N.need (decide (0≤l∧l≤h∧h≤(xs.length:Int)))) fun _=>
   N.bind (N.l ((xs.take h.toNat).drop l.toNat)) fun zs=>N.of (wr o.dst (.t (.sl false sz zs)) none)
  | .t (.v s)=>
   N.bind (N.of (match lo with | some v=>(rdV v) >>=fun u=>M.pure (some u) | none=>M.pure none)) fun l=>
   N.bind (N.of (match hi with | some v=>(rdV v) >>=fun u=>M.pure (some u) | none=>M.pure none)) fun h=>
   N.bind (N.v (ev e.P (Instr.sliceAt t s l h none))) fun v=>N.bind (N.of (M.when (okv v))) fun _=>N.of (wr o.dst (.t (.v v)) none)
  | _=>N.fail
 | .call c=>(match c.callee with
  | .builtin .len=>(match c.args.toList,c.argTypes.toList with
   | [x],[t]=>N.bind (N.of (rdL x)) fun g=>match g with
    | some (l,q,m)=>N.bind (N.of (M.lift (elemOf e t))) fun _=>lenXN o.dst l q m
    | none=>N.bind (N.of (rdO e t x)) fun y=>match y with
    | .t (.sl _ _ xs)=>N.bind (N.of (M.lift (elemOf e t))) fun _=>N.bind (N.v (some (.int .i64 (xs.length:Int)))) fun v=>N.of (wr o.dst (.t (.v v)) none)
    | .t (.v s)=>N.bind (N.of (M.lift (ev e.P (Builtin.len_ c.argTypes o.type #[s])))) fun v=>N.bind (N.of (M.when (okv v))) fun _=>N.of (wr o.dst (.t (.v v)) none)
    | _=>N.fail
   | _,_=>N.fail)
  | .builtin .append=>(match c.args.toList,c.argTypes.toList with
   | [x,y],[t,u]=>N.bind (N.of (M.lift (elemOf e t))) fun p=>N.bind (N.of (M.lift (e.P.info? p.1))) fun i=>
    N.bind (match x with | .tmp j=>zm3 e j | x=>N.of (rdO e t x)) fun a=>match a with
    | .t (.xl sz xs)=>appXN e p.1 p.2 i.bytes o.dst sz xs u y
    | .t (.sl true sz xs)=>if (mkD e o.dst 0&&xs.isEmpty)=true then appXN e p.1 p.2 i.bytes o.dst sz [] u y else N.bind (N.of (M.lift (zeroT e.P p.1))) fun z=>N.bind (N.of (M.when (sz==p.2&&z.size==p.2&&decide (0 < p.2)&&decide (0 < i.bytes)))) fun _=>
     N.bind (N.of (rdO e u y)) fun b=>match b with
     | .t (.sl _ sz' ys)=>N.bind (N.of (M.lift (elemOf e u))) fun _=>N.bind (N.of (M.when (sz'==p.2))) fun _=>N.bind (N.le ((xs.length+ys.length) * i.bytes) 140737488355328) fun _=>
      N.bind (N.l (xs++ys)) fun zs=>N.of (wr o.dst (.t (.sl true sz zs)) none)
     | .t (.v (.string b))=>N.bind (N.of (M.when ((match e.P.underlying u with | some .string=>true | _=>false)&&p.2==1))) fun _=>N.bind (N.le ((xs.length+b.size) * i.bytes) 140737488355328) fun _=>
      N.bind (N.l (xs++(byteCells b).map .v)) fun zs=>N.of (wr o.dst (.t (.sl true sz zs)) none)
     | _=>N.fail
    | _=>N.fail
   | _,_=>N.fail)
  | .value (.func f)=>N.bind (N.of (M.when (decide (c.args.size≤c.argTypes.size)))) fun _=>if e.own f 2001=true then znn e o f (c.args.toList.zip c.argTypes.toList)else zi9 e o f (c.args.toList.zip c.argTypes.toList) [] []
  | .value (.tmp j)=>N.bind (N.of (M.get (.tm j))) fun d=>match d.val with
   | .fn f caps=>N.bind (N.of (seals e f 0 caps)) fun p=>N.bind (N.of (M.when (decide (c.args.size≤c.argTypes.size)))) fun _=>zi9 e o f (c.args.toList.zip c.argTypes.toList) p.1 p.2
   | _=>N.fail
  | _=>N.of (fire e o))
 | _=>N.of (fire e o)
def zlm (ops:Array Oper) (o:Oper):N Unit:=N.bind (zm1 ops o) fun b=>match b with
 | true=>fireN e o
 | false=>N.of (wr o.dst .nd none)
def zgl (ops:Array Oper):List Oper→List Ans→St→Option (St × List Ans × List Obl × List (List FL × List FL))
 | [],sc,s=>some (s,sc,[],[])
 | o::os,sc,s=>match zlm e ops o sc s with
  | some (_,s',sc',ob,r,w)=>(match zgl ops os sc' s' with
   | some (s2,sc2,ob2,fs)=>some (s2,sc2,ob++ob2,(r,w)::fs)
   | none=>none)
  | none=>none
def zln (k:Nat):Option (Ex × St × List Ans × List Obl)→Option (Ex × St × List Ans × List Obl)
 | some (.normal,s,sc,ob)=>(match e.keep k with
  | none=>some (.normal,s,sc,ob)
  | some p=>match keepN (some p) sc s.norm with
   | some (_,s2,sc2,ob2,_,_)=>some (.normal,s2,sc2,ob++ob2)
   | none=>none)
 | r=>r
def execN:Code→List Ans→St→Option (Ex × St × List Ans × List Obl)
 | .skip,sc,s=>some (.normal,s,sc,[])
 | .region id ops draw,sc,s=>match zgl e ops ops.toList sc s with
  | some (s',sc',ob,fs)=>if (draw&& !zih ops fs)=true then none else(match keepN (e.keep id) sc' s'.norm with
   | some (_,s2,sc2,ob2,_,_)=>some (.normal,s2,sc2,ob++ob2)
   | none=>none)
  | none=>none
 | .seq a b,sc,s=>match execN a sc s with
  | some (.normal,s1,.j i x s2::sc1,ob)=>if i=b.rid 0 then some (x,s2,sc1,ob++[.j b s1 x s2])else(match execN b (.j i x s2::sc1) s1 with
   | some (x,s2,sc2,ob2)=>some (x,s2,sc2,ob++ob2)
   | none=>none)
  | some (.normal,s1,sc1,ob)=>(match execN b sc1 s1 with
   | some (x,s2,sc2,ob2)=>some (x,s2,sc2,ob++ob2)
   | none=>none)
  | r=>r
 | .cond c x y,sc,s=>zln e (20000+x.rid (y.rid 0)) <| match rdV c s with
  | some (.bool b,_,_,_)=>(match sc with
   | .b true::sc=>(match execN x sc s with
    | some (z,s2,sc2,ob2)=>some (z,s2,sc2,.b b true::ob2)
    | none=>none)
   | .b false::sc=>(match execN y sc s with
    | some (z,s2,sc2,ob2)=>some (z,s2,sc2,.b b false::ob2)
    | none=>none)
   | _=>none)
  | _=>none
 | .block id c,sc,s=>zln e (5000+id) <| match execN c sc s with
  | some (.exit i,s',sc',ob)=>if i=id then some (.normal,s',sc',ob)else some (.exit i,s',sc',ob)
  | r=>r
 | .loop c,sc,s=>match sc with
  | .k x s2::sc1=>some (x,s2,sc1,[.k (.loop c) s x s2])
  | _=>none
 | .exit id,sc,s=>some (.exit id,s,sc,[])
 | .ret,sc,s=>some (.ret,s,sc,[])
 | _,_,_=>none
end
def NS (e:Env) (k:Nat) {α:Type} (n:N α) (m:M α):Prop:=∀sc s a s' sc' ob r w,n sc s=some (a,s',sc',ob,r,w)→Obls e k ob→m s=some (a,s',r,w)
section
variable {e:Env} {k:Nat}
theorem NS.of {α:Type} (m:M α):NS e k (N.of m) m:=by
 intro sc s a s' sc' ob r w h ho
 unfold N.of at h
 cases hm:m s with
 | none=>rw[hm]at h;cases h
 | some p=>obtain⟨a1,s1,r1,w1⟩:=p;rw[hm]at h;cases h;rfl
theorem NS.fail {α:Type} (m:M α):NS e k (N.fail:N α) m:=by
 intro sc s a s' sc' ob r w h ho
 cases h
theorem N.bind_some {α β : Type} {n : N α} {f : α → N β} {sc : List Ans} {s : St} {b : β} {s2 : St} {sc2 : List Ans} {ob : List Obl} {r w : List FL} (h : N.bind n f sc s = some (b, s2, sc2, ob, r, w)) :
  ∃a s1 sc1 o1 r1 w1 o2 r2 w2,n sc s=some (a,s1,sc1,o1,r1,w1)∧f a sc1 s1=some (b,s2,sc2,o2,r2,w2)∧ob=o1++o2∧r=r1++r2∧w=w1++w2:=by
 unfold N.bind at h
 cases hn:n sc s with
 | none=>rw[hn]at h;cases h
 | some p=>
  obtain⟨a,s1,sc1,o1,r1,w1⟩:=p
  rw[hn]at h
  dsimp only at h
  cases hf:f a sc1 s1 with
  | none=>rw[hf]at h;cases h
  | some q=>
   obtain⟨b',s2',sc2',o2,r2,w2⟩:=q
   rw[hf]at h
   cases h
   exact⟨a,s1,sc1,o1,r1,w1,o2,r2,w2,rfl,hf,rfl,rfl,rfl⟩
theorem NS.bind {α β:Type} {n:N α} {m:M α} {f:α→N β} {g:α→M β} (h:NS e k n m) (hf:∀a,NS e k (f a) (g a)):NS e k (N.bind n f) (m >>=g):=by
 intro sc s b s2 sc2 ob r w hr ho
 obtain⟨a,s1,sc1,o1,r1,w1,o2,r2,w2,h1,h2,rfl,rfl,rfl⟩:=N.bind_some hr
 obtain⟨q1,q2⟩:=ho.append
 exact M.ze9 (h _ _ _ _ _ _ _ _ h1 q1) (hf a _ _ _ _ _ _ _ _ h2 q2)
theorem NS.b (q:Bool):NS e k (N.b q) (M.pure q):=by
 intro sc s a s' sc' ob r w h ho
 unfold N.b at h
 split at h
 ·cases h
  obtain⟨h1,_⟩:=ho
  have h1:q=a:=h1
  rw[h1]
  rfl
 ·cases h
theorem NS.v (o:Option Value):NS e k (N.v o) (M.lift o):=by
 intro sc s a s' sc' ob r w h ho
 unfold N.v at h
 split at h
 ·cases h
  obtain⟨h1,_⟩:=ho
  have h1:o=some a:=h1
  rw[h1]
  rfl
 ·cases h
theorem NS.t (o:Option T):NS e k (N.t o) (M.lift o):=by
 intro sc s a s' sc' ob r w h ho
 unfold N.t at h
 split at h
 ·cases h
  obtain⟨h1,_⟩:=ho
  have h1:o=some a:=h1
  rw[h1]
  rfl
 ·cases h
theorem NS.c (f:FuncId) (args fb:List AV):NS e k (N.c f args fb) (M.lift (e.call f args fb)):=by
 intro sc s a s' sc' ob r w h ho
 unfold N.c at h
 split at h
 ·cases h
  obtain⟨h1,_⟩:=ho
  have h1:e.call f args fb=some _:=h1
  rw[h1]
  rfl
 ·cases h
theorem NS.pre {α β:Type} {n:N α} {f:α→N β} {m:M β} (h:∀sc s a s1 sc1 o1 r1 w1,n sc s=some (a,s1,sc1,o1,r1,w1)→Obls e k o1→s1=s∧r1=[]∧w1=[]∧NS e k (f a) m):NS e k (N.bind n f) m:=by
 intro sc s b s2 sc2 ob r w hr ho
 obtain⟨a,s1,sc1,o1,r1,w1,o2,r2,w2,h1,h2,rfl,rfl,rfl⟩:=N.bind_some hr
 obtain⟨q1,q2⟩:=ho.append
 obtain⟨rfl,rfl,rfl,h3⟩:=h _ _ _ _ _ _ _ _ h1 q1
 exact h3 _ _ _ _ _ _ _ _ h2 q2
theorem NS.l {β:Type} {xs:List T} {f:List T→N β} {m:M β} (h:NS e k (f xs) m):NS e k (N.bind (N.l xs) f) m:=by
 refine NS.pre fun sc s a s1 sc1 o1 r1 w1 hr ho=> ?_
 unfold N.l at hr
 split at hr
 ·cases hr
  obtain⟨h1,_⟩:=ho
  have h1:xs=a:=h1
  subst h1
  exact⟨rfl,rfl,rfl,h⟩
 ·cases hr
theorem NS.vpre {β:Type} {x:Value} {f:Value→N β} {m:M β} (h:NS e k (f x) m):NS e k (N.bind (N.v (some x)) f) m:=by
 refine NS.pre fun sc s a s1 sc1 o1 r1 w1 hr ho=> ?_
 unfold N.v at hr
 split at hr
 ·cases hr
  obtain⟨h1,_⟩:=ho
  have h1:some x=some a:=h1
  cases h1
  exact⟨rfl,rfl,rfl,h⟩
 ·cases hr
theorem NS.when2 {β:Type} {p q:Bool} {f:N β} {g:M β} (h:NS e k f g):NS e k (N.bind (N.of (M.when p)) fun _=>N.bind (N.need q) fun _=>f) (M.when (p&&q) >>=fun _=>g):=by
 intro sc s b s2 sc2 ob r w hr ho
 obtain⟨_,s1,sc1,o1,r1,w1,o2,r2,w2,h1,h2,rfl,rfl,rfl⟩:=N.bind_some hr
 obtain⟨_,s3,sc3,o3,r3,w3,o4,r4,w4,h3,h4,rfl,rfl,rfl⟩:=N.bind_some h2
 cases p with
 | false=>cases h1
 | true=>
  cases h1
  cases h3
  obtain⟨q1,q2⟩:=ho
  have q1:q=true:=q1
  subst q1
  exact M.ze9 (r1:=[]) (w1:=[]) (s1:=s) rfl (h _ _ _ _ _ _ _ _ h4 q2)
theorem NS.zlo {β:Type} {p:Bool} {i j:Nat} {f:N β} {g:M β} (h:NS e k f g):NS e k (N.bind (N.of (M.when p)) fun _=>N.bind (N.le i j) fun _=>f) (M.when (p&&decide (i≤j)) >>=fun _=>g):=by
 intro sc s b s2 sc2 ob r w hr ho
 obtain⟨_,s1,sc1,o1,r1,w1,o2,r2,w2,h1,h2,rfl,rfl,rfl⟩:=N.bind_some hr
 obtain⟨_,s3,sc3,o3,r3,w3,o4,r4,w4,h3,h4,rfl,rfl,rfl⟩:=N.bind_some h2
 cases p with
 | false=>cases h1
 | true=>
  cases h1
  cases h3
  obtain⟨q1,q2⟩:=ho
  have q1:i≤j:=q1
  refine M.ze9 (a:=()) (r1:=[]) (w1:=[]) (s1:=s) ?_ (h _ _ _ _ _ _ _ _ h4 q2)
  unfold M.when
  rw[if_pos (by simpa using q1)]
theorem zoc (ops:Array Oper) (o:Oper):NS e k (zm1 ops o) (wants ops o):=by
 unfold zm1 wants
 cases hg:o.guard with
 | none=>exact NS.of _
 | some p=>
  obtain⟨j,want⟩:=p
  dsimp only
  cases hd:(ops[j]?).bind (·.dst)with
  | none=>exact NS.fail _
  | some d=>
   dsimp only
   refine NS.bind (NS.of _) fun c=> ?_
   cases hv:c.val with
   | t x=>
    cases x with
    | v y=>
     cases y with
     | bool b=>
      intro sc s a s' sc' ob r w h ho
      obtain⟨b',s1,sc1,o1,r1,w1,o2,r2,w2,h1,h2,rfl,rfl,rfl⟩:=N.bind_some h
      obtain⟨q1,q2⟩:=ho.append
      have h3:=NS.b b _ _ _ _ _ _ _ _ h1 q1
      cases h3
      exact NS.of (M.pure (b==want)) _ _ _ _ _ _ _ _ h2 q2
     | _=>exact NS.fail _
    | _=>exact NS.fail _
   | nd=>exact NS.of _
   | _=>exact NS.fail _
theorem zjL (o:Oper) (f:FuncId) (xs:List (Operand × TypeId)) (more:List AV) (sb0:List Nat):NS e k (zi9 e o f xs more sb0) (zho e o f xs more sb0):=by
 unfold zi9 zho
 refine NS.bind (NS.of _) fun p=> ?_
 obtain⟨ys,sb⟩:=p
 refine NS.bind (NS.of _) fun _=>NS.bind (NS.of _) fun fb=>NS.bind (NS.of _) fun _=>NS.bind (NS.c _ _ _) fun ro=> ?_
 obtain⟨r,outs⟩:=ro
 exact NS.bind (NS.of _) fun _=>NS.bind (NS.of _) fun _=>NS.of _
theorem zjM (el:TypeId) (len:Nat) (dst:Option Nat) (fs:List T) (i:Int):NS e k (zll e el len dst fs i) (zjj e el len dst fs i):=
 NS.when2 (NS.bind (NS.t _) fun y=>NS.of _)
mutual
theorem zlp:∀x:T,NS e k (pubN x) (M.pure x.pub)
 | .st fs=>by
  intro sc s a s' sc' ob r w h ho
  rw[pubN]at h
  obtain⟨ys,s1,sc1,o1,r1,w1,o2,r2,w2,h1,h2,rfl,rfl,rfl⟩:=N.bind_some h
  obtain⟨q1,q2⟩:=ho.append
  have e1:=zjN fs _ _ _ _ _ _ _ _ h1 q1
  cases e1
  cases h2
  rw[T.pub]
  rfl
 | .xl sz xs=>by
  intro sc s a s' sc' ob r w h ho
  rw[pubN]at h
  obtain⟨ys,s1,sc1,o1,r1,w1,o2,r2,w2,h1,h2,rfl,rfl,rfl⟩:=N.bind_some h
  unfold N.l at h1
  split at h1
  ·cases h1
   cases h2
   obtain⟨q1,_⟩:=ho
   have q1:pubs xs=ys:=q1
   rw[T.pub,q1]
   rfl
  ·cases h1
 | .v x=>by rw[pubN];exact NS.of _;all_goals simp
 | .sl o sz xs=>by rw[pubN];exact NS.of _;all_goals simp
 | .op=>by rw[pubN];exact NS.of _;all_goals simp
theorem zjN:∀xs:List T,NS e k (pubsN xs) (M.pure (pubs xs))
 | []=>by rw[pubsN,pubs];exact NS.of _
 | x::xs=>by
  intro sc s a s' sc' ob r w h ho
  rw[pubsN]at h
  obtain⟨y,s1,sc1,o1,r1,w1,o2,r2,w2,h1,h2,rfl,rfl,rfl⟩:=N.bind_some h
  obtain⟨ys,s3,sc3,o3,r3,w3,o4,r4,w4,h3,h4,rfl,rfl,rfl⟩:=N.bind_some h2
  obtain⟨q1,q2⟩:=ho.append
  obtain⟨q3,q4⟩:=q2.append
  have e1:=zlp x _ _ _ _ _ _ _ _ h1 q1
  cases e1
  have e2:=zjN xs _ _ _ _ _ _ _ _ h3 q3
  cases e2
  cases h4
  rw[pubs]
  rfl
end
theorem zmc {l:Loc} {sc:List Ans} {s s':St} {u:Unit} {sc':List Ans} {ob:List Obl} {r w:List FL} (h:zm2 l sc s=some (u,s',sc',ob,r,w)) (ho:Obls e k ob):s'=s.shed1 l:=by
 unfold zm2 at h
 unfold St.shed1
 cases hc:s.get l with
 | none=>rw[hc]at h;cases h;rfl
 | some c=>
  rw[hc]at h
  dsimp only at h⊢
  cases hv:c.val with
  | t x=>
   rw[hv]at h
   dsimp only at h⊢
   cases hp:pubN x sc s with
   | none=>rw[hp]at h;cases h
   | some p=>
    obtain⟨y,s1,sc1,ob1,r1,w1⟩:=p
    rw[hp]at h
    cases h
    have e1:=zlp x _ _ _ _ _ _ _ _ hp ho
    cases e1
    rfl
  | _=>rw[hv]at h;cases h;rfl
theorem ziQ:∀{ls:List Loc} {sc:List Ans} {s s':St} {u:Unit} {sc':List Ans} {ob:List Obl} {r w:List FL},zjK ls sc s=some (u,s',sc',ob,r,w)→Obls e k ob→s'=s.sheds ls
 | [],sc,s,s',u,sc',ob,r,w,h,ho=>by rw[zjK]at h;cases h;rfl
 | l::ls,sc,s,s',u,sc',ob,r,w,h,ho=>by
  rw[zjK]at h
  obtain⟨_,s1,sc1,o1,r1,w1,o2,r2,w2,h1,h2,rfl,rfl,rfl⟩:=N.bind_some h
  obtain⟨q1,q2⟩:=ho.append
  rw[St.sheds,←zmc h1 q1]
  exact ziQ h2 q2
theorem zjO {ks:Option (List Nat × List Nat)} {sc:List Ans} {s s':St} {u:Unit} {sc':List Ans} {ob:List Obl} {r w:List FL} (h:keepN ks sc s=some (u,s',sc',ob,r,w)) (ho:Obls e k ob):s'=s.keep ks:=by
 unfold keepN at h
 cases ks with
 | none=>cases h;rfl
 | some p=>obtain⟨a,b⟩:=p;exact ziQ h ho
theorem zmd:∀xs:List (Operand × TypeId),NS e k (lentN e xs) (lent e xs)
 | []=>NS.of _
 | (x,t)::xs=>by
  rw[lentN,lent]
  refine NS.bind (NS.of _) fun q=>NS.bind ?_ fun y=> ?_
  ·cases q with
   | none=>exact NS.of _
   | some g=>
    obtain⟨l,p,n⟩:=g
    refine NS.bind (NS.bind (NS.of _) fun _=>NS.t _) fun z=> ?_
    intro sc s a s' sc' ob r w h ho
    obtain⟨y,s1,sc1,o1,r1,w1,o2,r2,w2,h1,h2,rfl,rfl,rfl⟩:=N.bind_some h
    obtain⟨q1,q2⟩:=ho.append
    have e1:=zlp z _ _ _ _ _ _ _ _ h1 q1
    cases e1
    cases h2
    rfl
  ·cases y with
   | t y=>exact NS.bind (zmd xs) fun _=>NS.of _
   | _=>exact NS.fail _
theorem zja (l:Loc) (p:List Nat) (n:Nat):NS e k (rdXN l p n) (rdX l p n):=NS.bind (NS.of _) fun _=>NS.t _
theorem NS.need {β:Type} {q:Bool} {f:N β} {g:M β} (h:NS e k f g):NS e k (N.bind (N.need q) fun _=>f) (M.when q >>=fun _=>g):=by
 intro sc s b s2 sc2 ob r w hr ho
 obtain⟨_,s3,sc3,o3,r3,w3,o4,r4,w4,h3,h4,rfl,rfl,rfl⟩:=N.bind_some hr
 cases h3
 obtain⟨q1,q2⟩:=ho
 have q1:q=true:=q1
 subst q1
 exact M.ze9 (a:=()) (r1:=[]) (w1:=[]) (s1:=s) rfl (h _ _ _ _ _ _ _ _ h4 q2)
theorem zoL (dst:Option Nat) (n:Nat) (i:Int) (l:Loc) (p:List Nat) (m:Nat):NS e k (idxXN dst n i l p m) (idxX dst n i l p m):=by
 refine NS.bind (zja _ _ _) fun z=> ?_
 cases z with
 | xl sz xs=>exact NS.when2 (NS.bind (NS.t _) fun _=>NS.of _)
 | sl o sz xs=>exact NS.when2 (NS.bind (NS.t _) fun _=>NS.of _)
 | _=>exact NS.fail _
theorem zoM (dst:Option Nat) (l:Loc) (p:List Nat) (m:Nat):NS e k (lenXN dst l p m) (lenX dst l p m):=by
 refine NS.bind (zja _ _ _) fun z=> ?_
 cases z with
 | xl sz xs=>exact NS.vpre (NS.of _)
 | sl o sz xs=>exact NS.vpre (NS.of _)
 | _=>exact NS.fail _
theorem zme (el:TypeId) (n bytes:Nat) (dst:Option Nat) (sz:Nat) (xs:List T) (u:TypeId) (y:Operand):NS e k (appXN e el n bytes dst sz xs u y) (appX e el n bytes dst sz xs u y):=by
 refine NS.bind (NS.of _) fun z=>NS.bind (NS.of _) fun _=>NS.bind (NS.of _) fun b=> ?_
 cases b with
 | t b=>
  cases b with
  | xl sz ys=>exact NS.bind (NS.of _) fun _=>NS.zlo (NS.l (NS.of _))
  | sl o sz ys=>exact NS.bind (NS.of _) fun _=>NS.zlo (NS.l (NS.of _))
  | _=>exact NS.fail _
 | _=>exact NS.fail _
theorem zod (l:Loc) (p:List Nat) (n:Nat):NS e k (zoK l p n) (takeX l p n):=by
 refine NS.bind (NS.of _) fun d=>NS.bind (NS.of _) fun _=> ?_
 cases d.val with
 | t x=>exact NS.bind (NS.t _) fun z=>NS.bind (NS.t _) fun x'=>NS.bind (NS.of _) fun _=>NS.of _
 | _=>exact NS.fail _
theorem zoe (i:Nat):NS e k (zm3 e i) (takeO i):=by
 unfold zm3
 split
 ·refine NS.bind (NS.of _) fun c=> ?_
  cases c.val with
  | xr b l p n=>cases b with
   | true=>exact NS.fail _
   | false=>exact zod l p n
  | _=>exact NS.fail _
 ·exact NS.of _
theorem zm4 (o:Oper) (f:FuncId) (xs:List (Operand × TypeId)):NS e k (znn e o f xs) (zjh e o f xs):=by
 refine NS.bind (zmd _) fun ys=>NS.bind (NS.c _ _ _) fun ro=> ?_
 obtain⟨r,outs⟩:=ro
 cases r with
 | t y=>cases outs with
  | nil=>exact NS.bind (NS.of _) fun _=>NS.of _
  | cons _ _=>exact NS.fail _
 | tup ys=>cases outs with
  | nil=>exact NS.bind (NS.of _) fun _=>NS.of _
  | cons _ _=>exact NS.fail _
 | _=>exact NS.fail _
theorem zoN (o:Oper):NS e k (fireN e o) (fire e o):=by
 unfold fireN
 split
 ·rename_i t a hop
  unfold fire
  rw[hop]
  refine NS.bind (NS.of _) fun pl=> ?_
  cases pl with
  | xp l p n=>exact NS.bind (NS.of _) fun x=>NS.bind (NS.t _) fun y=>NS.bind (NS.of _) fun _=>NS.of _
  | _=>exact NS.of _
 ·rename_i t a x hop
  unfold fire
  rw[hop]
  refine NS.bind (NS.of _) fun pl=> ?_
  cases pl with
  | xp l p n=>
   refine NS.bind (NS.of _) fun y=>NS.bind (NS.of _) fun pl=> ?_
   cases pl with
   | xp l p n=>
    refine NS.bind (NS.of _) fun c=>NS.bind (NS.of _) fun _=> ?_
    cases c.val with
    | t old=>
     cases y with
     | t y=>exact NS.bind (NS.t _) fun y0=>NS.bind (NS.t _) fun new=>NS.bind (NS.of _) fun _=>NS.bind (NS.of _) fun _=>NS.of _
     | _=>exact NS.fail _
    | _=>exact NS.fail _
   | _=>exact NS.fail _
  | _=>exact NS.of _
 ·rename_i t x f hop
  unfold fire
  rw[hop]
  refine NS.bind (NS.of _) fun ft=> ?_
  cases x with
  | tmp i=>
   refine NS.bind (NS.of _) fun c=> ?_
   unfold zif
   cases c.val with
   | xr kk l p n=>
    cases kk with
    | true=>
     refine NS.bind (zja _ _ _) fun z=> ?_
     cases z with
     | st fs=>exact NS.bind (NS.of _) fun _=>NS.of _
     | _=>exact NS.fail _
    | false=>exact NS.of _
   | _=>exact NS.of _
  | _=>exact NS.fail _
 ·rename_i t x f hop
  unfold fire
  rw[hop]
  refine NS.bind (NS.of _) fun ft=>NS.bind (NS.of _) fun g=> ?_
  cases g with
  | some g=>
   obtain⟨l,p,n⟩:=g
   refine NS.bind (zja _ _ _) fun z=> ?_
   cases z with
   | st fs=>
    dsimp only
    cases fs[f]? with
    | none=>exact NS.fail _
    | some y=>exact NS.bind (NS.of _) fun _=>NS.of _
   | _=>exact NS.fail _
  | none=>
   refine NS.bind (NS.of _) fun y=> ?_
   cases y with
   | t y=>
    cases y with
    | st fs=>
     dsimp only
     cases fs[f]? with
     | none=>exact NS.fail _
     | some y=>exact NS.bind (NS.of _) fun _=>NS.of _
    | _=>exact NS.fail _
   | _=>exact NS.fail _
 ·rename_i t l c hop
  unfold fire
  rw[hop]
  refine NS.bind (NS.of _) fun p=>NS.bind (NS.of _) fun i=>NS.bind (NS.of _) fun z=>NS.bind (NS.of _) fun a=>NS.bind (NS.of _) fun b=>NS.bind (NS.of _) fun _=>NS.need (NS.l (NS.of _))
 ·rename_i c a b hop
  unfold fire
  rw[hop]
  refine NS.bind (NS.of _) fun v=> ?_
  split
  ·rename_i q
   intro sc s u s' sc' ob r w h ho
   obtain⟨b',s1,sc1,o1,r1,w1,o2,r2,w2,h1,h2,rfl,rfl,rfl⟩:=N.bind_some h
   obtain⟨q1,q2⟩:=ho.append
   have h3:=NS.b q _ _ _ _ _ _ _ _ h1 q1
   cases h3
   exact NS.bind (NS.of _) (fun y=>NS.of _) _ _ _ _ _ _ _ _ h2 q2
  ·exact NS.fail _
 ·rename_i t x ix hop
  unfold fire
  rw[hop]
  dsimp only
  cases hq:arrOf e.P t with
  | some p=>
   obtain⟨len,el⟩:=p
   refine NS.bind (NS.of _) fun i=>NS.bind (NS.of _) fun n=> ?_
   cases x with
   | tmp j=>
    refine NS.bind (NS.of _) fun c=> ?_
    cases c.val with
    | ptr b g p off=>exact NS.bind (NS.of _) fun _=>NS.of _
    | ref z=>
     cases z with
     | st fs=>exact zjM _ _ _ _ _
     | _=>exact NS.fail _
    | _=>exact NS.fail _
   | global g=>
    dsimp only
    cases Glob.gl g with
    | none=>exact NS.fail _
    | some z=>
     cases z with
     | st fs=>exact zjM _ _ _ _ _
     | _=>exact NS.fail _
   | const v=>exact NS.fail _
   | func f=>exact NS.fail _
  | none=>
   refine NS.bind (NS.of _) fun i=>NS.bind (NS.of _) fun p=> ?_
   obtain⟨el,n⟩:=p
   refine NS.bind (NS.of _) fun g=> ?_
   cases g with
   | some g=>
    obtain⟨l,q,m⟩:=g
    exact zoL _ _ _ _ _ _
   | none=>
   refine NS.bind (NS.of _) fun y=> ?_
   split
   ·exact NS.when2 (NS.bind (NS.t _) fun y=>NS.of _)
   ·exact NS.fail _
 ·rename_i t x ix hop
  unfold fire
  rw[hop]
  dsimp only
  cases arrOf e.P t with
  | some p=>
   obtain⟨len,el⟩:=p
   refine NS.bind (NS.of _) fun i=>NS.bind (NS.of _) fun y=> ?_
   split
   ·exact NS.when2 (NS.bind (NS.t _) fun y=>NS.of _)
   ·exact NS.fail _
  | none=>exact NS.bind (NS.of _) fun i=>NS.bind (NS.of _) fun s=>NS.bind (NS.v _) fun v=>NS.bind (NS.of _) fun _=>NS.of _
 ·rename_i op t x y t' hop
  unfold fire
  rw[hop]
  refine NS.bind (NS.of _) fun g=> ?_
  cases g with
  | some fs=>exact NS.of _
  | none=>
   refine NS.bind (NS.of _) fun a=>NS.bind (NS.of _) fun b=>NS.bind ?_ fun v=>NS.bind (NS.of _) fun _=>NS.of _
   split
   ·exact NS.v _
   ·exact NS.of _
 ·rename_i t x lo hi hop
  unfold fire
  rw[hop]
  refine NS.bind (NS.of _) fun y=> ?_
  split
  ·rename_i sz xs
   refine NS.bind (NS.of _) fun p=> ?_
   obtain⟨el,n⟩:=p
   refine NS.bind (NS.of _) fun l=>NS.bind ?_ fun h=>NS.when2 (NS.l (NS.of _))
   split
   ·exact NS.of _
   ·exact NS.vpre (NS.of _)
  ·exact NS.bind (NS.of _) fun l=>NS.bind (NS.of _) fun h=>NS.bind (NS.v _) fun v=>NS.bind (NS.of _) fun _=>NS.of _
  ·exact NS.fail _
 ·rename_i c hop
  split
  ·rename_i hc
   split
   ·rename_i x t ha ht
    unfold fire
    rw[hop]
    dsimp only
    rw[hc]
    dsimp only
    rw[ha,ht]
    dsimp only
    refine NS.bind (NS.of _) fun g=> ?_
    cases g with
    | some g=>
     obtain⟨l,q,m⟩:=g
     exact NS.bind (NS.of _) fun _=>zoM _ _ _ _
    | none=>
    refine NS.bind (NS.of _) fun y=> ?_
    split
    ·refine NS.bind (NS.of _) fun _=>NS.vpre (NS.of _)
    ·exact NS.bind (NS.of _) fun v=>NS.bind (NS.of _) fun _=>NS.of _
    ·exact NS.fail _
   ·exact NS.fail _
  ·rename_i hc
   split
   ·rename_i x y t u ha ht
    unfold fire
    rw[hop]
    dsimp only
    rw[hc]
    dsimp only
    rw[ha,ht]
    dsimp only
    refine NS.bind (NS.of _) fun p=> ?_
    obtain⟨el,n⟩:=p
    refine NS.bind (NS.of _) fun i=>NS.bind (by cases x<;>first | exact zoe _ | exact NS.of _) fun a=> ?_
    split
    ·exact zme _ _ _ _ _ _ _ _
    ·rename_i sz xs
     by_cases hmk:(mkD e o.dst 0&&xs.isEmpty)=true
     ·rw[if_pos hmk]
      dsimp only
      rw[if_pos hmk]
      exact zme _ _ _ _ _ _ _ _
     rw[if_neg hmk]
     dsimp only
     rw[if_neg hmk]
     refine NS.bind (NS.of _) fun z=>NS.bind (NS.of _) fun _=>NS.bind (NS.of _) fun b=> ?_
     split
     ·exact NS.bind (NS.of _) fun _=>NS.zlo (NS.l (NS.of _))
     ·exact NS.zlo (NS.l (NS.of _))
     ·exact NS.fail _
    ·exact NS.fail _
   ·exact NS.fail _
  ·rename_i f hc
   unfold fire
   rw[hop]
   dsimp only
   rw[hc]
   refine NS.bind (NS.of _) fun _=> ?_
   split
   ·exact zm4 _ _ _
   ·exact zjL _ _ _ _ _
  ·rename_i j hc
   unfold fire
   rw[hop]
   dsimp only
   rw[hc]
   refine NS.bind (NS.of _) fun d=> ?_
   cases hdv:d.val with
   | fn f caps=>
    dsimp only
    refine NS.bind (NS.of _) fun p=> ?_
    obtain⟨more,sb⟩:=p
    exact NS.bind (NS.of _) fun _=>zjL _ _ _ _ _
   | _=>exact NS.fail _
  ·exact NS.of _
 ·exact NS.of _
theorem zof (ops:Array Oper) (o:Oper):NS e k (zlm e ops o) (fire1 e ops o):=by
 unfold zlm fire1
 refine NS.bind (zoc ops o) fun b=> ?_
 cases b with
 | true=>exact zoN o
 | false=>exact NS.of _
theorem zhk {ops:Array Oper}:∀{os:List Oper} {sc:List Ans} {s s':St} {sc':List Ans} {ob:List Obl} {fs:List (List FL × List FL)},zgl e ops os sc s=some (s',sc',ob,fs)→Obls e k ob→zfh e ops os s=some (s',fs)
 | [],sc,s,s',sc',ob,fs,h,ho=>by rw[zgl]at h;cases h;rw[zfh]
 | o::os,sc,s,s',sc',ob,fs,h,ho=>by
  rw[zgl]at h
  cases h1:zlm e ops o sc s with
  | none=>rw[h1]at h;cases h
  | some p=>
   obtain⟨u,s1,sc1,ob1,r1,w1⟩:=p
   rw[h1]at h
   dsimp only at h
   cases h2:zgl e ops os sc1 s1 with
   | none=>rw[h2]at h;cases h
   | some p2=>
    obtain⟨s2,sc2,ob2,fs2⟩:=p2
    rw[h2]at h
    cases h
    obtain⟨q1,q2⟩:=ho.append
    rw[zfh,zof ops o _ _ _ _ _ _ _ _ h1 q1]
    dsimp only
    rw[zhk h2 q2]
theorem ziR {k:Nat} {r:Option (Ex × St × List Ans × List Obl)} {x:Ex} {s':St} {sc':List Ans} {ob:List Obl} {n:Nat} (h:zln e k r=some (x,s',sc',ob)) (ho:Obls e n ob):∃s0 sc0 ob0,r=some (x,s0,sc0,ob0)∧Obls e n ob0∧prune e k (some (x,s0))=some (x,s'):=by
 cases r with
 | none=>cases h
 | some p=>
  obtain⟨y,s0,sc,o⟩:=p
  cases y with
  | normal=>
   unfold zln at h
   dsimp only at h
   cases hk:e.keep k with
   | none=>rw[hk]at h;cases h;exact⟨s',sc',ob,rfl,ho,by unfold prune;rw[hk];rfl⟩
   | some p=>
    rw[hk]at h
    dsimp only at h
    cases hq:keepN (some p) sc s0.norm with
    | none=>rw[hq]at h;cases h
    | some q=>
     obtain⟨u,s2,sc2,ob2,r2,w2⟩:=q
     rw[hq]at h
     cases h
     obtain⟨q1,q2⟩:=ho.append
     refine⟨s0,sc,o,rfl,q1, ?_⟩
     unfold prune
     rw[hk,zjO hq q2]
     rfl
  | exit i=>cases h;exact⟨s',sc',ob,rfl,ho,rfl⟩
  | ret=>cases h;exact⟨s',sc',ob,rfl,ho,rfl⟩
theorem zdO:∀{c:Code} {sc:List Ans} {s s':St} {x:Ex} {sc':List Ans} {ob:List Obl},execN e c sc s=some (x,s',sc',ob)→Obls e k ob→exec e k c s=some (x,s')
 | .skip,sc,s,s',x,sc',ob,h,ho=>by rw[execN]at h;cases h;rw[exec]
 | .region id ops draw,sc,s,s',x,sc',ob,h,ho=>by
  rw[execN]at h
  cases h1:zgl e ops ops.toList sc s with
  | none=>rw[h1]at h;cases h
  | some p=>
   obtain⟨s1,sc1,ob1,fs⟩:=p
   rw[h1]at h
   dsimp only at h
   by_cases hd:(draw&& !zih ops fs)=true
   ·rw[if_pos hd]at h;cases h
   ·rw[if_neg hd]at h
    cases hq:keepN (e.keep id) sc1 s1.norm with
    | none=>rw[hq]at h;cases h
    | some q=>
     obtain⟨u,s2,sc2,ob2,r2,w2⟩:=q
     rw[hq]at h
     cases h
     obtain⟨q1,q2⟩:=ho.append
     rw[exec,zhk h1 q1]
     dsimp only
     rw[if_neg hd,zjO hq q2]
 | .seq a b,sc,s,s',x,sc',ob,h,ho=>by
  rw[execN]at h
  cases h1:execN e a sc s with
  | none=>rw[h1]at h;cases h
  | some p=>
   obtain⟨y,s1,sc1,ob1⟩:=p
   rw[h1]at h
   cases y with
   | normal=>
    have rest:∀{z s2 sc2 ob2},execN e b sc1 s1=some (z,s2,sc2,ob2)→Obls e k (ob1++ob2)→exec e k (.seq a b) s=some (z,s2):=by
     intro z s2 sc2 ob2 h2 ho2
     obtain⟨q1,q2⟩:=ho2.append
     rw[exec,zdO h1 q1]
     exact zdO h2 q2
    have rest2 : (match execN e b sc1 s1 with
      | some (x,s2,sc2,ob2)=>some (x,s2,sc2,ob1++ob2)
      | none=>none)=some (x,s',sc',ob)→exec e k (.seq a b) s=some (x,s'):=by
     intro h
     cases h2:execN e b sc1 s1 with
     | none=>rw[h2]at h;cases h
     | some p2=>
      obtain⟨z,s2,sc2,ob2⟩:=p2
      rw[h2]at h
      cases h
      exact rest h2 ho
    cases sc1 with
    | nil=>exact rest2 h
    | cons q sc1=>
     cases q with
     | j i z s2=>
      dsimp only at h
      by_cases hi:i=b.rid 0
      ·rw[if_pos hi]at h
       cases h
       obtain⟨q1,q2,_⟩:=ho.append
       have q2:exec e k b s1=some (x,s'):=q2
       rw[exec,zdO h1 q1]
       exact q2
      ·rw[if_neg hi]at h
       exact rest2 h
     | _=>exact rest2 h
   | exit i=>
    dsimp only at h
    cases h
    rw[exec,zdO h1 ho]
   | ret=>
    dsimp only at h
    cases h
    rw[exec,zdO h1 ho]
 | .cond c a b,sc,s,s',x,sc',ob,h,ho=>by
  rw[execN]at h
  obtain⟨s0,sc0,ob0,h0,ho,hp⟩:=ziR h ho
  clear h
  have h:=h0
  clear h0
  rw[exec]
  cases h1:rdV c s with
  | none=>rw[h1]at h;cases h
  | some p=>
   obtain⟨v,s1,r1,w1⟩:=p
   rw[h1]at h
   cases v with
   | bool q=>
    dsimp only at h⊢
    split at h
    ·rename_i sc1
     cases h2:execN e a sc1 s with
     | none=>rw[h2]at h;cases h
     | some p2=>
      obtain⟨z,s2,sc2,ob2⟩:=p2
      rw[h2]at h
      cases h
      obtain⟨q1,q2⟩:=ho
      have q1:q=true:=q1
      rw[if_pos q1,zdO h2 q2]
      exact hp
    ·rename_i sc1
     cases h2:execN e b sc1 s with
     | none=>rw[h2]at h;cases h
     | some p2=>
      obtain⟨z,s2,sc2,ob2⟩:=p2
      rw[h2]at h
      cases h
      obtain⟨q1,q2⟩:=ho
      have q1:q=false:=q1
      rw[if_neg (by rw[q1];exact Bool.false_ne_true),zdO h2 q2]
      exact hp
    ·cases h
   | _=>cases h
 | .block id c,sc,s,s',x,sc',ob,h,ho=>by
  rw[execN]at h
  obtain⟨s0,sc0,ob0,h0,ho,hp⟩:=ziR h ho
  clear h
  rw[exec]
  cases h1:execN e c sc s with
  | none=>rw[h1]at h0;cases h0
  | some p=>
   obtain⟨y,s1,sc1,ob1⟩:=p
   rw[h1]at h0
   cases y with
   | exit i=>
    dsimp only at h0
    by_cases hi:i=id
    ·rw[if_pos hi]at h0;cases h0;rw[zdO h1 ho];dsimp only;rw[if_pos hi];exact hp
    ·rw[if_neg hi]at h0;cases h0;rw[zdO h1 ho];dsimp only;rw[if_neg hi];exact hp
   | normal=>cases h0;rw[zdO h1 ho];exact hp
   | ret=>cases h0;rw[zdO h1 ho];exact hp
 | .loop c,sc,s,s',x,sc',ob,h,ho=>by
  cases sc with
  | nil=>rw[execN]at h;cases h;all_goals simp
  | cons q sc=>
   cases q with
   | k z s2=>rw[execN]at h;cases h;exact ho.1
   | _=>rw[execN]at h;cases h;all_goals simp
 | .exit id,sc,s,s',x,sc',ob,h,ho=>by rw[execN]at h;cases h;rw[exec]
 | .ret,sc,s,s',x,sc',ob,h,ho=>by rw[execN]at h;cases h;rw[exec]
 | .rangeFunc _ _ _ _,sc,s,s',x,sc',ob,h,ho=>by rw[execN]at h;cases h;all_goals simp
 | .scope _,sc,s,s',x,sc',ob,h,ho=>by rw[execN]at h;cases h;all_goals simp
 | .label _,sc,s,s',x,sc',ob,h,ho=>by rw[execN]at h;cases h;all_goals simp
 | .goto _,sc,s,s',x,sc',ob,h,ho=>by rw[execN]at h;cases h;all_goals simp
 | .refuse _,sc,s,s',x,sc',ob,h,ho=>by rw[execN]at h;cases h;all_goals simp
theorem path {c:Code} {ob:List Obl} {s s':St} {x:Ex} (ho:Obls e k ob) (h:execN e c (scOf ob) s=some (x,s',[],ob)):exec e k c s=some (x,s'):=zdO h ho
theorem zF {f:St→Option (Ex × St)} {j:Nat} {s s1:St} {r:Option (Ex × St)} (h:f s=some (.normal,s1)) (h2:loopN f j s1=r):loopN f (j+1) s=r:=by rw[loopN,h];exact h2
theorem zw {f:St→Option (Ex × St)} {j:Nat} {s s1:St} {x:Ex} (h:f s=some (x,s1)) (hx:x≠ .normal):loopN f (j+1) s=some (x,s1):=by
 rw[loopN,h]
 cases x with
 | normal=>exact absurd rfl hx
 | _=>rfl
end
theorem zoO {P : Program} {own : FuncId → Nat → Bool} {kp : FuncId → Nat → Option (List Nat × List Nat)} {X : FuncId → List AV → List AV → Option (AV × List AV)} {n : Nat} {f : FuncId} {args fb : List AV} {fn : Func} {c : Code} {s : St} {x : Ex} {xs : List T} {outs : List AV}
  (hX:X f args fb=none) (hf:P.funcs[f]?=some fn) (hb:fn.body=some c) (hc:(decide (args.length=fn.params.size+fn.nfree)&&decide (args.length≤fn.ntmps)&&zfY fn.ntmps fn.results.toList&& !(fn.name== "runtime.NumGoroutine"))=true)
  (he:exec ⟨P,run P own kp X n,own,fn.results.toList.map locOf,kp f,fun d=>own f (d+3000)⟩ n c (entry args fb fn.ntmps)=some (x,s)) (hx:x=.normal∨x=.ret)
  (hr:zec P s fn.results.toList=some xs) (ho:zfi (s.bx.drop fn.ntmps)=some outs) (hl:outs.length=fb.length):run P own kp X (n+1) f args fb=some (asRes (if own f 2000=true then(if own f 2003=true then shXs true xs else xs)else pubs xs),outs):=by
 simp only[Bool.and_eq_true,decide_eq_true_eq,Bool.not_eq_true']at hc
 obtain⟨⟨⟨h1,h2⟩,h3⟩,h4⟩:=hc
 rw[run,hX]
 dsimp only
 rw[hf]
 dsimp only
 rw[hb]
 dsimp only
 rw[if_pos ⟨h1,h2,h3,h4⟩,he]
 rcases hx with rfl | rfl<;>(dsimp only;rw[hr,ho];dsimp only;rw[if_pos hl])
def endN (own deep:Bool) (xs:List T) (outs:List AV) (sc:List Ans) (s:St) (ob:List Obl):Option (AV × List AV × List Obl):=match own with
 | true=>(match sc with
  | []=>some (asRes (if deep=true then shXs true xs else xs),outs,ob)
  | _=>none)
 | false=>(match pubsN xs sc s with
  | some (ys,_,[],ob2,_,_)=>some (asRes ys,outs,ob++ob2)
  | _=>none)
def runN (P:Program) (own:FuncId→Nat→Bool) (kp:FuncId→Nat→Option (List Nat × List Nat)) (X:FuncId→List AV→List AV→Option (AV × List AV)) (e:Env) (f:FuncId) (fn:Func) (args fb:List AV) (sc:List Ans):Option (AV × List AV × List Obl):=
 match X f args fb,fn.body with
 | none,some c=>if (decide (args.length=fn.params.size+fn.nfree)&&decide (args.length≤fn.ntmps)&&zfY fn.ntmps fn.results.toList&& !(fn.name== "runtime.NumGoroutine"))=true then(match execN e c sc (entry args fb fn.ntmps)with
  | some (.exit _,_,_,_)=>none
  | some (_,s,sc,ob)=>(match zec P s fn.results.toList,zfi (s.bx.drop fn.ntmps)with
   | some xs,some outs=>if outs.length=fb.length then endN (own f 2000) (own f 2003) xs outs sc s ob else none
   | _,_=>none)
  | _=>none)else none
 | _,_=>none
theorem zk {P : Program} {own : FuncId → Nat → Bool} {kp : FuncId → Nat → Option (List Nat × List Nat)} {X : FuncId → List AV → List AV → Option (AV × List AV)} {n : Nat} {f : FuncId} {args fb : List AV} {fn : Func} {ob : List Obl} {r : AV} {outs : List AV}
  (hf:P.funcs[f]?=some fn) (ho:Obls ⟨P,run P own kp X n,own,fn.results.toList.map locOf,kp f,fun d=>own f (d+3000)⟩ n ob) (h:runN P own kp X ⟨P,run P own kp X n,own,fn.results.toList.map locOf,kp f,fun d=>own f (d+3000)⟩ f fn args fb (scOf ob)=some (r,outs,ob)):run P own kp X (n+1) f args fb=some (r,outs):=by
 unfold runN at h
 cases hX:X f args fb with
 | some _=>rw[hX]at h;cases h
 | none=>
  rw[hX]at h
  cases hb:fn.body with
  | none=>rw[hb]at h;cases h
  | some c=>
   rw[hb]at h
   dsimp only at h
   by_cases hc:(decide (args.length=fn.params.size+fn.nfree)&&decide (args.length≤fn.ntmps)&&zfY fn.ntmps fn.results.toList&& !(fn.name== "runtime.NumGoroutine"))=true
   case neg=>rw[if_neg hc]at h;cases h
   rw[if_pos hc]at h
   cases he:execN ⟨P,run P own kp X n,own,fn.results.toList.map locOf,kp f,fun d=>own f (d+3000)⟩ c (scOf ob) (entry args fb fn.ntmps)with
   | none=>rw[he]at h;cases h
   | some p=>
    obtain⟨x,s,sc,ob'⟩:=p
    rw[he]at h
    have rest : (x = .normal ∨ x = .ret) → (match zec P s fn.results.toList, zfi (s.bx.drop fn.ntmps) with
       | some xs,some outs=>if outs.length=fb.length then endN (own f 2000) (own f 2003) xs outs sc s ob' else none
       | _,_=>none)=some (r,outs,ob)→run P own kp X (n+1) f args fb=some (r,outs):=by
     intro hx h
     cases h1:zec P s fn.results.toList with
     | none=>rw[h1]at h;cases h
     | some xs=>
      cases h2:zfi (s.bx.drop fn.ntmps)with
      | none=>rw[h1,h2]at h;cases h
      | some outs'=>
       rw[h1,h2]at h
       dsimp only at h
       by_cases hl:outs'.length=fb.length
       case neg=>rw[if_neg hl]at h;cases h
       rw[if_pos hl]at h
       unfold endN at h
       cases hown:own f 2000 with
       | true=>
        rw[hown]at h
        cases sc with
        | cons _ _=>cases h
        | nil=>
         cases h
         have q:=zoO hX hf hb hc (zdO he ho) hx h1 h2 hl
         rw[if_pos hown]at q
         exact q
       | false=>
        rw[hown]at h
        dsimp only at h
        cases hp:pubsN xs sc s with
        | none=>rw[hp]at h;cases h
        | some p=>
         obtain⟨ys,s2,sc2,ob2,r2,w2⟩:=p
         rw[hp]at h
         cases sc2 with
         | cons _ _=>cases h
         | nil=>
          cases h
          obtain⟨q1,q2⟩:=ho.append
          have e1:=zjN xs _ _ _ _ _ _ _ _ hp q2
          cases e1
          have q:=zoO hX hf hb hc (zdO he q1) hx h1 h2 hl
          rw[if_neg (by rw[hown];exact Bool.false_ne_true)]at q
          exact q
    cases x with
    | exit i=>cases h
    | normal=>exact rest (.inl rfl) h
    | ret=>exact rest (.inr rfl) h
section
variable {e:Env} {n:Nat} {os:List Obl}
theorem ob:Obls e n []:=trivial
theorem zi {x d:Bool} (h:x=d) (hs:Obls e n os):Obls e n (.b x d::os):=⟨h,hs⟩
theorem zae {x:Bool} (h:x=true) (hs:Obls e n os):Obls e n (.n x::os):=⟨h,hs⟩
theorem zD {o:Option Value} {x:Value} (h:o=some x) (hs:Obls e n os):Obls e n (.v o x::os):=⟨h,hs⟩
theorem zab {o:Option T} {x:T} (h:o=some x) (hs:Obls e n os):Obls e n (.t o x::os):=⟨h,hs⟩
theorem zfx {xs ys:List T} (h:xs=ys) (hs:Obls e n os):Obls e n (.l xs ys::os):=⟨h,hs⟩
theorem zfm {i j:Nat} (h:i≤j) (hs:Obls e n os):Obls e n (.le i j::os):=⟨h,hs⟩
theorem zN {f:FuncId} {args fb:List AV} {r:AV} {outs:List AV} (h:e.call f args fb=some (r,outs)) (hs:Obls e n os):Obls e n (.c f args fb r outs::os):=⟨h,hs⟩
theorem zaS {c:Code} {s s':St} {x:Ex} (h:exec e n c s=some (x,s')) (hs:Obls e n os):Obls e n (.k c s x s'::os):=⟨h,hs⟩
theorem zI {c:Code} {s s':St} {x:Ex} (h:exec e n c s=some (x,s')) (hs:Obls e n os):Obls e n (.j c s x s'::os):=⟨h,hs⟩
end
end Go.Proofs.YtgmidllbkjdnnaaGreatDoor.Flat
namespace Go.Proofs.YtgmidllbkjdnnaaGreatDoor.Flat
set_option linter.unusedVariables false
set_option linter.unusedSimpArgs false
set_option linter.unusedSectionVars false
def fill:List (Nat × AV)→List Cell→List Cell
 | [],l=>l
 | (i,x)::r,l=>fill r (l.set i ⟨x,none,0,0⟩)
def mkSt (k b:Nat) (tm bx:List (Nat × AV)):St:=⟨fill tm (List.replicate k ⟨.un,none,0,0⟩),fill bx (List.replicate b ⟨.un,none,0,0⟩)⟩
def sub:List Nat→Code→Code
 | [],c=>c
 | i::p,.seq a b=>sub p (if i=0 then a else b)
 | i::p,.cond _ a b=>sub p (if i=0 then a else b)
 | _::p,.block _ c=>sub p c
 | _::p,.loop c=>sub p c
 | _,c=>c
def zq (f:Func):Code:=f.body.getD .skip
theorem zgQ [Glob] {P:Program} {own:FuncId→Nat→Bool} {kp:FuncId→Nat→Option (List Nat × List Nat)} {X:FuncId→List AV→List AV→Option (AV × List AV)} {n:Nat} {f:FuncId} {args fb:List AV} {r:AV × List AV} (h:X f args fb=some r):run P own kp X (n+1) f args fb=some r:=by rw[run,h]
theorem zhZ {α β:Type} {P:Program}:∀(m:Sem α) (f:α→Sem β),ev P (m >>=f)=(ev P m).bind fun a=>ev P (f a)
 | .pure a,f=>rfl
 | .program k,f=>zhZ (k P) f
 | .load ..,f=>rfl
 | .store ..,f=>rfl
 | .new ..,f=>rfl
 | .shape ..,f=>rfl
 | .freeze ..,f=>rfl
 | .frozen ..,f=>rfl
 | .getObj ..,f=>rfl
 | .setObj ..,f=>rfl
 | .choose ..,f=>rfl
 | .sys ..,f=>rfl
 | .mark ..,f=>rfl
 | .halt ..,f=>rfl
theorem zkv {P:Program} {t:TypeId} {d:TypeDesc} (h:P.underlying t=some d):ev P (underlying t)=some d:=by
 unfold underlying
 rw[zhZ]
 have e1:ev P program=some P:=rfl
 rw[e1]
 simp only[Option.bind_some]
 rw[h]
 rfl
def strAt (s:ByteArray) (i:Int):Option Int:=(if 0≤i then s[i.toNat]? else none).map fun b=>(b.toNat:Int)
theorem zh0 {P:Program} {t:TypeId} {s:ByteArray} {k:IntKind} {i b:Int} (hu:P.underlying t=some .string) (h:strAt s i=some b):ev P (Instr.index t (.string s) (.int k i))=some (.int .u8 b):=by
 unfold Instr.index
 unfold strAt at h
 rw[zhZ]
 have e1:ev P (asIntOf (.int k i))=some (k,i):=rfl
 rw[e1]
 simp only[Option.bind_some]
 rw[zhZ,zkv hu]
 simp only[Option.bind_some]
 cases hq:(if 0≤i then s[i.toNat]? else none)with
 | none=>rw[hq]at h;cases h
 | some c=>rw[hq]at h;cases h;rfl
def quoI (k:IntKind) (a b:Int):Option Int:=if b=0 then none else some (k.wrap (a.tdiv b))
theorem zqp {P:Program} {t:TypeId} {x y:Operand} {k:IntKind} {a b r:Int} (h:quoI k a b=some r):ev P (do eqGuard .quo t x y (.int k a) (.int k b);binOp .quo t (.int k a) (.int k b))=some (.int k r):=by
 unfold quoI at h
 by_cases hb:b=0
 ·rw[if_pos hb]at h;cases h
 ·rw[if_neg hb]at h
  cases h
  rw[zhZ]
  have e1:ev P (eqGuard .quo t x y (.int k a) (.int k b))=some ():=rfl
  rw[e1]
  simp only[Option.bind_some]
  have e2:binOp .quo t (.int k a) (.int k b)=(if k≠k then stuck "BinOp: operands of different kinds" else Op.intDiv .quo k a b):=rfl
  rw[e2,if_neg (by simp)]
  unfold Op.intDiv
  rw[if_neg hb]
  rfl
section
variable {α:Type} {ts:List α→List T} {f:α→T} (hm:∀l,ts l=l.map f)
include hm
theorem zu {l:List α} {i:Nat} {a:α} (h:l[i]?=some a):(ts l)[i]?=some (f a):=by rw[hm,List.getElem?_map,h];rfl
theorem zn {l:List α}:some (Value.int .i64 ((ts l).length:Int))=some (Value.int .i64 (l.length:Int)):=by rw[hm,List.length_map]
theorem zeS {a b:List α}:ts a++ts b=ts (a++b):=by rw[hm,hm,hm,List.map_append]
theorem zqq {l:List α} {h i:Nat}:((ts l).take h).drop i=ts ((l.take h).drop i):=by rw[hm,hm,List.map_drop,List.map_take]
theorem zog {l:List α} {a b:Int} (h:decide (0≤a∧a≤b∧b≤(l.length:Int))=true):decide (0≤a∧a≤b∧b≤((ts l).length:Int))=true:=by rw[hm,List.length_map];exact h
theorem zes {a b:List α} {k m:Nat} (h:(a.length+b.length) * k≤m):((ts a).length+(ts b).length) * k≤m:=by rw[hm,hm,List.length_map,List.length_map];exact h
end
theorem zmf:∀l:List T,pubs l=l.map T.pub
 | []=>by rw[pubs];rfl
 | x::xs=>by rw[pubs,zmf xs];rfl
theorem zhb (x:T):x.get []=some x:=by rw[T.get]
theorem zir {i:Nat} {p:List Nat} {fs:List T} {z y:T} (h:fs[i]?=some z) (h2:z.get p=some y):T.get (i::p) (.st fs)=some y:=by rw[T.get,h];exact h2
theorem zoP (sz:Nat) {i:Nat} {p:List Nat} {xs:List T} {z y:T} (h:xs[i]?=some z) (h2:z.get p=some y):T.get (i::p) (.xl sz xs)=some y:=by rw[T.get,h];exact h2
theorem zno (x y:T):x.rep [] y=some y:=by rw[T.rep]
theorem zoQ {i:Nat} {p:List Nat} {fs:List T} {z z' y:T} (h:fs[i]?=some z) (h2:z.rep p y=some z'):T.rep (i::p) (.st fs) y=some (.st (fs.set i z')):=by rw[T.rep,h];dsimp only;rw[h2];rfl
theorem zpB {α:Type} {f:α→T} {ts:List α→List T} (sz:Nat) (hm:∀l,ts l=l.map f) {i:Nat} {p:List Nat} {l:List α} {a:α} {y z:T} (h:l[i]?=some a) (h2:(f a).rep p y=some z):T.rep (i::p) (.xl sz (ts l)) y=some (.xl sz ((ts l).set i z)):=by
 have h0:(ts l)[i]?=some (f a):=by rw[hm,List.getElem?_map,h];rfl
 rw[T.rep,h0]
 dsimp only
 rw[h2]
 rfl
theorem zlq {α:Type} {f:α→T} {ts:List α→List T} (hm:∀l,ts l=l.map f) {i:Nat} {l:List α} {a:α} {z:T} (h:l[i]?=some a):((ts l).set i z)[i]?=some z:=by
 rw[List.getElem?_set_self]
 rw[hm,List.length_map]
 exact(List.getElem?_eq_some_iff.1 h).1
theorem zqr {α:Type} {f:α→T} {ts:List α→List T} (sz:Nat) (hm:∀l,ts l=l.map f) {i:Nat} {p:List Nat} {l:List α} {a:α} {z y:T} (h:l[i]?=some a) (h2:z.get p=some y):T.get (i::p) (.xl sz ((ts l).set i z))=some y:=by
 rw[T.get,zlq hm h]
 exact h2
theorem zqs {α:Type} {f:α→T} {ts:List α→List T} (sz:Nat) (hm:∀l,ts l=l.map f) {i:Nat} {p:List Nat} {l:List α} {a:α} (a':α) {z y:T} (h:l[i]?=some a) (h2:z.rep p y=some (f a')):T.rep (i::p) (.xl sz ((ts l).set i z)) y=some (.xl sz (ts (l.set i a'))):=by
 rw[T.rep,zlq hm h]
 dsimp only
 rw[h2,hm,hm]
 simp[List.map_set]
theorem zht {α:Type} {f g:α→T} {ts us:List α→List T} (hm:∀l,ts l=l.map f) (hg:∀l,us l=l.map g) (hf:∀a,(f a).pub=g a) {l:List α}:pubs (ts l)=us l:=by
 rw[zmf,hm,hg,List.map_map]
 exact List.map_congr_left fun a _=>hf a
def zA:List Int→List T
 | []=>[]
 | x::xs=>.v (.int .i64 x)::zA xs
theorem zz:∀l,zA l=l.map fun x=>.v (.int .i64 x)
 | []=>rfl
 | x::xs=>by rw[zA,zz xs,List.map_cons]
def texts:List ByteArray→List T
 | []=>[]
 | x::xs=>.v (.string x)::texts xs
theorem zJ:∀l,texts l=l.map fun x=>.v (.string x)
 | []=>rfl
 | x::xs=>by rw[texts,zJ xs,List.map_cons]
theorem zh1 {l:List Int}:pubs (zA l)=zA l:=zht zz zz (fun _=>by rw[T.pub])
theorem zoh {l:List ByteArray}:pubs (texts l)=texts l:=zht zJ zJ (fun _=>by rw[T.pub])
end Go.Proofs.YtgmidllbkjdnnaaGreatDoor.Flat
namespace Go.Proofs.YtgmidllbkjdnnaaGreatDoor.Flat
set_option linter.unusedVariables false
set_option linter.unusedSimpArgs false
set_option linter.unusedSectionVars false
variable [Glob]
structure Quiet (w w':World):Prop where
 ext:w'.os=w.os∧w'.tape=w.tape∧w'.output=w.output
 size:w.heap.size≤w'.heap.size
 old:∀k,k < w.heap.size→w'.heap[k]?=w.heap[k]?
theorem Quiet.frOf {w w':World} (h:Quiet w w') {E E':Nat→Nat} {Ba M:List Nat} (hE:∀k,k < w.heap.size→E' k=E k):Fr w E w' E' Ba M:=by
 have hc:∀k,k < w.heap.size→∀i,w'.cell? ⟨k,i,none⟩=w.cell? ⟨k,i,none⟩:=fun k hk i=>zeP (h.old k hk)
 refine⟨h.size,fun k hk _ _=>⟨h.old k hk,hE k hk⟩,fun k _ hk=>⟨by rw[hE k hk];exact Nat.le_refl _,fun i _=>hc k hk i,fun cells ty hcl=>⟨cells,by rw[h.old k hk];exact hcl,rfl⟩⟩,fun k _ hk _ he=>⟨by rw[hE k hk];exact he,fun cells ty hcl=>⟨cells,by rw[h.old k hk];exact hcl,rfl⟩⟩,h.ext⟩
theorem zmg {w w':World} (h:Quiet w w') {E:Nat→Nat} (hz:∀k,w.heap.size≤k→E k=0) {β:Bm} {Ba:List Nat} {r:AV} {v:Value} (hr:RepV w' E (fun _=>False) ⟨fun _ _=>0,fun _=>0⟩ r v []):After w E β Ba 0 r [] v w' E [] []:=
 ⟨h.frOf (fun _ _=>rfl),fun k hk=>hz k (Nat.le_trans h.size hk),hr,rfl,rfl,fun i hi=>absurd hi (Nat.not_lt_zero i),List.nodup_nil,fun k hk=>by cases hk⟩
theorem zm5 {P:Program} {f:FuncId} {fn:Func} (hf:P.funcs[f]?=some fn) (hb:fn.body.isSome=true) (hn:(fn.name== "runtime.NumGoroutine")=false) {vs:Array Value} {w:World} {R:Value→World→Prop} (h:Calls P f vs w fun e w'=>∃v,e=.returned v∧R v w'):zfN P f vs w R:=
 .inl ⟨fn,hf,hb,hn,h.mono fun e w' ⟨v,he,hv⟩=>by subst he;exact hv⟩
theorem args_at {e:Ent} {w:World} {E:Nat→Nat} {β:Bm} {τ:Loc→List Nat} {vs:List Value} {args fb:List AV} (h:Sim e w E β τ ⟨vs.toArray,[]⟩ (argSt args fb)):vs.length=args.length∧∀(i:Nat) (x:AV) (v:Value),args[i]?=some x→vs[i]?=some v→RepV w E e.F β x v (τ (.tm i)):=by
 refine⟨?_,fun i x v hx hv=> ?_⟩
 ·have:=h.len
  simpa [argSt] using this
 ·have h1:=h.tm i ⟨x,none,0,0⟩ (by simp[argSt,hx])
  have e1:(⟨vs.toArray,[]⟩:Act).tmps.getD i undef=v:=by
   show vs.toArray.getD i undef=v
   simp[hv]
  rw[e1]at h1
  exact h1
theorem zpC {P : Program} {f : FuncId} {fn : Func} {el : TypeId} {ti : TypeInfo} {z : Value} (hf : P.funcs[f]? = some fn) (hb : fn.body.isSome = true) (hn : (fn.name == "runtime.NumGoroutine") = false) (hz : 0 < ti.size) (hb0 : 0 < ti.bytes)
  (room:∀(base:Option Addr) (c n:Nat) (w:World),c≤9223372036854775807→n≤9223372036854775807→n≤c→Calls P f #[.slice base 0 c,.int .i64 n] w fun e w'=>e=.returned (.slice base 0 c)∧w'=w)
  (grow:∀(base:Option Addr) (c n:Nat) (cs:List Value) (w:World),c < n→n * ti.bytes≤140737488355328→cs.length=c * ti.size→(base=none→c=0)→(∀a,base=some a→∀(j:Nat) v,cs[j]?=some v→w.cell? (a.add j)=some v)→
   Calls P f #[.slice base 0 c,.int .i64 n] w fun e w'=>∃c' cells,c'≤9223372036854775807∧e=.returned (.slice (some ⟨w.heap.size,0,none⟩) 0 c')∧w'=w.drew.alloc (.cells cells el)∧c' * ti.size≤cells.size)
  (hcap:∀(base:Option Addr) (c n:Nat) (w:World),c≤9223372036854775807→True) {n:Int} (hn0:0≤n) (hnb:n * ti.bytes≤140737488355328):
  zeQ P f [.t (.sl true ti.size []),.t (.v (.int .i64 n))] [] (.t (.sl true ti.size [])) []:=by
 intro w E β τ Ba vs gok hargs hptr hfb hBa hinj hsim
 obtain⟨hl,hat⟩:=args_at hsim
 obtain⟨m,rfl⟩:∃m:Nat,n=m:=⟨n.toNat,(Int.toNat_of_nonneg hn0).symm⟩
 have hl:vs.length=2:=hl
 obtain⟨v0,v1,rfl⟩:∃v0 v1,vs=[v0,v1]:=by
  match vs,hl with
  | [a,b],_=>exact⟨a,b,rfl⟩
 have h0:=hat 0 _ v0 rfl rfl
 have h1:=hat 1 _ v1 rfl rfl
 rw[RepV]at h0 h1
 obtain⟨rfl,_,_⟩:=zgf h1
 obtain⟨cs,hr,rfl⟩:=h0
 have hr0:=hr
 rw[Rep]at hr
 obtain⟨A,c,rfl,hlc,_,hA⟩:=hr
 have hmb:m * ti.bytes≤140737488355328:=by rw[←Int.natCast_mul]at hnb;omega
 have hm1:m≤m * ti.bytes:=Nat.le_mul_of_pos_right _ hb0
 have hbt:∀k∈τ (.tm 0),k∈Ba:=fun k hk=>by
  obtain⟨q1,q2⟩:=hsim.tok _ k hk
  rcases q2 with q2 | q2
  ·have q2:w.heap.size≤k:=q2
   omega
  ·exact q2
 refine zm5 hf hb hn ?_
 show Calls P f #[.slice A 0 c,.int .i64 m] w _
 by_cases hmc:m≤c
 ·
  have hc:c≤9223372036854775807:=by
   cases A with
   | none=>obtain⟨_,rfl,_⟩:=hA;omega
   | some ad=>
    obtain⟨_,tk,htk,_,h3⟩:=hA
    cases tk with
    | false=>have:=htk.2 rfl rfl;simp at this;omega
    | true=>
    obtain⟨_,_,_,_,_,_,hcb⟩:=h3 rfl
    exact hcb
  refine(room A c m w hc (by omega) hmc).mono ?_
  rintro e w' ⟨rfl,rfl⟩
  refine⟨_,rfl,E,τ (.tm 0),[], ?_⟩
  refine⟨Fr.refl _ _ _ _,hsim.z,by rw[RepV];exact⟨_,hr0,rfl⟩,rfl,rfl,fun i hi=>absurd hi (Nat.not_lt_zero i),by simpa using hsim.nod (.tm 0),fun k hk=> ?_⟩
  have hk:k∈τ (.tm 0):=by simpa using hk
  exact⟨(hsim.tok _ k hk).1,.inr (hbt k hk)⟩
 ·have hcs:∃cs:List Value,cs.length=c * ti.size∧(A=none→c=0)∧∀a,A=some a→∀(j:Nat) v,cs[j]?=some v→w.cell? (a.add j)=some v:=by
   cases A with
   | none=>obtain⟨_,rfl,_⟩:=hA;exact⟨[],by simp,fun _=>rfl,fun a h=>by cases h⟩
   | some ad=>
    obtain⟨_,tk,htk,_,h3⟩:=hA
    cases tk with
    | false=>
     have hc0:=htk.2 rfl rfl
     refine⟨[],by rw[hc0];simp,fun h=>(by cases h),fun a ha j v hj=>(by cases hj)⟩
    | true=>
    obtain⟨hs,_,cells,ty,hc,hsz,_⟩:=h3 rfl
    obtain⟨blk,off,sp⟩:=ad
    dsimp only at hs hc hsz
    subst hs
    refine⟨(cells.toList.drop off).take (c * ti.size),by simp;omega,fun h=>(by cases h),fun a ha j v hj=> ?_⟩
    cases ha
    rw[zf3]
    refine ze5 (cs:=cells.toList) (by simpa using hc) ?_
    rw[List.getElem?_take]at hj
    split at hj
    ·rw[List.getElem?_drop]at hj;exact hj
    ·cases hj
  obtain⟨cs,q1,q2,q3⟩:=hcs
  refine(grow A c m cs w (by omega) hmb q1 q2 q3).mono ?_
  rintro e w' ⟨c',cells,hcb,rfl,rfl,hsz⟩
  have hq:Quiet w (w.drew.alloc (.cells cells el)):=⟨⟨rfl,rfl,rfl⟩,by show w.heap.size≤(w.heap.push _).size;rw[Array.size_push];omega,fun k hk=>by show(w.heap.push _)[k]?=_;rw[Array.getElem?_push,if_neg (by omega)]⟩
  have hz2:∀k,(w.drew.alloc (.cells cells el)).heap.size≤k→E k=0:=fun k hk=>hsim.z k (Nat.le_trans hq.size hk)
  have hnew:(w.drew.alloc (.cells cells el)).heap[w.heap.size]?=some (.cells cells el (0,0)):=by show(w.heap.push _)[w.heap.size]?=_;rw[Array.getElem?_push,if_pos rfl]
  refine⟨_,rfl,E,[w.heap.size],[],hq.frOf (fun _ _=>rfl),hz2, ?_,rfl,rfl,fun i hi=>absurd hi (Nat.not_lt_zero i),by simp,fun k hk=> ?_⟩
  ·rw[RepV]
   refine⟨[.slice (some ⟨w.heap.size,0,none⟩) 0 c'], ?_,rfl⟩
   rw[Rep]
   refine⟨_,c',rfl,Nat.zero_le _,hz, ?_,true,⟨fun _=>rfl,fun _ h=>(by cases h)⟩,rfl,fun _=>⟨rfl, ?_,cells,el,hnew, ?_,hcb⟩⟩
   ·rw[RepA];trivial
   ·show E w.heap.size=0+0 * ti.size
    rw[hsim.z _ (Nat.le_refl _)]
    simp
   ·show 0+c' * ti.size≤cells.size
    omega
  ·simp at hk
   subst hk
   refine⟨(Array.getElem?_eq_some_iff.1 hnew).1,.inl (Nat.le_refl _)⟩
def zgm (d:Bool) (sz:Nat) (xs:List T):T:=if d=true then .xl sz xs else .sl true sz xs
theorem zjP (d : Bool) {P : Program} {f : FuncId} {fn : Func} {t el : TypeId} {ti : TypeInfo} {z : Value} (hf : P.funcs[f]? = some fn) (hb : fn.body.isSome = true) (hn : (fn.name == "runtime.NumGoroutine") = false) (ht : P.underlying t = some (.slice el)) (hi : P.info? el = some ti) (hz : ti.zero = some z) (hzs : z.cells.size = ti.size) (hsz : 0 < ti.size) (h0 : 0 < ti.bytes)
  (nil:∀(n c:Nat) (w:World),Calls P f #[.slice none n c] w fun e w'=>e=.returned (.slice none 0 0)∧w'=w)
  (some_:∀(ad:Addr) (n c:Nat) (w w':World) (v:Value),(Builtin.append_ #[t,t] t #[.slice (some ⟨w.heap.size,0,none⟩) 0 0,.slice (some ad) n c]).run P (w.alloc (.cells #[] el))=.ok v w'→Calls P f #[.slice (some ad) n c] w fun e w''=>e=.returned v∧w''=w')
  {xs:List T} (hbd:xs.length * ti.bytes≤140737488355328):zeQ P f [.t (.sl false ti.size xs)] [] (.t (zgm d ti.size xs)) []:=by
 intro w E β τ Ba vs gok hargs hptr hfb hBa hinj hsim
 obtain⟨hl,hat⟩:=args_at hsim
 have hl:vs.length=1:=hl
 obtain⟨v0,rfl⟩:∃v0,vs=[v0]:=by
  match vs,hl with
  | [a],_=>exact⟨a,rfl⟩
 have h1:=hat 0 _ v0 rfl rfl
 rw[RepV]at h1
 have h1:RepT w E (.sl false ti.size xs) v0 []:=h1.sh
 have hs2:=h1
 obtain⟨cs,hr,rfl⟩:=h1
 rw[Rep]at hr
 obtain⟨A,c,rfl,hlc,_,hA⟩:=hr
 refine zm5 hf hb hn ?_
 show Calls P f #[.slice A xs.length c] w _
 have fin:∀{v:Value} {w':World} {E':Nat→Nat} {B:List Nat},Sim ⟨w,E,Ba,blks β 0,fun _=>none,gok⟩ w' E' β τ ⟨[Value.slice A xs.length c].toArray,[]⟩ (argSt [.t (.sl false ti.size xs)] [])→RepT w' E' (zgm d ti.size xs) v B→Free ⟨w,E,Ba,blks β 0,fun _=>none,gok⟩ w' β τ (argSt [.t (.sl false ti.size xs)] []) B→∃E' B Bf,After w E β Ba 0 (.t (zgm d ti.size xs)) [] v w' E' B Bf:=by
  intro v w' E' B q1 q2 q3
  refine⟨E',B,[],q1.fr,q1.z,by rw[RepV];exact q2,rfl,rfl,fun i hi=>absurd hi (Nat.not_lt_zero i),by simpa using q3.1,fun k hk=> ?_⟩
  have hk:k∈B:=by simpa using hk
  exact⟨(q3.2 k hk).1,(q3.2 k hk).2.1⟩
 cases A with
 | none=>
  obtain⟨rfl,rfl,_⟩:=hA
  refine(nil _ _ w).mono ?_
  rintro e w' ⟨rfl,rfl⟩
  refine⟨_,rfl,fin (B:=[]) hsim ?_ zd1⟩
  cases d with
  | true=>exact⟨[.slice none 0 0],by rw[zgm,if_pos rfl,Rep];exact⟨none,0,rfl,Nat.le_refl _,hsz,.inl ⟨rfl,rfl,rfl⟩⟩,by rw[zgm,if_pos rfl];rfl⟩
  | false=>exact⟨[.slice none 0 0],by rw[zgm,if_neg (by simp),Rep];exact⟨none,0,rfl,Nat.le_refl _,hsz,rfl,rfl,rfl⟩,by rw[zgm,if_neg (by simp)];rfl⟩
 | some ad=>
  obtain⟨n1,n2,n3⟩:=hsim.newRow (sz:=ti.size) (xs:=[]) (cs:=[]) (zs:=[]) (by rw[RepL]) hsz (c:=0) (by simp) (by omega) el
  have hsrc:∃news,RepL w E ti.size xs news∧Src P ti.size t (.slice (some ad) xs.length c) xs.length news w:=zi8 ht hs2
  have hm:Mv w E {w with heap:=w.heap.push (.cells (([]:List Value)++[]).toArray el (0,0))} (upE E w.heap.size (([]:List T).length * ti.size)) []:=by
   have hfr:Fr w E {w with heap:=w.heap.push (.cells (([]:List Value)++[]).toArray el (0,0))} (upE E w.heap.size (([]:List T).length * ti.size)) [] []:=
    ⟨by rw[zeX];omega,fun k hk _ _=>⟨zft hk,if_neg (by omega)⟩,fun k hk=>(by cases hk),fun k hk=>(by cases hk),rfl,rfl,rfl⟩
   exact hfr.mv hsim.z (fun k hk=>by cases hk) (fun k hk=>by cases hk)
  have hv2:=RepT.mv hm hs2
  obtain⟨news,m1,m2⟩:=zi8 (P:=P) ht hv2
  cases d with
  | true=>
   obtain⟨cs,q1,q2⟩:=n2
   obtain⟨B2,q3,q4⟩:=Rep.shX true q1
   rw[T.shX,if_pos ⟨rfl,rfl,rfl⟩]at q3
   obtain⟨m3,m4⟩:=m1.toS
   obtain⟨v,w',E',B',p1,p2,p3,p4⟩:=zhM n1 (P:=P) (t:=t) (tx:=t) (ty:=t) (C:=[]) ht hi hz hzs hsz (xs:=[]) ⟨cs,q3,q2⟩ (n3.less (by rw[List.append_nil];exact q4)) (ys:=xs) m3 m4 m2 (by simpa using hbd) h0
   refine(some_ ad xs.length c w w' v p1).mono ?_
   rintro e w'' ⟨rfl,rfl⟩
   exact⟨_,rfl,fin p2 (by rw[zgm,if_pos rfl];simpa using p3) p4⟩
  | false=>
  obtain⟨v,w',E',B',p1,p2,p3,p4⟩:=ziL n1 (P:=P) (t:=t) (tx:=t) (ty:=t) ht hi hz hzs hsz n2 n3 m1 m2 (by simpa using hbd) h0
  refine(some_ ad xs.length c w w' v p1).mono ?_
  rintro e w'' ⟨rfl,rfl⟩
  exact⟨_,rfl,fin p2 (by rw[zgm,if_neg (by simp)];simpa using p3) p4⟩
end Go.Proofs.YtgmidllbkjdnnaaGreatDoor.Flat
namespace Go.Proofs.YtgmidllbkjdnnaaGreatDoor.Flat
set_option linter.unusedVariables false
set_option linter.unusedSimpArgs false
set_option linter.unusedSectionVars false
theorem zgn {P:Program} {n:Nat} {t:TypeId} {x:T} {k:IntKind} (hu:P.underlying t=some (.int k)) (h:TyT P n t x):∃a,x=.v (.int k a)∧(Lit.int k a).wf=true:=by
 cases n with
 | zero=>exact h.elim
 | succ n=>rw[TyT,hu]at h;exact h
theorem zoR {P:Program} {n:Nat} {t:TypeId} {x:T} (hu:P.underlying t=some .bool) (h:TyT P n t x):∃a,x=.v (.bool a):=by
 cases n with
 | zero=>exact h.elim
 | succ n=>rw[TyT,hu]at h;exact h
theorem zfF {P:Program} {n:Nat} {t:TypeId} {x:T} (hu:P.underlying t=some .string) (h:TyT P n t x):∃a:ByteArray,x=.v (.string a)∧a.size≤140737488351232:=by
 cases n with
 | zero=>exact h.elim
 | succ n=>rw[TyT,hu]at h;exact h
theorem zmh {α:Type} {f:α→T} {Q:α→Prop}:∀{xs:List T},(∀y∈xs,∃a,y=f a∧Q a)→∃l:List α,xs=l.map f∧∀a∈l,Q a
 | [],_=>⟨[],rfl,fun a h=>by cases h⟩
 | x::xs,h=>by
  obtain⟨a,rfl,ha⟩:=h x (List.mem_cons_self ..)
  obtain⟨l,rfl,hl⟩:=zmh fun y hy=>h y (List.mem_cons_of_mem _ hy)
  exact⟨a::l,rfl,fun b hb=>by
   rcases List.mem_cons.1 hb with rfl | hb
   ·exact ha
   ·exact hl b hb⟩
theorem zeA {P : Program} {n : Nat} {t e : TypeId} {x : T} {sz by_ : Nat} {α : Type} {ts : List α → List T} {f : α → T} {Q : α → Prop} (hm : ∀ l, ts l = l.map f) (hu : P.underlying t = some (.slice e)) (hs : P.cellsOf e = sz) (hb : P.bytesOf e = by_)
  (he:∀m,m < n→∀y,TyT P m e y→∃a,y=f a∧Q a) (h:TyT P n t x):∃l:List α,x=.sl false sz (ts l)∧l.length * by_≤140737488351232∧∀a∈l,Q a:=by
 cases n with
 | zero=>exact h.elim
 | succ n=>
  rw[TyT,hu]at h
  obtain⟨xs,rfl,h1,h2⟩:=h
  obtain⟨l,rfl,hl⟩:=zmh (f:=f) (Q:=Q) fun y hy=>he n (Nat.lt_succ_self n) y (h2 y hy)
  refine⟨l,by rw[hm,hs],by rw[←hb];simpa using h1,hl⟩
theorem zfG {P:Program} {n:Nat} {t:TypeId} {x:T} {fs:Array Field} (hu:P.underlying t=some (.struct fs)) (h:TyT P n t x):∃m xs,n=m+1∧x=.st xs∧All2 (fun(f:Field) y=>TyT P m f.type y) fs.toList xs:=by
 cases n with
 | zero=>exact h.elim
 | succ n=>
  rw[TyT,hu]at h
  obtain⟨xs,rfl,h1⟩:=h
  exact⟨n,xs,rfl,rfl,h1⟩
theorem zdx {α β:Type} {R:α→β→Prop} {a:α} {l:List α} {m:List β} (h:All2 R (a::l) m):∃b m',m=b::m'∧R a b∧All2 R l m':=by
 cases m with
 | nil=>exact h.elim
 | cons b m=>exact⟨b,m,rfl,h.1,h.2⟩
theorem zh2 {α β:Type} {R:α→β→Prop} {m:List β} (h:All2 R ([]:List α) m):m=[]:=by
 cases m with
 | nil=>rfl
 | cons b m=>exact h.elim
theorem zhc {P:Program} {n:Nat} {t:TypeId} {k:IntKind} {a:Int} (hu:P.underlying t=some (.int k)) (h:TyT P n t (.v (.int k a))):(Lit.int k a).wf=true:=by
 obtain⟨b,e,hb⟩:=zgn hu h
 cases e
 exact hb
theorem zgo {P:Program} {n:Nat} {t:TypeId} {a:ByteArray} (hu:P.underlying t=some .string) (h:TyT P n t (.v (.string a))):a.size≤140737488351232:=by
 obtain⟨b,e,hb⟩:=zfF hu h
 cases e
 exact hb
theorem zcY {P:Program} {n:Nat} {t e:TypeId} {sz by_:Nat} {α:Type} {ts:List α→List T} {f:α→T} {l:List α} (hm:∀l,ts l=l.map f) (hu:P.underlying t=some (.slice e)) (hb:P.bytesOf e=by_) (h:TyT P n t (.sl false sz (ts l))):l.length * by_≤140737488351232∧∀a∈l,∃m,TyT P m e (f a):=by
 cases n with
 | zero=>exact h.elim
 | succ n=>
  rw[TyT,hu]at h
  obtain⟨xs,e1,h1,h2⟩:=h
  injection e1 with _ _ e1
  rw[←e1,hm]at h1 h2
  exact⟨by rw[←hb];simpa using h1,fun a ha=>⟨n,h2 _ (List.mem_map.2 ⟨a,ha,rfl⟩)⟩⟩
theorem zgp {P:Program} {n:Nat} {t:TypeId} {xs:List T} {fs:Array Field} (hu:P.underlying t=some (.struct fs)) (h:TyT P n t (.st xs)):∃m,All2 (fun(f:Field) y=>TyT P m f.type y) fs.toList xs:=by
 obtain⟨m,ys,_,e,h1⟩:=zfG hu h
 cases e
 exact⟨m,h1⟩
end Go.Proofs.YtgmidllbkjdnnaaGreatDoor.Flat
namespace Go.Proofs.YtgmidllbkjdnnaaGreatDoor.Flat
set_option linter.unusedVariables false
set_option linter.unusedSimpArgs false
theorem zjQ {H : Type} {enc : TypeId × Value → H} {P : Program} {w : World} {base : Nat} {sp : Nat → Bool} {held : Bool} {fuel : Nat} {t e : TypeId} {n : Nat} {cs : List Value} {bs : List ByteArray} {p : List MemPlace}
  (ht:P.underlying t=some (.array n e)) (he:P.underlying e=some .string) (hce:P.cellsOf e=1) (hct:P.cellsOf t=n)
  (h:DataW.trod enc P w base sp held fuel t cs=some (.agg (bs.map fun b=>.lit (.string b.data.toList)),p)):cs=bs.map Value.string:=by
 cases fuel with
 | zero=>simp[DataW.trod]at h
 | succ fuel=>
  simp only[DataW.trod,ht,hce,hct,Nat.mul_one]at h
  split at h
  ·rename_i hl
   obtain⟨xs,hm,hx⟩:=Option.map_eq_some_iff.1 h
   have hxs:xs.map (·.1)=bs.map fun b=>(DataW.lit (.string b.data.toList):DataW H):=by
    have:=congrArg Prod.fst hx
    simpa using this
   have hxl:xs.length=n:=by simpa using Lib.mapM_length hm
   have hzl:bs.length=n:=by
    have:=congrArg List.length hxs
    simp at this
    omega
   apply List.ext_getElem?
   intro i
   by_cases hi:i < n
   ·obtain⟨b,hb,hf⟩:=Lib.mapM_at hm i i (by simp[hi])
    obtain⟨z,hc,rfl,_⟩:=DataW.trod_string he hf
    have h1:cs[i]?=some (.string z):=by
     have:=congrArg (·[0]?) hc
     simpa [List.getElem?_take,List.getElem?_drop] using this
    have h2:(xs.map (·.1))[i]?=some (DataW.lit (.string z.data.toList):DataW H):=by simp[hb]
    rw[hxs]at h2
    simp only[List.getElem?_map,Option.map_eq_some_iff,DataW.lit.injEq,Lit.string.injEq]at h2
    obtain⟨z',hz',e1⟩:=h2
    have e2:z'=z:=by
     cases z';cases z
     simp at e1
     rw[e1]
    subst e2
    simp[h1,hz']
   ·rw[List.getElem?_eq_none (by omega),List.getElem?_eq_none (by simp;omega)]
  ·cases h
theorem zjR {w:World} {E:Nat→Nat}:∀bs:List ByteArray,RepS w E (texts bs) (bs.map Value.string) []
 | []=>by rw[texts,RepS];exact⟨rfl,rfl⟩
 | b::bs=>by
  rw[texts,RepS]
  exact⟨[.string b],bs.map Value.string,[],[],rfl,rfl,by rw[Rep];exact⟨rfl,rfl,rfl⟩,zjR bs⟩
theorem zm6 {P : Program} {W : World} {name : String} {bs : List ByteArray} {rest : List (String × DataW Unit)} {g : Nat} {t e : TypeId} {n : Nat}
  (hg:P.globalNamed name=some g) (hty:(P.globals[g]?).map (·.type)=some t) (ht:P.underlying t=some (.array n e)) (he:P.underlying e=some .string) (hce:P.cellsOf e=1) (hct:P.cellsOf t=n) (h0:0 < bs.length)
  (h:laidMet P ((name,.agg (bs.map fun b=>.lit (.string b.data.toList)))::rest) W):
  g < W.heap.size∧∃cs,(∀w' E',Rep w' E' (.st (texts bs)) cs [])∧∀j u,cs[j]?=some u→W.cell? ⟨g,j,none⟩=some u:=by
 obtain⟨ps,⟨g',t',cs,fuel,p,q,hg',ht',hvar,hd,_,_⟩,_⟩:=h
 obtain rfl:=Option.some.inj (hg.symm.trans hg')
 obtain rfl:=Option.some.inj (hty.symm.trans ht')
 have hcs:=zjQ ht he hce hct hd
 have hcell:∀j u,(bs.map Value.string)[j]?=some u→W.cell? ⟨g,j,none⟩=some u:=by
  intro j u hj
  have h2:=World.var?_cell hg hvar j
  rw[h2]
  rw[←hcs]at hj
  simpa using hj
 refine⟨?_,bs.map Value.string,fun w' E'=>by rw[Rep];exact zjR bs,hcell⟩
 have h3:=hcell 0 (.string bs[0]) (by simp[h0])
 apply Nat.lt_of_not_le
 intro hle
 unfold World.cell? at h3
 dsimp only at h3
 rw[Array.getElem?_eq_none hle]at h3
 cases h3
section
variable {α β:Type} {r:β}
theorem sm {o:Option α} {f:α→Option β} (h:Option.casesOn (motive:=fun _=>Option β) o none f=some r):∃a,o=some a∧f a=some r:=by
 cases o with
 | none=>cases h
 | some a=>exact⟨a,rfl,h⟩
theorem fk {c:Bool} {a b:Option β} (h:(if c=true then a else b)=some r):(c=true∧a=some r)∨(c=false∧b=some r):=by
 cases c with
 | true=>exact .inl ⟨rfl,h⟩
 | false=>exact .inr ⟨rfl,h⟩
theorem ck {c:Bool} {a:Option β} (h:(if c=true then a else none)=some r):c=true∧a=some r:=by
 cases c with
 | true=>exact⟨rfl,h⟩
 | false=>cases h
theorem cl {m n:Nat} {a:Option β} (h:(if m≤n then a else none)=some r):m≤n∧a=some r:=by
 by_cases k:m≤n
 ·rw[if_pos k]at h;exact⟨k,h⟩
 ·rw[if_neg k]at h;cases h
end
theorem zX [Glob] {e:Env} {n:Nat} {os:List Obl} {x d:Bool} (h:x=d) (hs:Obls e n os):Obls e n (.b x d:: .b x d::os):=zi h (zi h hs)
theorem zy [Glob] {e:Env} {n:Nat} {os:List Obl} {x d:Bool} (h:x=d) (hs:Obls e n os):Obls e n (.b x d:: .b x d:: .b x d::os):=zi h (zX h hs)
theorem zah [Glob] {e:Env} {n:Nat} {os:List Obl} {x d:Bool} (h:x=d) (hs:Obls e n os):Obls e n (.b x d:: .b x d:: .b x d:: .b x d::os):=zX h (zX h hs)
def rpt (o:Obl):Nat→List Obl→List Obl
 | 0,os=>os
 | k+1,os=>o::rpt o k os
theorem zW [Glob] {e:Env} {n:Nat} {os:List Obl} {x d:Bool} (h:x=d):∀(k:Nat),Obls e n os→Obls e n (rpt (.b x d) k os)
 | 0,hs=>hs
 | k+1,hs=>zi h (zW h k hs)
theorem zck [Glob] {e:Env} {n:Nat} {os:List Obl} (k:Nat) (hs:Obls e n os):Obls e n (rpt (.b true true) k os):=zW rfl k hs
theorem ng {a b:Bool} (h:a=b):(!a)= !b:=congrArg (!·) h
theorem lk [Glob] {e:Env} {n:Nat} (c:Code) {b:Code} {s:St} {r:Option (Ex × St)} (h:c=.loop b) (h2:loopN (exec e n b) n s=r):exec e n c s=r:=by
 rw[h,exec]
 exact h2
@[match_pattern] abbrev I6 (x:Int):AV:=.t (.v (.int .i64 x))
@[match_pattern] abbrev Bo (x:Bool):AV:=.t (.v (.bool x))
@[match_pattern] abbrev Sr (x:ByteArray):AV:=.t (.v (.string x))
@[match_pattern] abbrev Sl (z:Nat) (xs:List T):AV:=.t (.sl false z xs)
end Go.Proofs.YtgmidllbkjdnnaaGreatDoor.Flat
namespace Go.Proofs.YtgmidllbkjdnnaaGreatDoor.Flat
set_option linter.unusedVariables false
set_option linter.unusedSimpArgs false
set_option linter.unusedSectionVars false
variable [Glob]
section
variable (e:Env)
end
end Go.Proofs.YtgmidllbkjdnnaaGreatDoor.Flat
