/- The functions of a program over trees of data: what each kind of step does. -/
import Derived.Test.YtgmidllbkjdnnaaGreatDoorFlatM1
import Derived.Great.BuildSlice
import Derived.Deep.Upon
namespace Go.Proofs.YtgmidllbkjdnnaaGreatDoor.Flat
set_option linter.unusedVariables false
set_option linter.unusedSimpArgs false
set_option linter.unusedSectionVars false
variable [Glob]
theorem RepTs.ctx {w:World} {E:Nat→Nat}:∀{xs:List T} {i:Nat} {y:T} {vs:List Value} {B:List Nat},RepTs w E xs vs B→xs[i]?=some y→
  ∃v B1 B2 B3,vs[i]?=some v∧B=B1++B2++B3∧RepT w E y v B2∧RepTs w E (xs.set i y.sh) vs (B1++B3)
 | [],i,y,vs,B,h,hy=>by cases hy
 | x::xs,0,y,vs,B,h,hy=>by
  obtain⟨v,vr,B1,B2,e1,e2,h1,h2⟩:=h
  cases hy
  exact⟨v,[],B1,B2,by rw[e1];rfl,e2,h1,v,vr,[],B2,e1,rfl,h1.sh,h2⟩
 | x::xs,i+1,y,vs,B,h,hy=>by
  obtain⟨v,vr,B1,B2,e1,e2,h1,h2⟩:=h
  obtain⟨v',C1,C2,C3,k1,k2,k3,k4⟩:=RepTs.ctx h2 (show xs[i]?=some y from hy)
  exact⟨v',B1++C1,C2,C3,by rw[e1];exact k1,by rw[e2,k2];simp,k3,v,vr,B1,C1++C3,e1,by simp,h1,k4⟩
section
variable {en:Env} {e:Ent} {w:World} {E:Nat→Nat} {β:Bm} {τ:Loc→List Nat} {a:Act} {s s':St} {o:Oper} {r q:List FL} {u:Unit}
theorem zlb (h:Sim e w E β τ a s) {x:Operand} {i:Nat} (ho:o.op=.extract x i) (hf:fire en o s=some (u,s',r,q)):Done en o e w a s':=by
 unfold fire at hf
 rw[ho]at hf
 cases x with
 | tmp j=>
  dsimp only at hf
  obtain⟨c,s1,_,_,_,_,h1,h2⟩:=M.bind_some hf
  obtain⟨g1,rfl⟩:=M.za4 h1
  have hv:=h.tm j c g1
  cases hcv:c.val with
  | tup xs=>
   simp only[hcv]at h2
   cases hy:xs[i]? with
   | none=>simp only[hy]at h2;exact(M.zt h2).elim
   | some y=>
    simp only[hy]at h2
    obtain⟨_,s2,_,_,_,_,h3,h4⟩:=M.bind_some h2
    obtain⟨_,rfl⟩:=M.zeJ h3
    rw[hcv,RepV]at hv
    obtain⟨vs,e1,e2⟩:=hv
    obtain⟨v,B1,B2,B3,k1,k2,k3,k4⟩:=RepTs.ctx e2 hy
    have hn:=h.nod (.tm j)
    rw[k2]at hn
    rw[List.append_assoc,List.nodup_append]at hn
    obtain⟨n1,n2,n3⟩:=hn
    rw[List.nodup_append]at n2
    have hsim:=h.val g1 (x':=.tup (xs.set i y.sh)) (B':=B1++B3) (fun j' hj=>by cases hj;rw[RepV];exact⟨vs,e1,k4⟩) (fun j' hj=>by cases hj)
     (fun k hk=>by rw[k2];simp at hk⊢;rcases hk with hk | hk<;>simp[hk]) (by rw[List.nodup_append];exact⟨n1,n2.2.1,fun x hx y hy=>n3 x hx y (List.mem_append_right _ hy)⟩) rfl (fun y' hy'=>by cases hy')
    have hfree:=h.free (B:=B2) (B':=B1++B3) (x':=.tup (xs.set i y.sh)) g1 (fun k hk=>⟨by rw[k2];simp[hk],fun hk'=>by
     rcases List.mem_append.1 hk' with hk' | hk'
     ·exact n3 k hk' k (List.mem_append_left _ hk) rfl
     ·exact n2.2.2 k hk k hk' rfl⟩) n2.1 (fun j' hj=>by cases hj)
    obtain⟨τ',kk⟩:=Sim.wr hsim h4 (v:=v) (by rw[RepV];exact k3) hfree zdP
    refine⟨_,_,w,E,β,τ', ?_,.inl rfl,kk⟩
    unfold execOp
    rw[ho]
    dsimp only
    rw[show a.eval (.tmp j)=a.tmps.getD j undef from rfl,e1]
    have:vs.toArray[i]?=some v:=by simpa using k1
    simp[Instr.extract,this]
  | _=>simp only[hcv]at h2;exact(M.zt h2).elim
 | _=>exact(M.zt (s:=s) hf).elim
theorem zqG {w:World} {E:Nat→Nat} {ow:Bool} {sz:Nat} {xs:List T} {v:Value} {B:List Nat} (h:RepT w E (.sl ow sz xs) v B):∃A c,v=.slice A xs.length c:=by
 obtain⟨cs,h1,h2⟩:=h
 rw[Rep]at h1
 obtain⟨A,c,rfl,_⟩:=h1
 exact⟨A,c,h2⟩
theorem zgh {c:Call} {b:Builtin} (ho:o.op=.call c) (hc:c.callee=.builtin b) (w:World):(execOp a.eval o).run en.P w=(builtin b c.argTypes o.type (c.args.map fun | .const _=>true | _=>false) (c.args.map a.eval)).run en.P w:=by
 unfold execOp
 rw[ho]
 dsimp only
 unfold resolve
 rw[hc]
 rfl
theorem zjs (h:Sim e w E β τ a s):∀{xs:List Operand} {vs:List Value} {s':St} {r q:List FL},rdVs xs s=some (vs,s',r,q)→s=s'∧xs.map a.eval=vs
 | [],vs,s',r,q,hr=>by
  obtain⟨rfl,rfl⟩:=M.zO (s:=s) hr
  exact⟨rfl,rfl⟩
 | x::xs,vs,s',r,q,hr=>by
  obtain⟨v,s1,_,_,_,_,h1,h2⟩:=M.bind_some hr
  obtain⟨rfl,e1,_⟩:=zeH h h1
  obtain⟨vr,s2,_,_,_,_,h3,h4⟩:=M.bind_some h2
  obtain⟨rfl,e2⟩:=zjs h h3
  obtain⟨rfl,rfl⟩:=M.zO h4
  exact⟨rfl,by rw[List.map_cons,e1,e2]⟩
theorem zlQ (h:Sim e w E β τ a s) {x:Operand} {y:AV} {s':St} {r q:List FL} (hr:rdCap x s=some (y,s',r,q)):s=s'∧RepV w E e.F β y (a.eval x) []:=by
 cases x with
 | tmp j=>
  obtain⟨c,s1,_,_,_,_,h1,h2⟩:=M.bind_some hr
  obtain⟨g1,rfl⟩:=M.za4 h1
  have hv:=(h.tm j c g1).cp
  cases hcv:c.val with
  | ptr b g p o=>simp only[hcv]at h2;obtain⟨rfl,rfl⟩:=M.zO h2;rw[hcv]at hv;exact⟨rfl,hv⟩
  | ref z=>simp only[hcv]at h2;obtain⟨rfl,rfl⟩:=M.zO h2;rw[hcv]at hv;exact⟨rfl,hv⟩
  | fref f caps=>simp only[hcv]at h2;obtain⟨rfl,rfl⟩:=M.zO h2;rw[hcv]at hv;exact⟨rfl,hv⟩
  | _=>simp only[hcv]at h2;exact(M.zt h2).elim
 | const v=>exact(M.zt (s:=s) hr).elim
 | global g=>exact(M.zt (s:=s) hr).elim
 | func g=>exact(M.zt (s:=s) hr).elim
theorem zhK (h:Sim e w E β τ a s):∀{xs:List Operand} {ys:List AV} {s':St} {r q:List FL},zjg xs s=some (ys,s',r,q)→s=s'∧RepVs w E e.F β ys (xs.map a.eval)
 | [],ys,s',r,q,hr=>by
  obtain⟨rfl,rfl⟩:=M.zO (s:=s) hr
  exact⟨rfl,by rw[RepVs];rfl⟩
 | x::xs,ys,s',r,q,hr=>by
  obtain⟨y,s1,_,_,_,_,h1,h2⟩:=M.bind_some hr
  obtain⟨rfl,e1⟩:=zlQ h h1
  obtain⟨yr,s2,_,_,_,_,h3,h4⟩:=M.bind_some h2
  obtain⟨rfl,e2⟩:=zhK h h3
  obtain⟨rfl,rfl⟩:=M.zO h4
  exact⟨rfl,by rw[RepVs];exact⟨_,_,rfl,e1,e2⟩⟩
theorem zkr (h:Sim e w E β τ a s) {fn:Fn} {first captured:Array Operand} (ho:o.op=.makeFunc fn first captured) (hf:fire en o s=some (u,s',r,q)):Done en o e w a s':=by
 unfold fire at hf
 rw[ho]at hf
 dsimp only at hf
 cases fn with
 | func f=>
  obtain⟨fl⟩:=first
  cases fl with
  | cons x fl=>exact(M.zt (s:=s) hf).elim
  | nil=>
   obtain⟨caps,s1,_,_,_,_,h1,h2⟩:=M.bind_some hf
   obtain⟨rfl,e1⟩:=zhK h h1
   obtain⟨τ',k⟩:=Sim.wr h h2 (v:=.func (.func f) #[] (captured.map a.eval)) (by rw[RepV];exact⟨rfl,captured.toList.map a.eval,by congr 1;apply Array.ext';simp,e1⟩) zd1 zdP
   refine⟨_,_,w,E,β,τ', ?_,.inl rfl,k⟩
   unfold execOp
   rw[ho]
   simp[Instr.makeFunc]
 | _=>exact(M.zt (s:=s) hf).elim
theorem zoC (h:Sim e w E β τ a s) {c:Call} (ho:o.op=.call c) (hc:c.callee=.builtin .len) (hf:fire en o s=some (u,s',r,q)):Done en o e w a s':=by
 unfold fire at hf
 rw[ho]at hf
 dsimp only at hf
 rw[hc]at hf
 dsimp only at hf
 obtain⟨cal,⟨as⟩,⟨ts⟩⟩:=c
 dsimp only at hc hf
 cases as with
 | nil=>exact(M.zt (s:=s) hf).elim
 | cons x as=>
  cases as with
  | cons _ _=>exact(M.zt (s:=s) hf).elim
  | nil=>
   cases ts with
   | nil=>exact(M.zt (s:=s) hf).elim
   | cons t ts=>
    cases ts with
    | cons _ _=>exact(M.zt (s:=s) hf).elim
    | nil=>
     dsimp only at hf
     have hx:=zgh (en:=en) (a:=a) ho hc w
     obtain⟨g,s0,_,_,_,_,h0,hf'⟩:=M.bind_some hf
     obtain⟨rfl,hl⟩:=zg7 h h0
     cases g with
     | some g=>
      obtain⟨l,p,m⟩:=g
      have hl:=hl l p m rfl
      dsimp only at hf'
      obtain⟨⟨el,n⟩,s2,_,_,_,_,h3,h4⟩:=M.bind_some hf'
      obtain⟨g3,rfl⟩:=M.zar h3
      obtain⟨ti,k1,_⟩:=zeh g3
      obtain⟨z,s3,_,_,_,_,h5,h6⟩:=M.bind_some h4
      obtain⟨rfl,x0,ad,c2,B1,B2,B3,hp⟩:=zf0 h h5
      have hv:=hl.val hp
      have hr:=hp.rep
      have fin:∀{A:Option Addr} {xs:List T} {cc:Nat} {r' q':List FL},a.eval x=.slice A xs.length cc→wr o.dst (.t (.v (.int .i64 xs.length))) none s=some (u,s',r',q')→Done en o e w a s':=by
       intro A xs cc r' q' e1 hw
       obtain⟨τ',k⟩:=Sim.wr h hw (v:=.int .i64 xs.length) (by rw[RepV];exact zgg rfl w E) zd1 zdP
       refine⟨_,_,w,E,β,τ', ?_,.inl rfl,k⟩
       rw[hx]
       simp[builtin,Builtin.len_,e1,run_underlying k1,goInt]
      cases z with
      | xl sz xs=>
       rw[Rep]at hr
       obtain⟨A,cc,e1,_⟩:=hr
       exact fin (by rw[hv,e1];rfl) h6
      | sl ow sz xs=>
       rw[Rep]at hr
       obtain⟨A,cc,e1,_⟩:=hr
       exact fin (by rw[hv,e1];rfl) h6
      | _=>exact(M.zt h6).elim
     | none=>
     dsimp only at hf'
     obtain⟨y,s1,_,_,_,_,h1,h2⟩:=M.bind_some hf'
     obtain⟨rfl,hv⟩:=zd8 h h1
     cases y with
     | t z=>
      cases z with
      | sl ow sz xs=>
       dsimp only at h2
       obtain⟨⟨el,n⟩,s2,_,_,_,_,h3,h4⟩:=M.bind_some h2
       obtain⟨g3,rfl⟩:=M.zar h3
       obtain⟨ti,k1,_⟩:=zeh g3
       rw[RepV]at hv
       obtain⟨A,cc,e1⟩:=zqG hv
       obtain⟨τ',k⟩:=Sim.wr h h4 (v:=.int .i64 xs.length) (by rw[RepV];exact zgg rfl w E) zd1 zdP
       refine⟨_,_,w,E,β,τ', ?_,.inl rfl,k⟩
       rw[hx]
       simp[builtin,Builtin.len_,e1,run_underlying k1,goInt]
      | v z=>
       dsimp only at h2
       obtain⟨v,s2,_,_,_,_,h3,h4⟩:=M.bind_some h2
       obtain⟨g3,rfl⟩:=M.zar h3
       obtain⟨_,s3,_,_,_,_,h5,h6⟩:=M.bind_some h4
       obtain⟨g5,rfl⟩:=M.zam h5
       rw[RepV]at hv
       obtain⟨e1,_,_⟩:=zgf hv
       obtain⟨τ',k⟩:=Sim.wr h h6 (v:=v) (by rw[RepV];exact zgg g5 w E) zd1 zdP
       refine⟨_,_,w,E,β,τ', ?_,.inl rfl,k⟩
       rw[hx]
       have:=zql g3 w
       simpa [builtin,e1] using this
      | st _=>exact(M.zt h2).elim
      | xl _ _=>exact(M.zt h2).elim
      | op=>exact(M.zt h2).elim
     | _=>exact(M.zt h2).elim
theorem ziJ (h:Sim e w E β τ a s) {c:Call} {b:Builtin} (ho:o.op=.call c) (hc:c.callee=.builtin b) (hb:b=.min∨b=.max) (hf:fire en o s=some (u,s',r,q)):Done en o e w a s':=by
 have hx:=zgh (en:=en) (a:=a) ho hc w
 unfold fire at hf
 rw[ho]at hf
 dsimp only at hf
 rw[hc]at hf
 rcases hb with rfl | rfl
 all_goals
  dsimp only at hf
  obtain⟨vs,s1,_,_,_,_,h1,h2⟩:=M.bind_some hf
  obtain⟨rfl,e1⟩:=zjs h h1
  obtain⟨v,s2,_,_,_,_,h3,h4⟩:=M.bind_some h2
  obtain⟨g3,rfl⟩:=M.zar h3
  obtain⟨_,s3,_,_,_,_,h5,h6⟩:=M.bind_some h4
  obtain⟨g5,rfl⟩:=M.zam h5
  obtain⟨τ',k⟩:=Sim.wr h h6 (v:=v) (by rw[RepV];exact zgg g5 w E) zd1 zdP
  refine⟨_,_,w,E,β,τ', ?_,.inl rfl,k⟩
  rw[hx]
  have e2:c.args.map a.eval=vs.toArray:=by apply Array.ext';simpa using e1
  rw[e2]
  exact zql g3 w
end
end Go.Proofs.YtgmidllbkjdnnaaGreatDoor.Flat
namespace Go.Proofs.YtgmidllbkjdnnaaGreatDoor.Flat
set_option linter.unusedVariables false
set_option linter.unusedSimpArgs false
set_option linter.unusedSectionVars false
variable [Glob]
theorem RepA.take {w:World} {E:Nat→Nat} {sz:Nat} {ad:Addr}:∀{xs:List T} {o:Nat} (n:Nat),RepA w E sz ad o xs→RepA w E sz ad o (xs.take n)
 | [],o,n,h=>by rw[List.take_nil];exact h
 | x::xs,o,0,h=>by rw[List.take_zero,RepA];trivial
 | x::xs,o,n+1,h=>by
  rw[RepA]at h
  rw[List.take_succ_cons,RepA]
  exact⟨h.1,RepA.take n h.2⟩
theorem RepA.drop {w:World} {E:Nat→Nat} {sz:Nat} {ad:Addr}:∀{xs:List T} {o:Nat} (n:Nat),RepA w E sz ad o xs→RepA w E sz ad (o+n * sz) (xs.drop n)
 | [],o,n,h=>by rw[List.drop_nil,RepA];trivial
 | x::xs,o,0,h=>by rw[Nat.zero_mul,Nat.add_zero];exact h
 | x::xs,o,n+1,h=>by
  rw[RepA]at h
  have:=RepA.drop n h.2
  rw[show o+sz+n * sz=o+(n+1) * sz by rw[Nat.add_mul];omega]at this
  exact this
theorem RepA.shift {w:World} {E:Nat→Nat} {sz:Nat} {ad:Addr} {m:Nat}:∀{xs:List T} {o:Nat},RepA w E sz ad (m+o) xs→RepA w E sz (ad.add m) o xs
 | [],o,h=>by rw[RepA];trivial
 | x::xs,o,h=>by
  rw[RepA]at h⊢
  obtain⟨⟨h1,cs,h2,h3,h4⟩,h5⟩:=h
  refine⟨⟨by rw[add_block,zgb];omega,cs,h2,fun j u hj=> ?_,h4⟩, ?_⟩
  ·rw[add_add]
   have:=h3 j u hj
   rwa[Nat.add_assoc]at this
  ·exact RepA.shift (by rw[←Nat.add_assoc];exact h5)
section
variable {en:Env} {e:Ent} {w:World} {E:Nat→Nat} {β:Bm} {τ:Loc→List Nat} {a:Act} {s s':St} {o:Oper} {r q:List FL} {u:Unit}
theorem run_sliceBound {P:Program} {k:IntKind} {i:Int} {y:Nat} {code:BoundsCode} (h0:0≤i) (h1:i≤(y:Int)) (w:World):(Instr.sliceBound (.int k i) y code).run P w=.ok i.toNat w:=by
 unfold Instr.sliceBound
 simp[asIntOf,h0,h1]
theorem zmQ (h:Sim e w E β τ a s) {t:TypeId} {x:Operand} {lo hi mx:Option Operand} (ho:o.op=.slice t x lo hi mx) (hf:fire en o s=some (u,s',r,q)):Done en o e w a s':=by
 unfold fire at hf
 rw[ho]at hf
 cases mx with
 | some mv=>
  cases hi with
  | none=>exact(M.zt (s:=s) hf).elim
  | some hv=>
   dsimp only at hf
   obtain⟨y,s1,_,_,_,_,h1,h2⟩:=M.bind_some hf
   obtain⟨rfl,hvv⟩:=zd8 h h1
   cases y with
   | t z=>
    cases z with
    | sl ow sz xs=>
     dsimp only at h2
     obtain⟨⟨el,n⟩,s2,_,_,_,_,h3,h4⟩:=M.bind_some h2
     obtain⟨g3,rfl⟩:=M.zar h3
     obtain⟨ti,k1,k2,k3⟩:=zeh g3
     obtain⟨l,s3,_,_,_,_,h5,h6⟩:=M.bind_some h4
     have hl:s=s3∧((lo=none∧l=0)∨∃v k,lo=some v∧a.eval v=.int k l):=by
      cases lo with
      | none=>obtain⟨rfl,rfl⟩:=M.zO (s:=s) h5;exact⟨rfl,.inl ⟨rfl,rfl⟩⟩
      | some v=>obtain⟨rfl,k,hk⟩:=zeV h h5;exact⟨rfl,.inr ⟨v,k,rfl,hk⟩⟩
     obtain⟨rfl,hl⟩:=hl
     obtain⟨hh,s4,_,_,_,_,h7,h8⟩:=M.bind_some h6
     obtain⟨rfl,kh,ehv⟩:=zeV h h7
     obtain⟨mm,s5,_,_,_,_,h9,h10⟩:=M.bind_some h8
     obtain⟨rfl,km,emv⟩:=zeV h h9
     obtain⟨_,s6,_,_,_,_,h11,h12⟩:=M.bind_some h10
     obtain⟨g9,rfl⟩:=M.zam h11
     rw[Bool.and_eq_true]at g9
     obtain⟨g9,g10⟩:=g9
     have hsz:sz=n:=by simpa using g9
     obtain⟨rfl,rfl,rfl⟩:=of_decide_eq_true g10
     rw[RepV]at hvv
     obtain⟨cs,m1,m2⟩:=hvv
     rw[Rep]at m1
     obtain⟨A,c,rfl,m3,m4,m5⟩:=m1
     have hx:a.eval x=.slice A xs.length c:=m2
     have hs:(sizeOf el).run en.P w=.ok sz w:=by unfold sizeOf typeInfo;simp[k2,k3,hsz]
     have bounds:(Instr.sliceBounds true xs.length c (lo.map a.eval) (some (.int kh 0)) (some (.int km 0))).run en.P w=.ok (0,0,0) w:=by
      unfold Instr.sliceBounds
      have b1:=run_sliceBound (k:=km) (code:=.slice3Acap) (P:=en.P) (i:=0) (y:=c) (by omega) (by omega) w
      have b2:=run_sliceBound (k:=kh) (code:=.slice3B) (P:=en.P) (i:=0) (y:=0) (by omega) (by omega) w
      rcases hl with ⟨rfl,_⟩ | ⟨v1,j1,rfl,e1⟩
      ·simp[b1,b2]
      ·have b3:=run_sliceBound (k:=j1) (code:=.slice3C) (P:=en.P) (i:=0) (y:=0) (by omega) (by omega) w
       simp[b1,b2,e1,b3]
     obtain⟨τ',kk⟩:=Sim.wr h h12 (v:=.slice A 0 0) (by
      rw[RepV]
      refine⟨[.slice A 0 0], ?_,rfl⟩
      rw[Rep]
      refine⟨A,0,rfl,Nat.le_refl _,m4, ?_⟩
      cases A with
      | none=>exact⟨rfl,rfl,rfl⟩
      | some ad=>exact⟨by rw[RepA];trivial,false,⟨fun h=>(by cases h),fun _ _=>rfl⟩,rfl,fun h=>by cases h⟩) zd1 zdP
     refine⟨_,_,w,E,β,τ', ?_,.inl rfl,kk⟩
     unfold execOp
     rw[ho]
     dsimp only
     rw[Sem.run_bind,hx]
     have hrun:(Instr.sliceAt t (.slice A xs.length c) (lo.map a.eval) ((some hv).map a.eval) ((some mv).map a.eval)).run en.P w=.ok (.slice A 0 0) w:=by
      unfold Instr.sliceAt Instr.slice
      simp only[Option.map_some,ehv,emv,Sem.run_bind,run_underlying k1 w,Result.andThen_ok,bounds,hs,Sem.run_pure]
      simp
     rw[hrun]
     rfl
    | _=>exact(M.zt h2).elim
   | _=>exact(M.zt h2).elim
 | none=>
 dsimp only at hf
 obtain⟨y,s1,_,_,_,_,h1,h2⟩:=M.bind_some hf
 obtain⟨rfl,hv⟩:=zd8 h h1
 cases y with
 | t z=>
  cases z with
  | sl ow sz xs=>
   dsimp only at h2
   obtain⟨⟨el,n⟩,s2,_,_,_,_,h3,h4⟩:=M.bind_some h2
   obtain⟨g3,rfl⟩:=M.zar h3
   obtain⟨ti,k1,k2,k3⟩:=zeh g3
   obtain⟨l,s3,_,_,_,_,h5,h6⟩:=M.bind_some h4
   have hl:s=s3∧((lo=none∧l=0)∨∃v k,lo=some v∧a.eval v=.int k l):=by
    cases lo with
    | none=>obtain⟨rfl,rfl⟩:=M.zO (s:=s) h5;exact⟨rfl,.inl ⟨rfl,rfl⟩⟩
    | some v=>obtain⟨rfl,k,hk⟩:=zeV h h5;exact⟨rfl,.inr ⟨v,k,rfl,hk⟩⟩
   obtain⟨rfl,hl⟩:=hl
   obtain⟨m,s4,_,_,_,_,h7,h8⟩:=M.bind_some h6
   have hh:s=s4∧((hi=none∧m=(xs.length:Int))∨∃v k,hi=some v∧a.eval v=.int k m):=by
    cases hi with
    | none=>obtain⟨rfl,rfl⟩:=M.zO (s:=s) h7;exact⟨rfl,.inl ⟨rfl,rfl⟩⟩
    | some v=>obtain⟨rfl,k,hk⟩:=zeV h h7;exact⟨rfl,.inr ⟨v,k,rfl,hk⟩⟩
   obtain⟨rfl,hh⟩:=hh
   obtain⟨_,s5,_,_,_,_,h9,h10⟩:=M.bind_some h8
   obtain⟨g9,rfl⟩:=M.zam h9
   rw[Bool.and_eq_true]at g9
   obtain⟨g9,g10⟩:=g9
   have hsz:sz=n:=by simpa using g9
   obtain⟨b0,b1,b2⟩:=of_decide_eq_true g10
   rw[RepV]at hv
   obtain⟨cs,m1,m2⟩:=hv
   rw[Rep]at m1
   obtain⟨A,c,rfl,m3,m4,m5⟩:=m1
   have hx:a.eval x=.slice A xs.length c:=m2
   have hs:(sizeOf el).run en.P w=.ok sz w:=by unfold sizeOf typeInfo;simp[k2,k3,hsz]
   have hlen:((xs.take m.toNat).drop l.toNat).length=m.toNat-l.toNat:=by rw[List.length_drop,List.length_take];omega
   have bounds:(Instr.sliceBounds true xs.length c (lo.map a.eval) (hi.map a.eval) none).run en.P w=.ok (l.toNat,m.toNat,c) w:=by
    unfold Instr.sliceBounds
    rcases hl with ⟨rfl,rfl⟩ | ⟨v1,j1,rfl,e1⟩<;>rcases hh with ⟨rfl,rfl⟩ | ⟨v2,j2,rfl,e2⟩
    ·simp
    ·simp[e2,run_sliceBound (k:=j2) (code:=.sliceAcap) (P:=en.P) (show 0≤m by omega) (show m≤(c:Int) by omega) w]
    ·simp[e1,run_sliceBound (k:=j1) (code:=.sliceB) (P:=en.P) b0 (show l≤(xs.length:Int) by omega) w]
    ·simp[e1,e2,run_sliceBound (k:=j2) (code:=.sliceAcap) (P:=en.P) (show 0≤m by omega) (show m≤(c:Int) by omega) w,run_sliceBound (k:=j1) (code:=.sliceB) (P:=en.P) b0 (show l≤(m.toNat:Int) by omega) w]
   obtain⟨τ',kk⟩:=Sim.wr h h10 (v:=.slice (if c=l.toNat then A else A.map (·.add (l.toNat * sz))) (m.toNat-l.toNat) (c-l.toNat)) (by
    rw[RepV]
    refine⟨[.slice (if c=l.toNat then A else A.map (·.add (l.toNat * sz))) (m.toNat-l.toNat) (c-l.toNat)], ?_,rfl⟩
    rw[Rep]
    refine⟨(if c=l.toNat then A else A.map (·.add (l.toNat * sz))),c-l.toNat,by rw[hlen],by rw[hlen];omega,m4, ?_⟩
    cases A with
    | none=>
     obtain⟨e1,e2,_⟩:=m5
     subst e1
     have hnone:(if c=l.toNat then(none:Option Addr)else Option.map (fun x:Addr=>x.add (l.toNat * sz)) none)=none:=by split<;>rfl
     simp only[hnone]
     exact⟨by simp,by omega,trivial⟩
    | some ad=>
     by_cases hc:c=l.toNat
     ·rw[if_pos hc]
      have:(xs.take m.toNat).drop l.toNat=[]:=List.eq_nil_of_length_eq_zero (by rw[hlen];omega)
      rw[this]
      exact⟨by rw[RepA];trivial,false,⟨fun h=>(by cases h),fun h=>(by cases h)⟩,rfl,fun h=>by cases h⟩
     ·rw[if_neg hc]
      refine⟨RepA.shift ?_,false,⟨fun h=>(by cases h),fun h=>(by cases h)⟩,rfl,fun h=>by cases h⟩
      have:=RepA.drop l.toNat (RepA.take m.toNat m5.1)
      rw[Nat.zero_add]at this
      exact this) zd1 zdP
   refine⟨_,_,w,E,β,τ', ?_,.inl rfl,kk⟩
   unfold execOp
   rw[ho]
   dsimp only
   rw[Sem.run_bind,hx]
   have hrun:(Instr.sliceAt t (.slice A xs.length c) (lo.map a.eval) (hi.map a.eval) (Option.map a.eval none)).run en.P w=.ok (.slice (if c=l.toNat then A else A.map (·.add (l.toNat * sz))) (m.toNat-l.toNat) (c-l.toNat)) w:=by
    unfold Instr.sliceAt Instr.slice
    simp only[Sem.run_bind,run_underlying k1 w,Result.andThen_ok,Option.map_none,bounds,hs,Sem.run_pure]
   rw[hrun]
   rfl
  | v z=>
   dsimp only at h2
   rw[RepV]at hv
   obtain⟨e0,_,_⟩:=zgf hv
   obtain⟨l,s3,_,_,_,_,h5,h6⟩:=M.bind_some h2
   have hl:s=s3∧lo.map a.eval=l:=by
    cases lo with
    | none=>obtain⟨rfl,rfl⟩:=M.zO (s:=s) h5;exact⟨rfl,rfl⟩
    | some v=>
     obtain⟨w1,s4,_,_,_,_,h7,h8⟩:=M.bind_some h5
     obtain⟨rfl,e1,_⟩:=zeH h h7
     obtain⟨rfl,rfl⟩:=M.zO h8
     exact⟨rfl,by rw[←e1];rfl⟩
   obtain⟨rfl,hl⟩:=hl
   obtain⟨m,s4,_,_,_,_,h7,h8⟩:=M.bind_some h6
   have hh:s=s4∧hi.map a.eval=m:=by
    cases hi with
    | none=>obtain⟨rfl,rfl⟩:=M.zO (s:=s) h7;exact⟨rfl,rfl⟩
    | some v=>
     obtain⟨w1,s4,_,_,_,_,h9,h10⟩:=M.bind_some h7
     obtain⟨rfl,e1,_⟩:=zeH h h9
     obtain⟨rfl,rfl⟩:=M.zO h10
     exact⟨rfl,by rw[←e1];rfl⟩
   obtain⟨rfl,hh⟩:=hh
   obtain⟨v,s5,_,_,_,_,h9,h10⟩:=M.bind_some h8
   obtain⟨g9,rfl⟩:=M.zar h9
   obtain⟨_,s6,_,_,_,_,h11,h12⟩:=M.bind_some h10
   obtain⟨g11,rfl⟩:=M.zam h11
   obtain⟨g9,g12⟩:ev en.P (Instr.sliceAt t z l m none)=some v∧True:=⟨g9,trivial⟩
   exact zjm h g9 (by unfold execOp;rw[ho];dsimp only;rw[e0,hl,hh];rfl) g11 h12
  | st _=>exact(M.zt h2).elim
  | xl _ _=>exact(M.zt h2).elim
  | op=>exact(M.zt h2).elim
 | _=>exact(M.zt h2).elim
end
end Go.Proofs.YtgmidllbkjdnnaaGreatDoor.Flat
namespace Go.Proofs.YtgmidllbkjdnnaaGreatDoor.Flat
set_option linter.unusedVariables false
set_option linter.unusedSimpArgs false
set_option linter.unusedSectionVars false
variable [Glob]
def BmLe (β β':Bm):Prop:=∀b g,g≤β.G b→β' b g=β b g∧g≤β'.G b
mutual
theorem RepV.beta {w:World} {E:Nat→Nat} {F:Nat→Prop} {β β':Bm} (hb:BmLe β β'):∀{x:AV} {v:Value} {B:List Nat},RepV w E F β x v B→RepV w E F β' x v B
 | .t x,v,B,h=>by rw[RepV]at h⊢;exact h
 | .tup xs,v,B,h=>by rw[RepV]at h⊢;exact h
 | .ptr b g p o,v,B,h=>by
  rw[RepV]at h⊢
  obtain⟨e1,e2⟩:=hb b g h.2.2
  exact⟨by rw[e1];exact h.1,h.2.1,e2⟩
 | .ref x,v,B,h=>by rw[RepV]at h⊢;exact h
 | .fref f caps,v,B,h=>by
  rw[RepV]at h⊢
  obtain⟨k1,ad,cv,k2,k3,k4,k5⟩:=h
  exact⟨k1,ad,cv,k2,k3,k4,RepVs.beta hb k5⟩
 | .fn f caps,v,B,h=>by
  rw[RepV]at h⊢
  obtain⟨k1,cv,k2,k3⟩:=h
  exact⟨k1,cv,k2,RepVs.beta hb k3⟩
 | .io _,v,B,h=>by rw[RepV]at h;exact h.elim
 | .xr _ _ _ _,v,B,h=>by rw[RepV]at h⊢;exact h
 | .un,v,B,h=>by rw[RepV]at h⊢;exact h
 | .nd,v,B,h=>by rw[RepV]at h⊢;exact h
theorem RepVs.beta {w:World} {E:Nat→Nat} {F:Nat→Prop} {β β':Bm} (hb:BmLe β β'):∀{xs:List AV} {vs:List Value},RepVs w E F β xs vs→RepVs w E F β' xs vs
 | [],vs,h=>by rw[RepVs]at h⊢;exact h
 | x::xs,vs,h=>by
  rw[RepVs]at h⊢
  obtain⟨v,vr,e1,h1,h2⟩:=h
  exact⟨v,vr,e1,RepV.beta hb h1,RepVs.beta hb h2⟩
end
theorem RepC.beta {w:World} {E:Nat→Nat} {F:Nat→Prop} {β β':Bm} (hb:BmLe β β') {x:AV} {cs:List Value} {B:List Nat} (h:RepC w E F β x cs B):RepC w E F β' x cs B:=by
 cases x with
 | fn f caps=>obtain⟨v,e,h⟩:=h;exact⟨v,e,RepV.beta hb h⟩
 | _=>exact h
theorem zft {w:World} {ob:Obj} {k:Nat} (h:k < w.heap.size):({w with heap:=w.heap.push ob}:World).heap[k]?=w.heap[k]?:=by
 show(w.heap.push ob)[k]?=_
 rw[Array.getElem?_push]
 rw[if_neg (by omega)]
theorem zhL {w:World} {ob:Obj}:({w with heap:=w.heap.push ob}:World).heap[w.heap.size]?=some ob:=by
 show(w.heap.push ob)[w.heap.size]?=_
 rw[Array.getElem?_push,if_pos rfl]
theorem zeX {w:World} {ob:Obj}:({w with heap:=w.heap.push ob}:World).heap.size=w.heap.size+1:=by
 show(w.heap.push ob).size=_
 rw[Array.size_push]
section
variable {en:Env} {e:Ent} {w:World} {E:Nat→Nat} {β:Bm} {τ:Loc→List Nat} {a:Act} {s s':St} {o:Oper} {r q:List FL} {u:Unit}
theorem Sim.push (h:Sim e w E β τ a s) (ob:Obj):Sim e {w with heap:=w.heap.push ob} E β τ a s:=by
 refine h.move (Ba:=[]) (M:=[]) ⟨by rw[zeX];omega,fun k hk _ _=>⟨zft hk,rfl⟩,fun k hk=>(by cases hk),fun k hk=>(by cases hk),rfl,rfl,rfl⟩ (fun k hk=>h.z k (by rw[zeX]at hk;omega)) (fun k hk=>by cases hk) (fun k hk=>by cases hk)
def Bm.up (β:Bm) (d g k:Nat):Bm:=⟨fun b g'=>if b=d∧g'=g then k else β b g',fun b=>if b=d then g else β.G b⟩
theorem Free.push {B:List Nat} (h:Free e w β τ s B) (ob:Obj):Free e {w with heap:=w.heap.push ob} β τ s B:=
 ⟨h.1,fun k hk=>by obtain⟨k1,k2⟩:=h.2 k hk;exact⟨by rw[zeX];omega,k2⟩⟩
theorem Sim.zqn (h : Sim e w E β τ a s) {d : Nat} {c0 : Cell} (hd : s.get (.bx d) = some c0) (hdt : d < s.tm.length) {y0 : AV} {cs : List Value} {B : List Nat} (hr : RepC w E e.F β y0 cs B) (hB : Free e w β τ s B) (ty : TypeId) :
  Sim e {w with heap:=w.heap.push (.cells cs.toArray ty (0,0))} E (β.up d (c0.gen+1) w.heap.size) (upT τ (.bx d) B) a (s.put (.bx d) ⟨y0,none,c0.ver+1,c0.gen+1⟩):=by
 have hd':s.bx[d]?=some c0:=hd
 have hG:c0.gen=β.G d:=h.gn d c0 hd'
 have hle:BmLe β (β.up d (c0.gen+1) w.heap.size):=by
  intro b g hg
  by_cases hb:b=d
  ·subst hb
   refine⟨if_neg (by omega), ?_⟩
   show g≤(if b=b then c0.gen+1 else β.G b)
   rw[if_pos rfl]
   omega
  ·refine⟨if_neg (fun h=>hb h.1), ?_⟩
   show g≤(if b=d then c0.gen+1 else β.G b)
   rw[if_neg hb]
   exact hg
 have hm:=h.push (.cells cs.toArray ty (0,0))
 have pres:Pres w E {w with heap:=w.heap.push (.cells cs.toArray ty (0,0))} E e.F B:=by
  refine⟨⟨fun k i hi=>⟨hi, ?_⟩,fun k hk=>⟨rfl, ?_⟩⟩,fun k hk=> ?_⟩
  ·refine zeP (zft ?_)
   apply Nat.lt_of_not_le
   intro hle2
   have:=h.z k hle2
   omega
  ·exact zft (hB.2 k hk).1
  ·exact zft (Nat.lt_of_lt_of_le hk.1 h.fr.size)
 have old:∀j c,s.bx[j]?=some c→j≠d→(β.up d (c0.gen+1) w.heap.size) j c.gen=β j c.gen:=fun j c hj hjd=>if_neg (fun h=>hjd h.1)
 have new:(β.up d (c0.gen+1) w.heap.size) d (c0.gen+1)=w.heap.size:=if_pos ⟨rfl,rfl⟩
 have gbx:∀(j:Nat) (c:Cell),(s.put (.bx d) ⟨y0,none,c0.ver+1,c0.gen+1⟩).bx[j]?=some c→(j=d∧c=⟨y0,none,c0.ver+1,c0.gen+1⟩)∨(j≠d∧s.bx[j]?=some c):=by
  intro j c hc
  by_cases hj:j=d
  ·subst hj
   rw[show(s.put (.bx j) ⟨y0,none,c0.ver+1,c0.gen+1⟩).bx[j]?=some ⟨y0,none,c0.ver+1,c0.gen+1⟩ from St.get_put s (.bx j) _ c0 hd]at hc
   exact .inl ⟨rfl,(Option.some.inj hc).symm⟩
  ·exact .inr ⟨hj,by rw[←hc];exact(St.zd2 s d _ (.bx j) (fun e=>hj (by injection e))).symm⟩
 have ltb:∀j c,s.bx[j]?=some c→c.val≠ .un→β j c.gen < w.heap.size:=fun j c hj hv=>by
  obtain⟨cells,ty',k1,_⟩:=h.bx j c hj hv
  exact(Array.getElem?_eq_some_iff.1 k1).1
 refine⟨hm.dfr,hm.len,fun i c hc=> ?_,fun j c hc hv=> ?_,fun l k hk=> ?_,fun l l' k hk hk'=> ?_,fun l=> ?_,fun l k j c hk hc hv=> ?_,fun i j c c' hc hc' hv hv' he=> ?_,fun i c kk l p n hc ho=> ?_,hm.z,hm.mz,hm.mlt,hm.blt,hm.dis,fun b c hc=> ?_,hm.fr,fun i' k hk=> ?_⟩
 ·rw[zaE τ B (by simp)]
  exact RepV.beta hle (hm.tm i c hc)
 ·rcases gbx j c hc with ⟨rfl,rfl⟩ | ⟨hj,hc'⟩
  ·rw[new,zbG]
   refine⟨cs.toArray,ty,zhL, ?_,h.z _ (Nat.le_refl _),.inl h.fr.size⟩
   exact RepC.beta hle (RepC.mv pres hr)
  ·rw[old j c hc' hj,zaE τ B (fun e=>hj (by injection e))]
   obtain⟨cells,ty',k1,k2,k3⟩:=hm.bx j c hc' hv
   exact⟨cells,ty',k1,RepC.beta hle k2,k3⟩
 ·by_cases hl:l=.bx d
  ·subst hl
   rw[zbG]at hk
   obtain⟨k1,k2,_⟩:=hB.2 k hk
   exact⟨by rw[zeX];omega,k2⟩
  ·rw[zaE τ B hl]at hk
   exact hm.tok l k hk
 ·by_cases hl:l=.bx d<;>by_cases hl':l'=.bx d
  ·rw[hl,hl']
  ·subst hl
   rw[zbG]at hk
   rw[zaE τ B hl']at hk'
   exact absurd hk' ((hB.2 k hk).2.2.1 l')
  ·subst hl'
   rw[zbG]at hk'
   rw[zaE τ B hl]at hk
   exact absurd hk ((hB.2 k hk').2.2.1 l)
  ·rw[zaE τ B hl]at hk
   rw[zaE τ B hl']at hk'
   exact h.one l l' k hk hk'
 ·by_cases hl:l=.bx d
  ·rw[hl,zbG];exact hB.1
  ·rw[zaE τ B hl];exact h.nod l
 ·have hlt:k < w.heap.size:=by
   by_cases hl:l=.bx d
   ·subst hl
    rw[zbG]at hk
    exact(hB.2 k hk).1
   ·rw[zaE τ B hl]at hk
    exact(h.tok l k hk).1
  rcases gbx j c hc with ⟨rfl,rfl⟩ | ⟨hj,hc'⟩
  ·rw[new];omega
  ·rw[old j c hc' hj]
   by_cases hl:l=.bx d
   ·subst hl
    rw[zbG]at hk
    exact(hB.2 k hk).2.2.2 j c hc' hv
   ·rw[zaE τ B hl]at hk
    exact h.tb l k j c hk hc' hv
 ·rcases gbx i c hc with ⟨rfl,rfl⟩ | ⟨hi,hci⟩<;>rcases gbx j c' hc' with ⟨rfl,rfl⟩ | ⟨hj,hcj⟩
  ·rfl
  ·rw[new,old j c' hcj hj]at he
   have:=ltb j c' hcj hv'
   omega
  ·rw[new,old i c hci hi]at he
   have:=ltb i c hci hv
   omega
  ·rw[old i c hci hi,old j c' hcj hj]at he
   exact h.bb i j c c' hci hcj hv hv' he
 ·have hq:=hm.og i c kk l p n hc ho
  intro d2 hd2
  by_cases hl:l=.bx d
  ·subst hl
   rw[St.get_put s (.bx d) _ c0 hd]at hd2
   cases hd2
   obtain⟨q1,_⟩:=hq c0 hd
   exact⟨by show n≤c0.ver+1;omega,fun x y ad c2 hv=>by have:c0.ver+1=n:=hv;omega⟩
  ·rw[St.zd2 s d _ l hl]at hd2
   obtain⟨q1,q2⟩:=hq d2 hd2
   refine⟨q1,fun x y ad c2 hv hx hk=>q2 x y ad c2 hv hx ?_⟩
   have:zdb {w with heap:=w.heap.push (.cells cs.toArray ty (0,0))} (β.up d (c0.gen+1) w.heap.size) a (s.put (.bx d) ⟨y0,none,c0.ver+1,c0.gen+1⟩) l=zdb {w with heap:=w.heap.push (.cells cs.toArray ty (0,0))} β a s l:=by
    cases l with
    | tm j=>rfl
    | bx j=>
     have hj:j≠d:=fun e=>hl (by rw[e])
     have hd2':s.bx[j]?=some d2:=hd2
     have hd3:(s.put (.bx d) ⟨y0,none,c0.ver+1,c0.gen+1⟩).bx[j]?=some d2:=by rw[←hd2'];exact St.zd2 s d _ (.bx j) (fun e=>hj (by injection e))
     simp only[zdb,hd2',hd3,old j d2 hd2' hj]
   rw[this]at hk
   exact hk
 ·rcases gbx b c hc with ⟨rfl,rfl⟩ | ⟨hb,hc'⟩
  ·show c0.gen+1=(if b=b then c0.gen+1 else β.G b)
   rw[if_pos rfl]
  ·show c.gen=(if b=d then c0.gen+1 else β.G b)
   rw[if_neg hb]
   exact h.gn b c hc'
 ·obtain⟨q1,q2⟩:=h.fx i' k hk
  have hne:i'≠d:=by omega
  refine⟨q1, ?_⟩
  show(if i'=d∧(if i'=d then c0.gen+1 else β.G i')=c0.gen+1 then w.heap.size else β i' (if i'=d then c0.gen+1 else β.G i'))=k
  rw[if_neg (fun h=>hne h.1),if_neg hne]
  exact q2
end
end Go.Proofs.YtgmidllbkjdnnaaGreatDoor.Flat
namespace Go.Proofs.YtgmidllbkjdnnaaGreatDoor.Flat
set_option linter.unusedVariables false
set_option linter.unusedSimpArgs false
set_option linter.unusedSectionVars false
variable [Glob]
theorem zfc {P:Program} {t:TypeId} {z:T} (h:zeroT P t=some z):∃i zv,P.info? t=some i∧i.zero=some zv∧∀w E,RepT w E z zv []:=by
 unfold zeroT at h
 cases hi:P.info? t with
 | none=>rw[hi]at h;cases h
 | some i=>
  rw[hi]at h
  dsimp only at h
  cases hz:i.zero with
  | none=>rw[hz]at h;cases h
  | some zv=>rw[hz]at h;exact⟨i,zv,rfl,hz,fun w E=>zhH h w E⟩
theorem RepT.cells {w:World} {E:Nat→Nat} {z:T} {v:Value} {B:List Nat} (h:RepT w E z v B):Rep w E z v.cells.toList B:=by
 obtain⟨cs,h1,h2⟩:=h
 rw[h2,ziE h1]
 exact h1
section
variable {en:Env} {e:Ent} {w:World} {E:Nat→Nat} {β:Bm} {τ:Loc→List Nat} {a:Act} {s s':St} {o:Oper} {r q:List FL} {u:Unit}
theorem zjt (h : Sim e w E β τ a s) {d : Nat} {c0 : Cell} (hd : s.get (.bx d) = some c0) (hod : o.dst = some d) {y : AV} {v : Value} {B : List Nat} (hr : RepC w E e.F β y v.cells.toList B) (hB : Free e w β τ s B) (ty : TypeId)
  (hrun:(execOp a.eval o).run en.P w=.ok (.value (.pointer (some ⟨w.heap.size,0,none⟩))) {w with heap:=w.heap.push (.cells v.cells ty (0,0))})
  (hw:wr o.dst (.ptr d (c0.gen+1) [] 0) none (s.put (.bx d) ⟨y,none,c0.ver+1,c0.gen+1⟩)=some (u,s',r,q)):Done en o e w a s':=by
 have hdt:d < s.tm.length:=by
  rw[hod]at hw
  obtain⟨c,s1,_,_,_,_,h1,h2⟩:=M.bind_some hw
  obtain⟨g1,_⟩:=M.za4 h1
  exact(List.getElem?_eq_some_iff.1 (show s.tm[d]?=some c from g1)).1
 have hn:=h.zqn hd hdt hr hB ty
 have e1:v.cells.toList.toArray=v.cells:=by simp
 rw[e1]at hn
 obtain⟨τ',k⟩:=Sim.wr hn hw (v:=.pointer (some ⟨w.heap.size,0,none⟩)) (B:=[]) (by
  rw[RepV]
  refine⟨?_,rfl, ?_⟩
  ·show _=Value.pointer (some ⟨(if d=d∧c0.gen+1=c0.gen+1 then w.heap.size else β d (c0.gen+1)),0,none⟩)
   rw[if_pos ⟨rfl,rfl⟩]
  ·show c0.gen+1≤(if d=d then c0.gen+1 else β.G d)
   rw[if_pos rfl]
   exact Nat.le_refl _) zd1 zdP
 exact⟨_,_,_,E,_,τ',hrun,.inl rfl,k⟩
theorem zmR (h:Sim e w E β τ a s) {t:TypeId} (ho:o.op=.alloc t) (hf:fire en o s=some (u,s',r,q)):Done en o e w a s':=by
 unfold fire at hf
 rw[ho]at hf
 obtain⟨z,s1,_,_,_,_,h1,h2⟩:=M.bind_some hf
 obtain⟨g1,rfl⟩:=M.zar h1
 obtain⟨i,zv,k1,k2,k3⟩:=zfc g1
 cases hd:o.dst with
 | none=>rw[hd]at h2;exact(M.zt h2).elim
 | some d=>
  rw[hd]at h2
  obtain⟨c,s2,_,_,_,_,h3,h4⟩:=M.bind_some h2
  obtain⟨g3,rfl⟩:=M.za4 h3
  obtain⟨_,s3,_,_,_,_,h5,h6⟩:=M.bind_some h4
  obtain⟨_,rfl⟩:=M.zeJ h5
  obtain⟨B',k4,k5⟩:=(k3 w E).mkA (mkD en (some d) 0)
  have:B'=[]:=List.sublist_nil.1 k5
  subst this
  refine zjt h g3 hd (y:=.t (z.mkA (mkD en (some d) 0))) (v:=zv) (B:=[]) k4.cells zd1 t ?_ (by rw[hd];exact h6)
  unfold execOp
  rw[ho]
  simp[Instr.alloc,zeroValue,typeInfo,k1,k2,newVar,newRow]
theorem zoD (h:Sim e w E β τ a s) {t:TypeId} {x:Operand} (ho:o.op=.box t x) (hf:fire en o s=some (u,s',r,q)):Done en o e w a s':=by
 unfold fire at hf
 rw[ho]at hf
 obtain⟨y,s1,_,_,_,_,h1,h2⟩:=M.bind_some hf
 obtain⟨τ1,B,k1,k2,k3,_⟩:=zeW h h1
 have hrun:∀w,(execOp a.eval o).run en.P w=.ok (.value (.pointer (some ⟨w.heap.size,0,none⟩))) {w with heap:=w.heap.push (.cells (a.eval x).cells t (0,0))}:=by
  intro w
  unfold execOp
  rw[ho]
  simp[Instr.box,newVar,newRow]
 cases hd:o.dst with
 | none=>rw[hd]at h2;cases y<;>exact(M.zt h2).elim
 | some d=>
  rw[hd]at h2
  cases y with
  | t z=>
   obtain⟨_,s2,_,_,_,_,h3,h4⟩:=M.bind_some h2
   obtain⟨_,rfl⟩:=M.zam h3
   obtain⟨c,s3,_,_,_,_,h5,h6⟩:=M.bind_some h4
   obtain⟨g5,rfl⟩:=M.za4 h5
   obtain⟨_,s4,_,_,_,_,h7,h8⟩:=M.bind_some h6
   obtain⟨_,rfl⟩:=M.zeJ h7
   rw[RepV]at k2
   exact zjt k1 g5 hd (y:=.t z) (v:=a.eval x) k2.cells k3 t (hrun w) (by rw[hd];exact h8)
  | fn f caps=>
   obtain⟨c,s3,_,_,_,_,h5,h6⟩:=M.bind_some h2
   obtain⟨g5,rfl⟩:=M.za4 h5
   obtain⟨_,s4,_,_,_,_,h7,h8⟩:=M.bind_some h6
   obtain⟨_,rfl⟩:=M.zeJ h7
   have k2':=k2
   rw[RepV]at k2'
   obtain⟨_,cv,e1,_⟩:=k2'
   refine zjt k1 g5 hd (y:=.fn f caps) (v:=a.eval x) (B:=B) ⟨a.eval x,by rw[e1];rfl,k2⟩ k3 t (hrun w) (by rw[hd];exact h8)
  | _=>exact(M.zt h2).elim
end
end Go.Proofs.YtgmidllbkjdnnaaGreatDoor.Flat
namespace Go.Proofs.YtgmidllbkjdnnaaGreatDoor.Flat
set_option linter.unusedVariables false
set_option linter.unusedSimpArgs false
set_option linter.unusedSectionVars false
variable [Glob]
section
variable {en:Env} {e:Ent} {w:World} {E:Nat→Nat} {β:Bm} {τ:Loc→List Nat} {a:Act} {s s':St} {o:Oper} {r q:List FL} {u:Unit}
theorem zju {b:Nat} {c c':Cell} (hb:s.get (.bx b)=some c):∀(j:Nat) (d:Cell),(s.put (.bx b) c').bx[j]?=some d→(j=b∧d=c')∨(j≠b∧s.bx[j]?=some d):=by
 intro j d hd
 by_cases hj:j=b
 ·subst hj
  rw[show(s.put (.bx j) c').bx[j]?=some c' from St.get_put s (.bx j) _ c hb]at hd
  exact .inl ⟨rfl,(Option.some.inj hd).symm⟩
 ·exact .inr ⟨hj,by rw[←hd];exact(St.zd2 s b _ (.bx j) (fun e=>hj (by injection e))).symm⟩
theorem Sim.setB (h : Sim e w E β τ a s) {b : Nat} {c c' : Cell} (hb : s.get (.bx b) = some c) (hg : c'.gen = c.gen) (hv : c.ver ≤ c'.ver) {B : List Nat} (hB : Free e w β τ s B)
  (hc:c'.val≠ .un→∃cells ty,w.heap[β b c.gen]?=some (.cells cells ty (0,0))∧RepC w E e.F β c'.val cells.toList B∧E (β b c.gen)=0∧(e.w.heap.size≤β b c.gen∨β b c.gen∈e.M)∧β b c.gen∉B∧(∀l,β b c.gen∉τ l)∧∀j d,j≠b→s.bx[j]?=some d→d.val≠ .un→β j d.gen≠β b c.gen)
  (ho:c'.ver=c.ver→∀y,c'.val≠ .t y):Sim e w E β (upT τ (.bx b) B) a (s.put (.bx b) c'):=by
 have gbx:=zju (c':=c') hb
 refine⟨h.dfr,h.len,fun i d hd=> ?_,fun j d hd hdv=> ?_,fun l k hk=> ?_,fun l l' k hk hk'=> ?_,fun l=> ?_,fun l k j d hk hd hdv=> ?_,fun i j d d' hd hd' hdv hdv' he=> ?_,fun i d kk l p n hd hog=> ?_,h.z,h.mz,h.mlt,h.blt,h.dis,fun j d hd=> ?_,h.fr,fun i' k hk=>by have:=h.fx i' k hk;simpa [St.put] using this⟩
 ·rw[zaE τ B (by simp)]
  exact h.tm i d hd
 ·rcases gbx j d hd with ⟨rfl,rfl⟩ | ⟨hj,hd'⟩
  ·obtain⟨cells,ty,k1,k2,k3,k4,_⟩:=hc hdv
   rw[hg,zbG]
   exact⟨cells,ty,k1,k2,k3,k4⟩
  ·rw[zaE τ B (fun e=>hj (by injection e))]
   exact h.bx j d hd' hdv
 ·by_cases hl:l=.bx b
  ·subst hl
   rw[zbG]at hk
   obtain⟨k1,k2,_⟩:=hB.2 k hk
   exact⟨k1,k2⟩
  ·rw[zaE τ B hl]at hk
   exact h.tok l k hk
 ·by_cases hl:l=.bx b<;>by_cases hl':l'=.bx b
  ·rw[hl,hl']
  ·subst hl
   rw[zbG]at hk
   rw[zaE τ B hl']at hk'
   exact absurd hk' ((hB.2 k hk).2.2.1 l')
  ·subst hl'
   rw[zbG]at hk'
   rw[zaE τ B hl]at hk
   exact absurd hk ((hB.2 k hk').2.2.1 l)
  ·rw[zaE τ B hl]at hk
   rw[zaE τ B hl']at hk'
   exact h.one l l' k hk hk'
 ·by_cases hl:l=.bx b
  ·rw[hl,zbG];exact hB.1
  ·rw[zaE τ B hl];exact h.nod l
 ·rcases gbx j d hd with ⟨rfl,rfl⟩ | ⟨hj,hd'⟩
  ·obtain⟨cells,ty,_,_,_,_,k5,k6,_⟩:=hc hdv
   rw[hg]
   by_cases hl:l=.bx j
   ·subst hl
    rw[zbG]at hk
    exact fun e=>k5 (e ▸ hk)
   ·rw[zaE τ B hl]at hk
    exact fun e=>k6 l (e ▸ hk)
  ·by_cases hl:l=.bx b
   ·subst hl
    rw[zbG]at hk
    exact(hB.2 k hk).2.2.2 j d hd' hdv
   ·rw[zaE τ B hl]at hk
    exact h.tb l k j d hk hd' hdv
 ·rcases gbx i d hd with ⟨rfl,rfl⟩ | ⟨hi,hdi⟩<;>rcases gbx j d' hd' with ⟨rfl,rfl⟩ | ⟨hj,hdj⟩
  ·rfl
  ·obtain⟨cells,ty,_,_,_,_,_,_,k7⟩:=hc hdv
   rw[hg]at he
   exact absurd he.symm (k7 j d' hj hdj hdv')
  ·obtain⟨cells,ty,_,_,_,_,_,_,k7⟩:=hc hdv'
   rw[hg]at he
   exact absurd he (k7 i d hi hdi hdv)
  ·exact h.bb i j d d' hdi hdj hdv hdv' he
 ·have hq:=h.og i d kk l p n hd hog
  intro d2 hd2
  by_cases hl:l=.bx b
  ·subst hl
   rw[St.get_put s (.bx b) _ c hb]at hd2
   cases hd2
   obtain⟨q1,q2⟩:=hq c hb
   exact⟨by omega,fun x y ad c2 hvv hy=>absurd hy (ho (by omega) x)⟩
  ·rw[St.zd2 s b _ l hl]at hd2
   obtain⟨q1,q2⟩:=hq d2 hd2
   refine⟨q1,fun x y ad c2 hvv hy hk=>q2 x y ad c2 hvv hy ?_⟩
   have:zdb w β a (s.put (.bx b) c') l=zdb w β a s l:=by
    cases l with
    | tm j=>rfl
    | bx j=>
     have hj:j≠b:=fun e=>hl (by rw[e])
     have hd2':s.bx[j]?=some d2:=hd2
     have hd3:(s.put (.bx b) c').bx[j]?=some d2:=by rw[←hd2'];exact St.zd2 s b _ (.bx j) (fun e=>hj (by injection e))
     simp only[zdb,hd2',hd3]
   rw[this]at hk
   exact hk
 ·rcases gbx j d hd with ⟨rfl,rfl⟩ | ⟨hj,hd'⟩
  ·rw[hg];exact h.gn j c hb
  ·exact h.gn j d hd'
theorem Sim.unBox (h:Sim e w E β τ a s) {b:Nat} {c:Cell} (hb:s.get (.bx b)=some c):Sim e w E β (upT τ (.bx b) []) a (s.put (.bx b) {c with val:=.un}):=
 h.setB (c':={c with val:=.un}) hb rfl (Nat.le_refl _) ⟨List.nodup_nil,fun k hk=>(by cases hk)⟩ (fun h=>absurd rfl h) (fun _ y h=>by cases h)
end
end Go.Proofs.YtgmidllbkjdnnaaGreatDoor.Flat
namespace Go.Proofs.YtgmidllbkjdnnaaGreatDoor.Flat
set_option linter.unusedVariables false
set_option linter.unusedSimpArgs false
set_option linter.unusedSectionVars false
variable [Glob]
theorem setCell_at {w:World} {b o:Nat} {cs:Array Value} {ty:TypeId} {fr:Nat × Nat} {v:Value} (h:w.heap[b]?=some (.cells cs ty fr)):(w.setCell ⟨b,o,none⟩ v).heap[b]?=some (.cells (cs.setIfInBounds o v) ty fr):=by
 unfold World.setCell
 simp[Array.getElem?_modify,h]
theorem zlR {w:World} {b o k:Nat} {v:Value} (h:k≠b):(w.setCell ⟨b,o,none⟩ v).heap[k]?=w.heap[k]?:=by
 unfold World.setCell
 simp[Array.getElem?_modify,Ne.symm h]
theorem zlc {w:World} {b o:Nat} {v:Value}:(w.setCell ⟨b,o,none⟩ v).heap.size=w.heap.size:=by
 unfold World.setCell
 simp
theorem zfj {b:Nat} {ty:TypeId} {fr:Nat × Nat}:∀(vs c1 mid c3:List Value) (w:World),w.heap[b]?=some (.cells (c1++mid++c3).toArray ty fr)→mid.length=vs.length→(w.setCells b c1.length vs).heap[b]?=some (.cells (c1++vs++c3).toArray ty fr)
 | [],c1,mid,c3,w,h,hl=>by
  have:mid=[]:=List.eq_nil_of_length_eq_zero hl
  subst this
  exact h
 | v::r,c1,mid,c3,w,h,hl=>by
  cases mid with
  | nil=>cases hl
  | cons m mr=>
   have h1:=setCell_at (o:=c1.length) (v:=v) h
   have e:(c1++(m::mr)++c3).toArray.setIfInBounds c1.length v=(c1++[v]++mr++c3).toArray:=by
    apply Array.ext'
    simp
   rw[e]at h1
   have ih:=zfj r (c1++[v]) mr c3 _ h1 (by simpa using hl)
   have e2:(c1++[v]).length=c1.length+1:=by simp
   rw[e2]at ih
   show((w.setCell ⟨b,c1.length,none⟩ v).setCells b (c1.length+1) r).heap[b]?=_
   rw[ih]
   simp
theorem zfk {b k:Nat} (hk:k≠b):∀(vs:List Value) (o:Nat) (w:World),(w.setCells b o vs).heap[k]?=w.heap[k]?
 | [],o,w=>rfl
 | v::r,o,w=>by
  show((w.setCell ⟨b,o,none⟩ v).setCells b (o+1) r).heap[k]?=_
  rw[zfk hk r (o+1) _,zlR hk]
theorem setCells_size {b:Nat}:∀(vs:List Value) (o:Nat) (w:World),(w.setCells b o vs).heap.size=w.heap.size
 | [],o,w=>rfl
 | v::r,o,w=>by
  show((w.setCell ⟨b,o,none⟩ v).setCells b (o+1) r).heap.size=_
  rw[setCells_size r (o+1) _,zlc]
theorem zfl {b:Nat}:∀(vs:List Value) (o:Nat) (w:World),(w.setCells b o vs).os=w.os∧(w.setCells b o vs).tape=w.tape∧(w.setCells b o vs).output=w.output
 | [],o,w=>⟨rfl,rfl,rfl⟩
 | v::r,o,w=>zfl r (o+1) (w.setCell ⟨b,o,none⟩ v)
section
variable {en:Env} {e:Ent} {w:World} {E:Nat→Nat} {β:Bm} {τ:Loc→List Nat} {a:Act} {s s':St} {o:Oper} {r q:List FL} {u:Unit}
theorem ziK {P : Program} {t : TypeId} {b off : Nat} {v : Value} {c1 c2 c3 : List Value} {ty : TypeId} {i : TypeInfo} (hi : P.info? t = some i) (hs : v.cells.size = i.size) (hk : w.heap[b]? = some (.cells (c1 ++ c2 ++ c3).toArray ty (0, 0))) (ho : c1.length = off)
  (hl:c2.length=v.cells.size) (h1:∀u∈v.cells.toList,u.oneCell'=true):(Instr.storeAt t (.pointer (some ⟨b,off,none⟩)) v).run P w=.ok () (w.setCells b off v.cells.toList):=by
 have hsz:(sizeOf t).run P w=.ok i.size w:=by unfold sizeOf typeInfo;simp[hi]
 have hst:=run_storeCells_cells (P:=P) b off v.cells.toList 0 w (fun j hj=>by
   unfold World.cell?
   rw[hk]
   dsimp only
   have:off+0+j < (c1++c2++c3).length:=by simp at hj⊢;omega
   simp at this⊢
   omega) (fun j hj=>by
   unfold World.frozen?
   rw[hk]
   simp) h1
 unfold Instr.storeAt Instr.sureAddr storeVar
 simp only[Sem.run_bind,Sem.run_pure,Result.andThen_ok,hsz,hs,ne_eq,not_true_eq_false,if_false]
 simpa using hst
theorem zoE {i:Nat} (h:i < a.tmps.size):a.put (some i) (a.tmps.getD i undef)=a:=by
 obtain⟨tmps,d⟩:=a
 dsimp only at h
 have:tmps.setIfInBounds i tmps[i]=tmps:=by
  unfold Array.setIfInBounds
  simp[h]
 simp[Act.put,h,this]
theorem Sim.out (h:Sim e w E β τ a s) {l:Loc} {d:Cell} (hd:s.get l=some d):Sim e w E β (upT τ l []) a (s.put l {d with val:=.un}):=by
 cases l with
 | tm j=>exact h.val hd (x':=.un) (B':=[]) (fun i _=>by rw[RepV]) (fun i hi=>by cases hi) (fun k hk=>by cases hk) List.nodup_nil rfl (fun y hy=>by cases hy)
 | bx j=>exact h.unBox hd
theorem Sim.poke (h : Sim e w E β τ a s) {l : Loc} {p : List Nat} {d : Cell} {x z : T} (hd : s.get l = some d) (hx : d.val = .t x) (hz : x.get p = some z) (hfar : x.far p = true) {y : T} {vs : List Value} {B : List Nat} (hy : Rep w E y vs B) (hB : Free e w β τ s B) (hs : y.size = z.size) :
  ∃k o new τ' ty c1 c2 c3,look w p x (zdb w β a s l) none=some (z,some ⟨k,o,none⟩,c2)∧x.rep p y=some new∧w.heap[k]?=some (.cells (c1++c2++c3).toArray ty (0,0))∧c1.length=o∧c2.length=vs.length∧
   Sim e (w.setCells k o vs) E β τ' a (s.put l {d with val:=.t new,og:=none,ver:=d.ver+1}):=by
 obtain⟨hr,hv,hbx⟩:=h.place hd hx
 obtain⟨k,o,c2,B1,B2,B3,cells,ty,l1,l3,hlk,hτ,hkB,hE,hrz,hhp,hcl,hl1,upd⟩:=Rep.write none hr (h.nod l) hz hfar
 have hvl:c2.length=vs.length:=by rw[Rep.len hrz,Rep.len hy,hs]
 have hhp':w.heap[k]?=some (.cells (l1++c2++l3).toArray ty (0,0)):=by
  rw[hhp]
  have:cells=(l1++c2++l3).toArray:=by apply Array.ext';simpa using hcl
  rw[this]
 have hrow:=zfj vs l1 c2 l3 w hhp' hvl
 rw[hl1]at hrow
 have hother:∀k',k'≠k→(w.setCells k o vs).heap[k']?=w.heap[k']?:=fun k' hk=>zfk hk vs o w
 have hsz:=setCells_size (b:=k) vs o w
 have hkτ:k∈τ l:=by rw[hτ];simp[hkB]
 have hkBn:k∉B:=fun hb=>(hB.2 k hb).2.2.1 l hkτ
 have hmv:∀Bs,k∉Bs→Mv w E (w.setCells k o vs) E Bs:=fun Bs hb=>zgE hother hhp hcl hrow (by omega) hb
 obtain⟨new,n1,n2,n3⟩:=upd (w.setCells k o vs) y vs B hother hrow hvl.symm hs (Rep.mv (hmv B hkBn) hy)
 have hun:=h.out hd
 have tsub:∀l' k',k'∈upT τ l [] l'→k'∈τ l'∧l'≠l:=by
  intro l' k' hk
  by_cases hl:l'=l
  ·rw[hl,zbG]at hk;cases hk
  ·rw[zaE τ [] hl]at hk;exact⟨hk,hl⟩
 have gb:∀(j:Nat) (c:Cell),(s.put l {d with val:=.un}).bx[j]?=some c→c.val≠ .un→s.bx[j]?=some c∧l≠ .bx j:=by
  intro j c hc hcv
  cases l with
  | tm i=>exact⟨hc,fun h=>by cases h⟩
  | bx i=>
   rcases zju (c':={d with val:=.un}) hd j c hc with ⟨_,rfl⟩ | ⟨h1,h2⟩
   ·exact absurd rfl hcv
   ·exact⟨h2,fun h=>h1 (by injection h with h;exact h.symm)⟩
 obtain⟨t1,t2⟩:=h.tok l k hkτ
 have hmoved:=hun.move (w':=w.setCells k o vs) (E':=E) (Ba:=[k]) (M:=[])
  ⟨by rw[hsz];exact Nat.le_refl _,fun k' _ hk' _=>⟨hother k' (fun e=>hk' (by rw[e];exact List.mem_singleton.2 rfl)),rfl⟩,fun k' hk' _=>by
   rw[List.mem_singleton.1 hk']
   refine⟨Nat.le_refl _,fun i hi=>((hmv [] (by simp)).pub k i hi).2,fun cells' ty' hc'=> ?_⟩
   rw[hhp']at hc'
   cases hc'
   exact⟨_,hrow,by simp;omega⟩,fun k' hk'=>(by cases hk'),zfl _ _ _⟩ (fun k' hk'=>h.z k' (by rw[hsz]at hk';exact hk'))
  (fun k' hk'=>by
   rw[List.mem_singleton.1 hk']
   refine⟨t1,t2,fun hM=> ?_,fun l' hl'=> ?_,fun j c hc hcv=> ?_⟩
   ·rcases t2 with t2 | t2
    ·have:=h.mlt _ hM;omega
    ·exact h.dis _ t2 hM
   ·exact(tsub l' k hl').2 (h.one l' l k (tsub l' k hl').1 hkτ)
   ·exact h.tb l k j c hkτ (gb j c hc hcv).1 hcv) (fun k' hk'=>by cases hk')
 have hnod:=h.nod l
 rw[hτ,List.append_assoc,List.nodup_append]at hnod
 obtain⟨d1,d2,d3⟩:=hnod
 rw[List.nodup_append]at d2
 have inb:∀k',k'∈B1∨k'∈B3→k'∈τ l:=fun k' hk=>by rw[hτ];simp;rcases hk with hk | hk<;>simp[hk]
 have hfree:Free e (w.setCells k o vs) β (upT τ l []) (s.put l {d with val:=.un}) (B1++B++B3):=by
  refine⟨?_,fun k' hk=> ?_⟩
  ·rw[List.append_assoc,List.nodup_append]
   refine⟨d1, ?_,fun x1 hx1 y1 hy1=> ?_⟩
   ·rw[List.nodup_append]
    exact⟨hB.1,d2.2.1,fun x1 hx1 y1 hy1 e1=>(hB.2 x1 hx1).2.2.1 l (e1 ▸ inb y1 (.inr hy1))⟩
   ·rcases List.mem_append.1 hy1 with hy1 | hy1
    ·exact fun e1=>(hB.2 y1 hy1).2.2.1 l (e1 ▸ inb x1 (.inl hx1))
    ·exact d3 x1 hx1 y1 (List.mem_append_right _ hy1)
  ·have hk2:k'∈B∨k'∈τ l:=by
    simp at hk
    rcases hk with hk | hk | hk
    ·exact .inr (inb k' (.inl hk))
    ·exact .inl hk
    ·exact .inr (inb k' (.inr hk))
   rcases hk2 with hk2 | hk2
   ·obtain⟨f1,f2,f3,f4⟩:=hB.2 k' hk2
    exact⟨by rw[hsz];exact f1,f2,fun l' hl=>f3 l' (tsub l' k' hl).1,fun j c hc hcv=>f4 j c (gb j c hc hcv).1 hcv⟩
   ·obtain⟨f1,f2⟩:=h.tok _ k' hk2
    exact⟨by rw[hsz];exact f1,f2,fun l' hl=>(tsub l' k' hl).2 (h.one l' l k' (tsub l' k' hl).1 hk2),fun j c hc hcv=>h.tb _ k' j c hk2 (gb j c hc hcv).1 hcv⟩
 have hput2:(s.put l {d with val:=.un}).put l {d with val:=.t new,og:=none,ver:=d.ver+1}=s.put l {d with val:=.t new,og:=none,ver:=d.ver+1}:=by cases l<;>simp[St.put]
 refine⟨k,o,new,upT (upT τ l []) l (B1++B++B3),ty,l1,c2,l3,hlk,n1,hhp',hl1,hvl, ?_⟩
 rw[←hput2]
 cases l with
 | tm j=>
  have hj:s.tm[j]?=some d:=hd
  have hlt:j < a.tmps.size:=by rw[h.len];exact(List.getElem?_eq_some_iff.1 hj).1
  have hg2:(s.put (.tm j) {d with val:=.un}).tm[j]?=some {d with val:=.un}:=St.get_put s (.tm j) _ d hd
  have:=hmoved.setT hg2 (x:=.t new) (v:=a.tmps.getD j undef) (B:=B1++B++B3) (by
   rw[RepV,hv j rfl]
   exact⟨_,n3,(znT n1 hfar _).symm⟩) (fun k' hk=>by
    obtain⟨f1,f2,f3,f4⟩:=hfree.2 k' hk
    exact⟨f1,f2,fun l' _=>f3 l',f4⟩) hfree.1 none (fun k' l' p' n' ht=>by rcases ht with ht | ⟨_,ht⟩<;>cases ht)
  rw[zoE hlt]at this
  exact this
 | bx j=>
  obtain⟨cells',ty',b1,b2⟩:=hbx j rfl
  have hu:d.val≠ .un:=by rw[hx];exact fun h=>by cases h
  obtain⟨cells2,ty2,m1,m2,m3,m4⟩:=h.bx j d hd hu
  rw[b1]at m1
  cases m1
  have hne:k≠β j d.gen:=h.tb _ k j d hkτ hd hu
  refine hmoved.setB (c:={d with val:=.un}) (c':={d with val:=.t new,og:=none,ver:=d.ver+1}) (St.get_put s (.bx j) _ d hd) rfl (by show d.ver≤d.ver+1;omega) hfree (fun _=>⟨cells',ty',by rw[hother _ hne.symm];exact b1, ?_,m3,m4,fun hb=> ?_,fun l' hl=> ?_,fun j' c hj' hc hcv he=> ?_⟩) (fun hver=>by have:d.ver+1=d.ver:=hver;omega)
  ·show Rep _ E new cells'.toList _
   rw[←b2]
   exact n3
  ·simp at hb
   rcases hb with hb | hb | hb
   ·exact h.tb _ _ j d (inb _ (.inl hb)) hd hu rfl
   ·exact(hB.2 _ hb).2.2.2 j d hd hu rfl
   ·exact h.tb _ _ j d (inb _ (.inr hb)) hd hu rfl
  ·exact h.tb l' _ j d (tsub l' _ hl).1 hd hu rfl
  ·obtain⟨g1,_⟩:=gb j' c hc hcv
   exact hj' (h.bb j' j c d g1 hd hcv hu he)
theorem zmS (h:Sim e w E β τ a s) {t:TypeId} {ad x:Operand} (ho:o.op=.store t ad x) (hf:fire en o s=some (u,s',r,q)):Done en o e w a s':=by
 unfold fire at hf
 rw[ho]at hf
 obtain⟨pl,s1,_,_,_,_,h1,h2⟩:=M.bind_some hf
 obtain⟨rfl,hp⟩:=zil h h1
 unfold zji at h2
 cases pl with
 | vr b p off cc=>
  obtain⟨hb0,hpt⟩:=hp
  dsimp only at h2
  obtain⟨y0,s2,_,_,_,_,h3,h4'⟩:=M.bind_some h2
  obtain⟨τ1,B0,k1,k20,k30,_⟩:=ziF h h3
  obtain⟨y,s2',_,_,_,_,h3',h4⟩:=M.bind_some h4'
  obtain⟨rfl,rfl⟩:=M.zO h3'
  obtain⟨B,k2,hsub⟩:=k20.mkA (en.mkx (b+2000000))
  have k3:=k30.less hsub
  generalize y0.mkA (en.mkx (b+2000000))=y at h4 k2
  obtain⟨c,s3,_,_,_,_,h5,h6⟩:=M.bind_some h4
  obtain⟨g5,rfl⟩:=M.za4 h5
  cases hcv:c.val with
  | t old=>
   cases y with
   | t y=>
    simp only[hcv]at h6
    cases hat:old.at p with
    | none=>simp only[hat]at h6;exact(M.zt h6).elim
    | some y0=>
     cases hoff:old.off p with
     | none=>simp only[hat,hoff]at h6;exact(M.zt h6).elim
     | some q0=>
      cases hput:old.put p y with
      | none=>simp only[hat,hoff,hput]at h6;exact(M.zt h6).elim
      | some new=>
       simp only[hat,hoff,hput]at h6
       obtain⟨_,s4,_,_,_,_,h7,h8⟩:=M.bind_some h6
       obtain⟨g7,rfl⟩:=M.zam h7
       obtain⟨_,s5,_,_,_,_,h9,h10⟩:=M.bind_some h8
       obtain⟨_,rfl⟩:=M.zeJ h9
       simp only[Bool.and_eq_true]at g7
       obtain⟨⟨g8,g9⟩,g10⟩:=g7
       have hq:q0=off:=by simpa using g8
       have hys:y.size=y0.size:=by simpa using g10
       obtain⟨ti,t1,t2⟩:=zfz g9
       have gb:s2.bx[b]?=some c:=g5
       obtain⟨cells,ty,m1,m2,m3,m4⟩:=k1.bx b c gb (by rw[hcv];exact fun h=>(by cases h))
       rw[hcv]at m2
       have m2':Rep w E old cells.toList (τ1 (.bx b)):=m2
       obtain⟨c1,c2,c3,B1,B2,B3,n1,n2,n3,n4,n5⟩:=Rep.ctx p old y0 _ _ m2' hat
       have hc1:c1.length=off:=by rw[n3]at hoff;cases hoff;exact hq
       have hgen:c.gen=cc.gen:=by rw[k1.gn b c gb,h.gn b cc hb0]
       rw[RepV]at k2
       have hvc:=k2.cells
       have hm1:w.heap[β b c.gen]?=some (.cells (c1++c2++c3).toArray ty (0,0)):=by rw[m1,←n1]
       have hl2:c2.length=(a.eval x).cells.size:=by
        have q1:=Rep.len n4
        have q2:=Rep.len hvc
        rw[Array.length_toList]at q2
        omega
       have hrun:=ziK (w:=w) (P:=en.P) (v:=a.eval x) t1 (by have q2:=Rep.len hvc;rw[Array.length_toList]at q2;omega) hm1 hc1 hl2 (Rep.one hvc)
       generalize hvs:(a.eval x).cells.toList=vs at hvc hrun
       have hvl:c2.length=vs.length:=by rw[←hvs,Array.length_toList];exact hl2
       have hkk:β b c.gen < w.heap.size:=(Array.getElem?_eq_some_iff.1 m1).1
       have hrow:=zfj vs c1 c2 c3 w hm1 hvl
       rw[hc1]at hrow
       have hfar:∀k,k≠β b c.gen→(w.setCells (β b c.gen) off vs).heap[k]?=w.heap[k]?:=fun k hk=>zfk hk vs off w
       have hsz:=setCells_size (b:=β b c.gen) vs off w
       have hmv:∀B',(∀k∈B',k≠β b c.gen)→Mv w E (w.setCells (β b c.gen) off vs) E B':=fun B' hB'=>
        ⟨fun k i hi=>⟨hi,zeP (hfar k (fun e=>by rw[e,m3]at hi;omega))⟩,fun k hk=>⟨rfl,hfar k (hB' k hk)⟩⟩
       have hne:∀l k,k∈τ1 l→k≠β b c.gen:=fun l k hk=>k1.tb l k b c hk gb (by rw[hcv];exact fun h=>(by cases h))
       have hun:=k1.unBox g5
       have gb3:∀(j:Nat) (d:Cell),(s2.put (.bx b) {c with val:=.un}).bx[j]?=some d→d.val≠ .un→j≠b∧s2.bx[j]?=some d:=by
        intro j d hd hv
        rcases zju (c':={c with val:=.un}) g5 j d hd with ⟨_,rfl⟩ | h
        ·exact absurd rfl hv
        ·exact h
       have tsub:∀l k,k∈upT τ1 (.bx b) [] l→k∈τ1 l∧l≠ .bx b:=by
        intro l k hk
        by_cases hl:l=.bx b
        ·rw[hl,zbG]at hk;cases hk
        ·rw[zaE τ1 [] hl]at hk;exact⟨hk,hl⟩
       have hmoved:=hun.move (w':=w.setCells (β b c.gen) off vs) (E':=E) (Ba:=[]) (M:=[β b c.gen])
        ⟨by rw[hsz];exact Nat.le_refl _,fun k hk _ hkM=>⟨hfar k (fun e=>hkM (by rw[e];exact List.mem_singleton.2 rfl)),rfl⟩,fun k hk=>(by cases hk),fun k hk hkw _ he=>by
         rw[List.mem_singleton.1 hk]at he⊢
         refine⟨he,fun cells' ty' hc'=> ?_⟩
         rw[hm1]at hc'
         cases hc'
         exact⟨_,hrow,by simp;omega⟩,zfl _ _ _⟩ (fun k hk=>k1.z k (by rw[hsz]at hk;exact hk)) (fun k hk=>by cases hk)
        (fun k hk=>by
         rw[List.mem_singleton.1 hk]
         refine⟨hkk,m4,fun hb=> ?_,m3,(by simp),fun l hl=>hne l _ (tsub l _ hl).1 rfl,fun j d hd hv he=> ?_⟩
         ·rcases m4 with m4 | m4
          ·have:=k1.blt _ hb;omega
          ·exact k1.dis _ hb m4
         ·obtain⟨q1,q2⟩:=gb3 j d hd hv
          exact q1 (k1.bb j b d c q2 gb hv (by rw[hcv];exact fun h=>(by cases h)) he.symm))
       have hBne:∀k∈B,k≠β b c.gen:=fun k hk=>(k3.2 k hk).2.2.2 b c gb (by rw[hcv];exact fun h=>(by cases h))
       obtain⟨x',p1,p2,_⟩:=n5 _ E y vs B (hmv _ (fun k hk=>hne (.bx b) k (by rw[n2];simp at hk⊢;rcases hk with hk | hk<;>simp[hk]))) (Rep.mv (hmv B hBne) hvc)
       rw[hput]at p1
       cases p1
       have hnod:=k1.nod (.bx b)
       rw[n2,List.append_assoc,List.nodup_append]at hnod
       obtain⟨d1,d2,d3⟩:=hnod
       rw[List.nodup_append]at d2
       have inb:∀k,k∈B1∨k∈B3→k∈τ1 (.bx b):=fun k hk=>by rw[n2];simp;rcases hk with hk | hk<;>simp[hk]
       have hfree:Free e (w.setCells (β b c.gen) off vs) β (upT τ1 (.bx b) []) (s2.put (.bx b) {c with val:=.un}) (B1++B++B3):=by
        refine⟨?_,fun k hk=> ?_⟩
        ·rw[List.append_assoc,List.nodup_append]
         refine⟨d1, ?_,fun x1 hx1 y1 hy1=> ?_⟩
         ·rw[List.nodup_append]
          exact⟨k3.1,d2.2.1,fun x1 hx1 y1 hy1 e1=>(k3.2 x1 hx1).2.2.1 (.bx b) (e1 ▸ inb y1 (.inr hy1))⟩
         ·rcases List.mem_append.1 hy1 with hy1 | hy1
          ·exact fun e1=>(k3.2 y1 hy1).2.2.1 (.bx b) (e1 ▸ inb x1 (.inl hx1))
          ·exact d3 x1 hx1 y1 (List.mem_append_right _ hy1)
        ·have hk2:k∈B∨k∈τ1 (.bx b):=by
          simp at hk
          rcases hk with hk | hk | hk
          ·exact .inr (inb k (.inl hk))
          ·exact .inl hk
          ·exact .inr (inb k (.inr hk))
         rcases hk2 with hk2 | hk2
         ·obtain⟨f1,f2,f3,f4⟩:=k3.2 k hk2
          exact⟨by rw[hsz];exact f1,f2,fun l hl=>f3 l (tsub l k hl).1,fun j d hd hv=>f4 j d (gb3 j d hd hv).2 hv⟩
         ·obtain⟨f1,f2⟩:=k1.tok _ k hk2
          exact⟨by rw[hsz];exact f1,f2,fun l hl=>(tsub l k hl).2 (k1.one l (.bx b) k (tsub l k hl).1 hk2),fun j d hd hv=>k1.tb _ k j d hk2 (gb3 j d hd hv).2 hv⟩
       have hback:=hmoved.setB (c:={c with val:=.un}) (c':={c with val:=.t new,ver:=c.ver+1}) (St.get_put s2 (.bx b) _ c g5) rfl (by show c.ver≤c.ver+1;omega) hfree
        (fun _=>⟨_,ty,hrow,p2,m3,m4,fun hb=>by
         simp at hb
         rcases hb with hb | hb | hb
         ·exact hne _ _ (inb _ (.inl hb)) rfl
         ·exact hBne _ hb rfl
         ·exact hne _ _ (inb _ (.inr hb)) rfl,fun l hl=>hne l _ (tsub l _ hl).1 rfl,fun j d hj hd hv he=>by
          obtain⟨q1,q2⟩:=gb3 j d hd hv
          exact q1 (k1.bb j b d c q2 gb hv (by rw[hcv];exact fun h=>(by cases h)) he)⟩) (fun hver=>by have:c.ver+1=c.ver:=hver;omega)
       have hput2:(s2.put (.bx b) {c with val:=.un}).put (.bx b) {c with val:=.t new,ver:=c.ver+1}=s2.put (.bx b) {c with val:=.t new,ver:=c.ver+1}:=by simp[St.put]
       rw[hput2]at hback
       obtain⟨τ',kk⟩:=Sim.wr hback h10 (v:=undef) (B:=[]) (by rw[RepV];exact⟨rfl,rfl⟩) zd1 zdP
       refine⟨.skip,undef,_,E,β,τ', ?_,.inr ⟨rfl,rfl⟩,kk⟩
       unfold execOp
       rw[ho]
       dsimp only
       rw[hpt,←hgen,Sem.run_bind,hrun]
       rfl
   | _=>simp only[hcv]at h6;exact(M.zt h6).elim
  | _=>simp only[hcv]at h6;exact(M.zt h6).elim
 | rf z=>exact(M.zt h2).elim
 | ff f caps=>exact(M.zt h2).elim
 | xp l p n=>
  dsimp only at h2
  obtain⟨y,s2,_,_,_,_,h3,h4⟩:=M.bind_some h2
  obtain⟨τ1,B,k1,k2,k3,_⟩:=zeW h h3
  obtain⟨pl,s3,_,_,_,_,h5,h6⟩:=M.bind_some h4
  obtain⟨rfl,hp2⟩:=zil k1 h5
  cases pl with
  | xp l p n=>
   have hp2:OgX w β a s2 true l p n (a.eval ad):=hp2
   dsimp only at h6
   obtain⟨c,s4,_,_,_,_,h7,h8⟩:=M.bind_some h6
   obtain⟨g7,rfl⟩:=M.za4 h7
   obtain⟨_,s5,_,_,_,_,h9,h10⟩:=M.bind_some h8
   obtain⟨g9,rfl⟩:=M.zam h9
   have hn:c.ver=n:=by simpa using g9
   cases hcv:c.val with
   | t old=>
    cases y with
    | t y=>
     simp only[hcv]at h10
     obtain⟨y0,s6,_,_,_,_,h11,h12⟩:=M.bind_some h10
     obtain⟨g11,rfl⟩:=M.zar h11
     obtain⟨new,s7,_,_,_,_,h13,h14⟩:=M.bind_some h12
     obtain⟨g13,rfl⟩:=M.zar h13
     obtain⟨_,s8,_,_,_,_,h15,h16⟩:=M.bind_some h14
     obtain⟨g15,rfl⟩:=M.zam h15
     obtain⟨_,s9,_,_,_,_,h17,h18⟩:=M.bind_some h16
     obtain⟨_,rfl⟩:=M.zeJ h17
     simp only[Bool.and_eq_true]at g15
     obtain⟨⟨q1,q2⟩,q3⟩:=g15
     have hys:y.size=y0.size:=by simpa using q3
     obtain⟨ti,t1,t2⟩:=zfz q2
     rw[RepV]at k2
     obtain⟨B',hvc,hsub⟩:=Rep.shX false k2.cells
     have hlen:(a.eval x).cells.toList.length=y0.size:=by rw[Rep.len hvc,T.zfZ,hys]
     obtain⟨k,o',new',τ2,ty,c1,c2,c3,m1,m2,m3,m4,m5,m6⟩:=k1.poke g7 hcv g11 q1 hvc (k3.less hsub) (by rw[T.zfZ,hys])
     rw[g13]at m2
     cases m2
     obtain⟨ad2,c2',B1,B2,B3,hpart⟩:=k1.part g7 hcv hn g11
     obtain⟨kk,oo,e1,e2⟩:=hpart.adrX hp2
     have hlk:=hpart.look
     rw[m1]at hlk
     cases hlk
     cases e1
     have hrun:=ziK (w:=w) (P:=en.P) (v:=a.eval x) t1 (by rw[Array.length_toList]at hlen;omega) m3 m4 (by rw[m5,Array.length_toList]) (Rep.one hvc)
     obtain⟨τ',kw⟩:=Sim.wr m6 h18 (v:=undef) (B:=[]) (by rw[RepV];exact⟨rfl,rfl⟩) zd1 zdP
     refine⟨.skip,undef,_,E,β,τ', ?_,.inr ⟨rfl,rfl⟩,kw⟩
     unfold execOp
     rw[ho]
     dsimp only
     rw[e2,Sem.run_bind,hrun]
     rfl
    | _=>simp only[hcv]at h10;exact(M.zt h10).elim
   | _=>simp only[hcv]at h10;exact(M.zt h10).elim
  | _=>exact(M.zt h6).elim
end
end Go.Proofs.YtgmidllbkjdnnaaGreatDoor.Flat
namespace Go.Proofs.YtgmidllbkjdnnaaGreatDoor.Flat
set_option linter.unusedVariables false
set_option linter.unusedSimpArgs false
set_option linter.unusedSectionVars false
variable [Glob]
theorem zkJ:∀{ys zs:List T},ys.map T.size=zs.map T.size→sizes ys=sizes zs
 | [],[],_=>rfl
 | [],_::_,h=>by cases h
 | _::_,[],h=>by cases h
 | y::ys,z::zs,h=>by
  rw[List.map_cons,List.map_cons]at h
  injection h with h1 h2
  rw[sizes,sizes,h1,zkJ h2]
theorem RepS.set {w:World} {E:Nat→Nat}:∀{fs:List T} {f:Nat} {y:T} {cs:List Value} {B:List Nat},RepS w E fs cs B→fs[f]?=some y→
  ∃c1 c2 c3 B1 B2 B3,cs=c1++c2++c3∧B=B1++B2++B3∧c1.length=sizes (fs.take f)∧c2.length=y.size∧∀y' c2' B2',Rep w E y' c2' B2'→RepS w E (fs.set f y') (c1++c2'++c3) (B1++B2'++B3)
 | [],f,y,cs,B,h,hf=>by cases hf
 | g::fs,0,y,cs,B,h,hf=>by
  rw[RepS]at h
  obtain⟨c1,c2,B1,B2,e1,e2,h1,h2⟩:=h
  cases hf
  refine⟨[],c1,c2,[],B1,B2,e1,e2,rfl,Rep.len h1,fun y' c2' B2' hy=> ?_⟩
  show RepS w E (y'::fs) _ _
  rw[RepS]
  exact⟨c2',c2,B2',B2,rfl,rfl,hy,h2⟩
 | g::fs,f+1,y,cs,B,h,hf=>by
  rw[RepS]at h
  obtain⟨c1,c2,B1,B2,e1,e2,h1,h2⟩:=h
  obtain⟨d1,d2,d3,C1,C2,C3,k1,k2,k3,k4,k5⟩:=RepS.set h2 (show fs[f]?=some y from hf)
  refine⟨c1++d1,d2,d3,B1++C1,C2,C3,by rw[e1,k1];simp,by rw[e2,k2];simp, ?_,k4,fun y' c2' B2' hy=> ?_⟩
  ·rw[List.length_append,Rep.len h1,k3,List.take_succ_cons,sizes]
  ·show RepS w E (g::fs.set f y') _ _
   rw[RepS]
   exact⟨c1,d1++c2'++d3,B1,C1++B2'++C3,by simp,by simp,h1,k5 y' c2' B2' hy⟩
theorem foldl_set:∀(vs c1 mid c3:List Value) (o k:Nat),mid.length=vs.length→c1.length=o+k→(vs.zipIdx k).foldl (fun(cs:Array Value) (p:Value × Nat)=>cs.setIfInBounds (o+p.2) p.1) (c1++mid++c3).toArray=(c1++vs++c3).toArray
 | [],c1,mid,c3,o,k,hl,ho=>by
  have:mid=[]:=List.eq_nil_of_length_eq_zero hl
  subst this
  rfl
 | v::r,c1,mid,c3,o,k,hl,ho=>by
  cases mid with
  | nil=>cases hl
  | cons m mr=>
   rw[List.zipIdx_cons,List.foldl_cons]
   have e:(c1++(m::mr)++c3).toArray.setIfInBounds (o+k) v=(c1++[v]++mr++c3).toArray:=by
    apply Array.ext'
    rw[←ho]
    simp
   dsimp only
   rw[e,foldl_set r (c1++[v]) mr c3 o (k+1) (by simpa using hl) (by simp;omega)]
   simp
theorem zkK {place : Nat → Option (Nat × Nat)} {i off : Nat} {v : Value} {c1 c2 c3 : List Value} (hp : place i = some (off, c2.length)) (hl : v.cells.toList.length = c2.length) (ho : c1.length = off) (rest : List (Nat × Value)) :
  Instr.fill place (c1++c2++c3).toArray ((i,v)::rest)=Instr.fill place (c1++v.cells.toList++c3).toArray rest:=by
 have hs:v.cells.size=c2.length:=by rw[←Array.length_toList];exact hl
 rw[Instr.fill,hp]
 dsimp only
 rw[if_neg (by simp[hs];omega)]
 congr 1
 rw[←Array.foldl_toList,Array.toList_zipIdx]
 exact foldl_set _ c1 c2 c3 off 0 hl.symm (by omega)
theorem zkL {P:Program}:∀{fs:List Field} {zs:List T} {o:Nat},zhE P fs zs o=true→∃places,fs.mapM (fun f=>(P.info? f.type).map fun i=>(f.offset,i.size))=some places∧∀(i:Nat) (z:T),zs[i]?=some z→places[i]?=some (o+sizes (zs.take i),z.size)
 | [],[],o,h=>⟨[],rfl,fun i z hz=>by cases hz⟩
 | [],_::_,o,h=>by cases h
 | _::_,[],o,h=>by cases h
 | f::fs,z::zs,o,h=>by
  rw[zhE,Bool.and_eq_true,Bool.and_eq_true]at h
  obtain⟨⟨h1,h2⟩,h3⟩:=h
  obtain⟨places,k1,k2⟩:=zkL h3
  have h1':f.offset=o:=by simpa using h1
  have h2':sizeT P f.type=some z.size:=by simpa using h2
  unfold sizeT at h2'
  cases hi:P.info? f.type with
  | none=>rw[hi]at h2';cases h2'
  | some ti=>
   rw[hi]at h2'
   have h4:ti.size=z.size:=by simpa using h2'
   refine⟨(o,z.size)::places,by simp[List.mapM_cons,hi,k1,h1',h4],fun i y hy=> ?_⟩
   cases i with
   | zero=>cases hy;rfl
   | succ i=>
    have:=k2 i y hy
    show places[i]?=_
    rw[this,List.take_succ_cons,sizes]
    congr 2
    omega
section
variable {en:Env} {e:Ent} {w:World} {E:Nat→Nat} {β:Bm} {τ:Loc→List Nat} {a:Act} {s s':St} {o:Oper} {r q:List FL} {u:Unit}
theorem Free.join {B1 B2 B3 C:List Nat} (h:Free e w β τ s (B1++B2++B3)) (h':Free e w β τ s C) (hd:∀k∈C,k∉B1++B2++B3):Free e w β τ s (B1++C++B3):=by
 obtain⟨n1,n2⟩:=h
 obtain⟨m1,m2⟩:=h'
 refine⟨?_,fun k hk=> ?_⟩
 ·rw[List.append_assoc,List.nodup_append]at n1⊢
  obtain⟨q1,q2,q3⟩:=n1
  rw[List.nodup_append]at q2⊢
  refine⟨q1,⟨m1,q2.2.1,fun x hx y hy e=>hd x hx (by rw[e];simp[hy])⟩,fun x hx y hy e=> ?_⟩
  rcases List.mem_append.1 hy with hy | hy
  ·exact hd y hy (by rw[←e];simp[hx])
  ·exact q3 x hx y (List.mem_append_right _ hy) e
 ·simp at hk
  rcases hk with hk | hk | hk
  ·exact n2 k (by simp[hk])
  ·exact m2 k hk
  ·exact n2 k (by simp[hk])
theorem ze1 {place:Nat→Option (Nat × Nat)} {zs:List T} (hpl:∀(i:Nat) (z:T),zs[i]?=some z→place i=some (sizes (zs.take i),z.size)) {ts:List TypeId}:∀{parts:List (Nat × Operand)} {ys:List T} {τ:Loc→List Nat} {s:St} {cs:List Value} {B:List Nat} {ys':List T} {s':St} {r q:List FL},
  Sim e w E β τ a s→Free e w β τ s B→RepS w E ys cs B→ys.map T.size=zs.map T.size→zeR en ts parts ys s=some (ys',s',r,q)→
  ∃τ' cs' B',Sim e w E β τ' a s'∧Free e w β τ' s' B'∧RepS w E ys' cs' B'∧ys'.map T.size=zs.map T.size∧Instr.fill place cs.toArray (parts.map fun p=>(p.1,a.eval p.2))=some cs'.toArray
 | [],ys,τ,s,cs,B,ys',s',r,q,h,hB,hr,hm,hb=>by
  rw[zeR]at hb
  obtain⟨rfl,rfl⟩:=M.zO (s:=s) hb
  exact⟨τ,cs,B,h,hB,hr,hm,rfl⟩
 | (i,x)::rest,ys,τ,s,cs,B,ys',s',r,q,h,hB,hr,hm,hb=>by
  rw[zeR]at hb
  obtain⟨t,s1,_,_,_,_,h1,h2⟩:=M.bind_some hb
  obtain⟨g1,rfl⟩:=M.zar h1
  obtain⟨old,s2,_,_,_,_,h3,h4⟩:=M.bind_some h2
  obtain⟨g3,rfl⟩:=M.zar h3
  obtain⟨y,s3,_,_,_,_,h5,h6⟩:=M.bind_some h4
  obtain⟨τ1,C,k1,k2,k3,k4,k5⟩:=zeW h h5
  cases y with
  | t y=>
   dsimp only at h6
   obtain⟨_,s4,_,_,_,_,h7,h8⟩:=M.bind_some h6
   obtain⟨g7,rfl⟩:=M.zam h7
   have hys:y.size=old.size:=by simpa using g7
   rw[RepV]at k2
   have hc:=k2.cells
   obtain⟨c1,c2,c3,B1,B2,B3,e1,e2,e3,e4,e5⟩:=RepS.set hr g3
   have hf1:=k5 B hB
   rw[e2]at hf1
   have hf:=Free.join hf1 k3 (fun k hk=>by
    rw[←e2]
    intro hkB
    obtain⟨l,hl⟩:=k4 k hk
    exact(hB.2 k hkB).2.2.1 l hl)
   have hm':(ys.set i y).map T.size=zs.map T.size:=by
    rw[List.map_set,hys,←hm]
    have:(ys.map T.size)[i]?=some old.size:=by simp[g3]
    obtain⟨hlt,hget⟩:=List.getElem?_eq_some_iff.1 this
    rw[←hget,List.set_getElem_self]
   obtain⟨τ',cs',B',m1,m2,m3,m5,m4⟩:=ze1 hpl k1 hf (e5 y _ _ hc) hm' h8
   refine⟨τ',cs',B',m1,m2,m3,m5, ?_⟩
   rw[List.map_cons]
   dsimp only
   rw[e1]
   have hlen:=Rep.len hc
   have hz:(zs.map T.size)[i]?=some old.size:=by rw[←hm];simp[g3]
   rw[List.getElem?_map]at hz
   cases hzi:zs[i]? with
   | none=>rw[hzi]at hz;cases hz
   | some z=>
    rw[hzi]at hz
    have hz':z.size=old.size:=by simpa using hz
    have hp:=hpl i z hzi
    have htake:sizes (zs.take i)=sizes (ys.take i):=zkJ (by rw[List.map_take,List.map_take,hm])
    rw[zkK (off:=sizes (ys.take i)) (by simp[hp,htake,hz',e4]) (by rw[hlen,hys,e4]) e3]
    exact m4
  | _=>exact(M.zt h6).elim
theorem zmT (h:Sim e w E β τ a s) {t:TypeId} {parts:Array (Nat × Operand)} (ho:o.op=.build t parts) (hf:fire en o s=some (u,s',r,q)):Done en o e w a s':=by
 unfold fire at hf
 rw[ho]at hf
 dsimp only at hf
 cases hu:en.P.underlying t with
 | none=>rw[hu]at hf;exact(M.zt hf).elim
 | some d=>
  cases hz:zeroT en.P t with
  | none=>rw[hu,hz]at hf;cases d<;>exact(M.zt hf).elim
  | some z=>
   rw[hu,hz]at hf
   cases d with
   | struct fs=>
    cases z with
    | st zs=>
     dsimp only at hf
     obtain⟨_,s1,_,_,_,_,h1,h2⟩:=M.bind_some hf
     obtain⟨g1,rfl⟩:=M.zam h1
     obtain⟨ys,s2,_,_,_,_,h3,h4⟩:=M.bind_some h2
     obtain⟨places,p1,p2⟩:=zkL g1
     obtain⟨it,zv,z1,z2,z3⟩:=zfc hz
     have hzc:=(z3 w E).cells
     rw[Rep]at hzc
     obtain⟨τ',cs',B',m1,m2,m3,_,m4⟩:=ze1 (place:=(places.toArray[·]?)) (fun i z hz=>by simpa using p2 i z hz) h ⟨List.nodup_nil,fun k hk=>(by cases hk)⟩ hzc rfl h3
     have hb:en.P.built t (parts.map fun p=>(p.1,a.eval p.2)).toList=some cs'.toArray:=by
      unfold Program.built
      simp only[z1,hu,z2,p1]
      simpa using m4
     obtain⟨B2,q1,q2⟩:=(show RepT w E (.st ys) (.agg cs'.toArray) B' from⟨cs',by rw[Rep];exact m3,rfl⟩).mkA (mkD en o.dst 0)
     obtain⟨τ2,k⟩:=Sim.wr m1 h4 (v:=.agg cs'.toArray) (B:=B2) (by rw[RepV];exact q1) (m2.less q2) zdP
     refine⟨_,_,w,E,β,τ2, ?_,.inl rfl,k⟩
     unfold execOp
     rw[ho]
     dsimp only
     rw[Sem.run_bind,run_build w t _ _ hb]
     rfl
    | _=>exact(M.zt hf).elim
   | array len el=>
    cases z with
    | st zs=>
     dsimp only at hf
     obtain⟨n,s0,_,_,_,_,h0,h01⟩:=M.bind_some hf
     obtain⟨g0,rfl⟩:=M.zar h0
     obtain⟨_,s1,_,_,_,_,h1,h2⟩:=M.bind_some h01
     obtain⟨g1,rfl⟩:=M.zam h1
     obtain⟨ys,s2,_,_,_,_,h3,h4⟩:=M.bind_some h2
     obtain⟨it,zv,z1,z2,z3⟩:=zfc hz
     have hzc:=(z3 w E).cells
     rw[Rep]at hzc
     have hall:∀z∈zs,z.size=n:=fun z hz=>by simpa using List.all_eq_true.1 g1 z hz
     have hst:∀(fs:List T) (i:Nat),(∀z∈fs,z.size=n)→i≤fs.length→sizes (fs.take i)=i * n:=by
      intro fs
      induction fs with
      | nil=>intro i _ hi;simp at hi;subst hi;simp[sizes]
      | cons f fs ih=>
       intro i hf hi
       cases i with
       | zero=>simp[sizes]
       | succ i=>
        rw[List.take_succ_cons,sizes,hf f (List.mem_cons_self ..),ih i (fun z hz=>hf z (List.mem_cons_of_mem _ hz)) (by simpa using hi),Nat.succ_mul]
        omega
     obtain⟨τ',cs',B',m1,m2,m3,_,m4⟩:=ze1 (place:=fun i=>some (i * n,n)) (fun i z hz=>by rw[hst zs i hall (Nat.le_of_lt (List.getElem?_eq_some_iff.1 hz).1),hall z (List.mem_of_getElem? hz)]) h ⟨List.nodup_nil,fun k hk=>(by cases hk)⟩ hzc rfl h3
     obtain⟨ie,hie,hin⟩:∃ie,en.P.info? el=some ie∧ie.size=n:=by
      unfold sizeT at g0
      cases hi:en.P.info? el with
      | none=>rw[hi]at g0;cases g0
      | some ie=>rw[hi]at g0;exact⟨ie,rfl,by simpa using g0⟩
     have hb:en.P.built t (parts.map fun p=>(p.1,a.eval p.2)).toList=some cs'.toArray:=by
      unfold Program.built
      simp only[z1,hu,z2,hie,hin]
      simpa using m4
     obtain⟨τ2,k⟩:=Sim.wr m1 h4 (v:=.agg cs'.toArray) (B:=B') (by rw[RepV];exact⟨cs',by rw[Rep];exact m3,rfl⟩) m2 zdP
     refine⟨_,_,w,E,β,τ2, ?_,.inl rfl,k⟩
     unfold execOp
     rw[ho]
     dsimp only
     rw[Sem.run_bind,run_build w t _ _ hb]
     rfl
    | _=>exact(M.zt hf).elim
   | _=>exact(M.zt hf).elim
end
end Go.Proofs.YtgmidllbkjdnnaaGreatDoor.Flat
namespace Go.Proofs.YtgmidllbkjdnnaaGreatDoor.Flat
set_option linter.unusedVariables false
set_option linter.unusedSimpArgs false
set_option linter.unusedSectionVars false
variable [Glob]
def RepL (w:World) (E:Nat→Nat) (sz:Nat):List T→List Value→Prop
 | [],cs=>cs=[]
 | x::xs,cs=>∃c1 c2,cs=c1++c2∧c1.length=sz∧Rep w E x c1 []∧RepL w E sz xs c2
theorem RepL.len {w:World} {E:Nat→Nat} {sz:Nat}:∀{xs:List T} {cs:List Value},RepL w E sz xs cs→cs.length=xs.length * sz
 | [],cs,h=>by rw[RepL]at h;rw[h];simp
 | x::xs,cs,h=>by
  rw[RepL]at h
  obtain⟨c1,c2,rfl,h1,h2,h3⟩:=h
  rw[List.length_append,h1,RepL.len h3,List.length_cons,Nat.succ_mul]
  omega
theorem RepL.mv {w:World} {E:Nat→Nat} {w':World} {E':Nat→Nat} {sz:Nat} (hm:Mv w E w' E' []):∀{xs:List T} {cs:List Value},RepL w E sz xs cs→RepL w' E' sz xs cs
 | [],cs,h=>by rw[RepL]at h⊢;exact h
 | x::xs,cs,h=>by
  rw[RepL]at h⊢
  obtain⟨c1,c2,e,h1,h2,h3⟩:=h
  exact⟨c1,c2,e,h1,Rep.mv hm h2,RepL.mv hm h3⟩
theorem RepL.one {w:World} {E:Nat→Nat} {sz:Nat}:∀{xs:List T} {cs:List Value},RepL w E sz xs cs→∀u∈cs,u.oneCell'=true
 | [],cs,h=>by rw[RepL]at h;rw[h];intro u hu;cases hu
 | x::xs,cs,h=>by
  rw[RepL]at h
  obtain⟨c1,c2,rfl,h1,h2,h3⟩:=h
  intro u hu
  rcases List.mem_append.1 hu with hu | hu
  ·exact Rep.one h2 u hu
  ·exact RepL.one h3 u hu
theorem RepL.append {w:World} {E:Nat→Nat} {sz:Nat}:∀{xs ys:List T} {c1 c2:List Value},RepL w E sz xs c1→RepL w E sz ys c2→RepL w E sz (xs++ys) (c1++c2)
 | [],ys,c1,c2,h,h'=>by rw[RepL]at h;rw[h];exact h'
 | x::xs,ys,c1,c2,h,h'=>by
  rw[RepL]at h
  obtain⟨d1,d2,rfl,h1,h2,h3⟩:=h
  rw[List.cons_append,RepL]
  exact⟨d1,d2++c2,by simp,h1,h2,RepL.append h3 h'⟩
theorem RepA.ofL {w:World} {E:Nat→Nat} {sz:Nat} {ad:Addr}:∀{xs:List T} {cs:List Value} {o:Nat},RepL w E sz xs cs→(∀j u,cs[j]?=some u→w.cell? (ad.add (o+j))=some u)→ad.off+o+xs.length * sz≤E ad.block→RepA w E sz ad o xs
 | [],cs,o,h,hc,he=>by rw[RepA];trivial
 | x::xs,cs,o,h,hc,he=>by
  rw[RepL]at h
  obtain⟨c1,c2,rfl,h1,h2,h3⟩:=h
  rw[List.length_cons,Nat.succ_mul]at he
  rw[RepA]
  refine⟨⟨by omega,c1,h1,fun j u hj=> ?_,h2⟩,RepA.ofL h3 (fun j u hj=> ?_) (by omega)⟩
  ·have hlt:=(List.getElem?_eq_some_iff.1 hj).1
   exact hc j u (by rw[List.getElem?_append_left hlt];exact hj)
  ·have:=hc (sz+j) u (by rw[List.getElem?_append_right (by omega),h1];simpa using hj)
   rw[Nat.add_assoc]
   exact this
theorem RepA.toL {w:World} {E:Nat→Nat} {sz:Nat} {ad:Addr}:∀{xs:List T} {o:Nat},RepA w E sz ad o xs→∃cs,RepL w E sz xs cs∧∀j u,cs[j]?=some u→w.cell? (ad.add (o+j))=some u
 | [],o,h=>⟨[],by rw[RepL],fun j u hj=>by cases hj⟩
 | x::xs,o,h=>by
  rw[RepA]at h
  obtain⟨⟨he,c1,h1,h2,h3⟩,h4⟩:=h
  obtain⟨c2,k1,k2⟩:=RepA.toL h4
  refine⟨c1++c2,by rw[RepL];exact⟨c1,c2,rfl,h1,h3,k1⟩,fun j u hj=> ?_⟩
  by_cases hlt:j < c1.length
  ·rw[List.getElem?_append_left hlt]at hj
   exact h2 j u hj
  ·rw[List.getElem?_append_right (by omega),h1]at hj
   have:=k2 (j-sz) u hj
   rw[show o+j=o+sz+(j-sz) by omega]
   exact this
theorem zkM {w:World} {cells:List Value} {ty:TypeId} {j:Nat} {u:Value} (h:cells[j]?=some u):({w with heap:=w.heap.push (.cells cells.toArray ty (0,0))}:World).cell? ((⟨w.heap.size,0,none⟩:Addr).add j)=some u:=by
 have:(⟨w.heap.size,0,none⟩:Addr).add j=⟨w.heap.size,j,none⟩:=by
  unfold Addr.add
  split
  ·rename_i hj;rw[hj]
  ·simp
 rw[this]
 unfold World.cell?
 dsimp only
 rw[zhL]
 simpa using h
section
variable {en:Env} {e:Ent} {w:World} {E:Nat→Nat} {β:Bm} {τ:Loc→List Nat} {a:Act} {s s':St} {o:Oper} {r q:List FL} {u:Unit}
def upE (E:Nat→Nat) (k n:Nat):Nat→Nat:=fun j=>if j=k then n else E j
theorem Sim.newRow (h : Sim e w E β τ a s) {sz : Nat} {xs : List T} {cs zs : List Value} (hr : RepL w E sz xs cs) (hz : 0 < sz) {c : Nat} (hc : (cs ++ zs).length = c * sz) (hcb : c ≤ 9223372036854775807) (ty : TypeId) :
  Sim e {w with heap:=w.heap.push (.cells (cs++zs).toArray ty (0,0))} (upE E w.heap.size (xs.length * sz)) β τ a s∧
  RepT {w with heap:=w.heap.push (.cells (cs++zs).toArray ty (0,0))} (upE E w.heap.size (xs.length * sz)) (.sl true sz xs) (.slice (some ⟨w.heap.size,0,none⟩) xs.length c) [w.heap.size]∧
  Free e {w with heap:=w.heap.push (.cells (cs++zs).toArray ty (0,0))} β τ s [w.heap.size]:=by
 have hE:∀k,k < w.heap.size→upE E w.heap.size (xs.length * sz) k=E k:=fun k hk=>if_neg (by omega)
 have hfr:Fr w E {w with heap:=w.heap.push (.cells (cs++zs).toArray ty (0,0))} (upE E w.heap.size (xs.length * sz)) [] []:=
  ⟨by rw[zeX];omega,fun k hk _ _=>⟨zft hk,hE k hk⟩,fun k hk=>(by cases hk),fun k hk=>(by cases hk),rfl,rfl,rfl⟩
 have hm:Mv w E {w with heap:=w.heap.push (.cells (cs++zs).toArray ty (0,0))} (upE E w.heap.size (xs.length * sz)) []:=
  hfr.mv h.z (fun k hk=>by cases hk) (fun k hk=>by cases hk)
 have hl:=hr.len
 refine⟨h.move hfr (fun k hk=> ?_) (fun k hk=>by cases hk) (fun k hk=>by cases hk), ?_, ?_⟩
 ·rw[zeX]at hk
  show(if k=w.heap.size then _ else E k)=0
  rw[if_neg (by omega)]
  exact h.z k (by omega)
 ·refine⟨[.slice (some ⟨w.heap.size,0,none⟩) xs.length c], ?_,rfl⟩
  rw[Rep]
  have hself:upE E w.heap.size (xs.length * sz) w.heap.size=xs.length * sz:=if_pos rfl
  refine⟨some ⟨w.heap.size,0,none⟩,c,rfl, ?_,hz, ?_,true,⟨fun _=>rfl,fun _ h=>(by cases h)⟩,rfl,fun _=>⟨rfl, ?_,(cs++zs).toArray,ty,zhL, ?_,hcb⟩⟩
  ·have:xs.length * sz≤c * sz:=by rw[←hc,List.length_append];omega
   exact Nat.le_of_mul_le_mul_right this hz
  ·refine RepA.ofL (hr.mv hm) (fun j u hj=> ?_) ?_
   ·rw[Nat.zero_add]
    refine zkM ?_
    rw[List.getElem?_append_left (List.getElem?_eq_some_iff.1 hj).1]
    exact hj
   ·dsimp only
    rw[hself]
    omega
  ·dsimp only
   rw[hself]
   omega
  ·simp at hc⊢
   omega
 ·refine⟨by simp,fun k hk=> ?_⟩
  rw[List.mem_singleton.1 hk]
  refine⟨by rw[zeX];omega,.inl h.fr.size,fun l hl=> ?_,fun j c hj hv he=> ?_⟩
  ·have:=(h.tok l _ hl).1;omega
  ·obtain⟨cells,ty',k1,_⟩:=h.bx j c hj hv
   have:=(Array.getElem?_eq_some_iff.1 k1).1
   omega
theorem RepX.ofS {sz k:Nat}:∀{xs:List T} {cs:List Value} {B:List Nat} {o:Nat},RepS w E xs cs B→(∀y∈xs,y.size=sz)→(∀j u,cs[j]?=some u→w.cell? ⟨k,o+j,none⟩=some u)→RepX w E sz k o xs B
 | [],cs,B,o,h,hs,hc=>by rw[RepS]at h;rw[RepX];exact h.2
 | x::xs,cs,B,o,h,hs,hc=>by
  rw[RepS]at h
  obtain⟨c1,c2,B1,B2,rfl,e2,h1,h2⟩:=h
  have hl:c1.length=sz:=(Rep.len h1).trans (hs x (List.mem_cons_self ..))
  rw[RepX]
  refine⟨c1,B1,B2,e2,hl,fun j u hj=>hc j u ?_,h1,RepX.ofS h2 (fun y hy=>hs y (List.mem_cons_of_mem _ hy)) (fun j u hj=> ?_)⟩
  ·rw[List.getElem?_append_left (List.getElem?_eq_some_iff.1 hj).1]
   exact hj
  ·have:=hc (sz+j) u (by rw[List.getElem?_append_right (by omega),hl];simpa using hj)
   rw[Nat.add_assoc]
   exact this
theorem RepX.toS {sz k:Nat}:∀{xs:List T} {B:List Nat} {o:Nat},RepX w E sz k o xs B→∃cs,RepS w E xs cs B∧(∀y∈xs,y.size=sz)∧cs.length=xs.length * sz∧∀j u,cs[j]?=some u→w.cell? ⟨k,o+j,none⟩=some u
 | [],B,o,h=>by rw[RepX]at h;exact⟨[],by rw[RepS];exact⟨rfl,h⟩,fun y hy=>(by cases hy),by simp,fun j u hj=>by cases hj⟩
 | x::xs,B,o,h=>by
  rw[RepX]at h
  obtain⟨c1,B1,B2,e2,hl,hc,h1,h2⟩:=h
  obtain⟨c2,k1,k2,k3,k4⟩:=RepX.toS h2
  refine⟨c1++c2,by rw[RepS];exact⟨c1,c2,B1,B2,rfl,e2,h1,k1⟩,fun y hy=> ?_,by rw[List.length_append,hl,k3,List.length_cons,Nat.succ_mul];omega,fun j u hj=> ?_⟩
  ·rcases List.mem_cons.1 hy with rfl | hy
   ·exact(Rep.len h1).symm.trans hl
   ·exact k2 y hy
  ·by_cases hlt:j < c1.length
   ·rw[List.getElem?_append_left hlt]at hj
    exact hc j u hj
   ·rw[List.getElem?_append_right (by omega),hl]at hj
    have:=k4 (j-sz) u hj
    rw[show o+j=o+sz+(j-sz) by omega]
    exact this
theorem RepS.cat:∀{xs ys:List T} {c1 c2:List Value} {B1 B2:List Nat},RepS w E xs c1 B1→RepS w E ys c2 B2→RepS w E (xs++ys) (c1++c2) (B1++B2)
 | [],ys,c1,c2,B1,B2,h,h'=>by rw[RepS]at h;obtain⟨rfl,rfl⟩:=h;exact h'
 | x::xs,ys,c1,c2,B1,B2,h,h'=>by
  rw[RepS]at h
  obtain⟨d1,d2,C1,C2,rfl,rfl,h1,h2⟩:=h
  rw[List.cons_append,RepS]
  exact⟨d1,d2++c2,C1,C2++B2,by simp,by simp,h1,RepS.cat h2 h'⟩
theorem RepL.toS {sz:Nat}:∀{xs:List T} {cs:List Value},RepL w E sz xs cs→RepS w E xs cs []∧∀y∈xs,y.size=sz
 | [],cs,h=>by rw[RepL]at h;rw[RepS];exact⟨⟨h,rfl⟩,fun y hy=>(by cases hy)⟩
 | x::xs,cs,h=>by
  rw[RepL]at h
  obtain⟨c1,c2,e,h1,h2,h3⟩:=h
  obtain⟨k1,k2⟩:=RepL.toS h3
  refine⟨by rw[RepS];exact⟨c1,c2,[],[],e,rfl,h2,k1⟩,fun y hy=> ?_⟩
  rcases List.mem_cons.1 hy with rfl | hy
  ·exact(Rep.len h2).symm.trans h1
  ·exact k2 y hy
theorem Sim.zld (h : Sim e w E β τ a s) {sz : Nat} {xs : List T} {cs zs : List Value} {B : List Nat} (hr : RepS w E xs cs B) (hm : ∀ y ∈ xs, y.size = sz) (hB : Free e w β τ s B) (hz : 0 < sz) {c : Nat} (hl : cs.length = xs.length * sz) (hc : (cs ++ zs).length = c * sz) (hcb : c ≤ 9223372036854775807) (ty : TypeId) :
  Sim e {w with heap:=w.heap.push (.cells (cs++zs).toArray ty (0,0))} E β τ a s∧
  RepT {w with heap:=w.heap.push (.cells (cs++zs).toArray ty (0,0))} E (.xl sz xs) (.slice (some ⟨w.heap.size,0,none⟩) xs.length c) (w.heap.size::B)∧
  Free e {w with heap:=w.heap.push (.cells (cs++zs).toArray ty (0,0))} β τ s (w.heap.size::B):=by
 have hmv:Mv w E {w with heap:=w.heap.push (.cells (cs++zs).toArray ty (0,0))} E B:=by
  refine⟨fun k i hi=>⟨hi,zeP (zft ?_)⟩,fun k hk=>⟨rfl,zft (hB.2 k hk).1⟩⟩
  apply Nat.lt_of_not_le
  intro hle
  have:=h.z k hle
  omega
 refine⟨h.push _,⟨[.slice (some ⟨w.heap.size,0,none⟩) xs.length c], ?_,rfl⟩, ?_,fun k hk=> ?_⟩
 ·rw[Rep]
  refine⟨_,c,rfl, ?_,hz,.inr ⟨⟨w.heap.size,0,none⟩,B,rfl,rfl,rfl,h.z _ (Nat.le_refl _),⟨(cs++zs).toArray,ty,zhL,by simp at hc⊢;omega,hcb⟩,RepX.ofS (RepS.mv hmv hr) hm (fun j u hj=> ?_)⟩⟩
  ·have:xs.length * sz≤c * sz:=by rw[←hc,List.length_append,hl];omega
   exact Nat.le_of_mul_le_mul_right this hz
  ·have:=zkM (w:=w) (cells:=cs++zs) (ty:=ty) (j:=j) (u:=u) (by rw[List.getElem?_append_left (List.getElem?_eq_some_iff.1 hj).1];exact hj)
   rw[add_none']at this
   exact this
 ·rw[List.nodup_cons]
  exact⟨fun hb=>by have:=(hB.2 _ hb).1;omega,hB.1⟩
 ·rcases List.mem_cons.1 hk with rfl | hk
  ·refine⟨by rw[zeX];omega,.inl h.fr.size,fun l hl'=> ?_,fun j c hj hv he=> ?_⟩
   ·have:=(h.tok l _ hl').1;omega
   ·obtain⟨cells,ty',k1,_⟩:=h.bx j c hj hv
    have:=(Array.getElem?_eq_some_iff.1 k1).1
    omega
  ·obtain⟨k1,k2⟩:=hB.2 k hk
   exact⟨by rw[zeX];omega,k2⟩
end
end Go.Proofs.YtgmidllbkjdnnaaGreatDoor.Flat
namespace Go.Proofs.YtgmidllbkjdnnaaGreatDoor.Flat
set_option linter.unusedVariables false
set_option linter.unusedSimpArgs false
set_option linter.unusedSectionVars false
variable [Glob]
theorem zhq {zc:Array Value} {n:Nat} (hn:zc.size=n) (h0:0 < n):∀len,(List.range (len * n)).map (fun j=>zc[j % n]!)=(List.replicate len zc.toList).flatten
 | 0=>by simp
 | len+1=>by
  rw[Nat.succ_mul,Nat.add_comm (len * n) n,List.range_add,List.map_append,List.map_map,List.replicate_succ,List.flatten_cons]
  congr 1
  ·apply List.ext_getElem
   ·simp[hn]
   ·intro i h1 h2
    have h3:i < n:=by simpa using h1
    rw[List.getElem_map,List.getElem_range,Nat.mod_eq_of_lt h3]
    rw[getElem!_pos zc i (by omega)]
    simp
  ·rw[←zhq hn h0 len]
   apply List.map_congr_left
   intro j _
   simp
theorem RepS.reps {w:World} {E:Nat→Nat} {z:T} {cs:List Value} (h:Rep w E z cs []):∀len,RepS w E (List.replicate len z) (List.replicate len cs).flatten []
 | 0=>by rw[List.replicate_zero,RepS];exact⟨rfl,rfl⟩
 | len+1=>by
  rw[List.replicate_succ,RepS]
  exact⟨cs,_,[],[],by rw[List.replicate_succ,List.flatten_cons],rfl,h,RepS.reps h len⟩
theorem RepS.toL {w:World} {E:Nat→Nat} {n:Nat}:∀{ys:List T} {cs:List Value},RepS w E ys cs []→(∀y∈ys,y.size=n)→RepL w E n ys cs
 | [],cs,h,hy=>by rw[RepS]at h;rw[RepL];exact h.1
 | y::ys,cs,h,hy=>by
  rw[RepS]at h
  obtain⟨c1,c2,B1,B2,e1,e2,h1,h2⟩:=h
  obtain⟨rfl,rfl⟩:=List.append_eq_nil_iff.1 e2.symm
  rw[RepL]
  exact⟨c1,c2,e1,(Rep.len h1).trans (hy y (List.mem_cons_self ..)),h1,RepS.toL h2 (fun z hz=>hy z (List.mem_cons_of_mem _ hz))⟩
theorem zfq {n:Nat}:∀{ys:List T},(∀y∈ys,y.size=n)→sizes ys=ys.length * n
 | [],_=>by simp[sizes]
 | y::ys,h=>by
  rw[sizes,h y (List.mem_cons_self ..),zfq (fun z hz=>h z (List.mem_cons_of_mem _ hz)),List.length_cons,Nat.succ_mul]
  omega
section
variable {en:Env} {e:Ent} {w:World} {E:Nat→Nat} {β:Bm} {τ:Loc→List Nat} {a:Act} {s s':St} {o:Oper} {r q:List FL} {u:Unit}
theorem zf2 (h:Sim e w E β τ a s) {t:TypeId} {n:Nat}:∀{parts:List (Nat × Operand)} {ys:List T} {cs:List Value} {ys':List T} {s':St} {r q:List FL},
  RepS w E ys cs []→(∀y∈ys,y.size=n)→zfb en t parts ys s=some (ys',s',r,q)→
  s=s'∧ys'.length=ys.length∧(∀y∈ys',y.size=n)∧∃cs',RepS w E ys' cs' []∧Instr.fill (fun i=>some (i * n,n)) cs.toArray (parts.map fun p=>(p.1,a.eval p.2))=some cs'.toArray
 | [],ys,cs,ys',s',r,q,hr,hm,hb=>by
  rw[zfb]at hb
  obtain⟨rfl,rfl⟩:=M.zO (s:=s) hb
  exact⟨rfl,rfl,hm,cs,hr,rfl⟩
 | (i,x)::rest,ys,cs,ys',s',r,q,hr,hm,hb=>by
  rw[zfb]at hb
  obtain⟨old,s2,_,_,_,_,h3,h4⟩:=M.bind_some hb
  obtain⟨g3,rfl⟩:=M.zar h3
  obtain⟨y,s3,_,_,_,_,h5,h6⟩:=M.bind_some h4
  obtain⟨rfl,k2⟩:=zd8 h h5
  cases y with
  | t y=>
   dsimp only at h6
   obtain⟨_,s4,_,_,_,_,h7,h8⟩:=M.bind_some h6
   obtain⟨g7,rfl⟩:=M.zam h7
   have hold:=hm old (List.mem_of_getElem? g3)
   have hys:y.sh.size=n:=by rw[T.ze8,←hold];simpa using g7
   rw[RepV]at k2
   have hc:=k2.cells.sh
   obtain⟨c1,c2,c3,B1,B2,B3,e1,e2,e3,e4,e5⟩:=RepS.set hr g3
   obtain⟨e6,rfl⟩:=List.append_eq_nil_iff.1 e2.symm
   obtain⟨rfl,rfl⟩:=List.append_eq_nil_iff.1 e6
   have hm':∀z∈ys.set i y.sh,z.size=n:=fun z hz=>by
    rcases List.mem_or_eq_of_mem_set hz with hz | rfl
    ·exact hm z hz
    ·exact hys
   obtain⟨m0,m1,m2,cs',m3,m4⟩:=zf2 h (e5 y.sh _ _ hc) hm' h8
   refine⟨m0,by rw[m1,List.length_set],m2,cs',m3, ?_⟩
   rw[List.map_cons]
   dsimp only
   rw[e1]
   have hlen:=Rep.len hc
   have hlt:=(List.getElem?_eq_some_iff.1 g3).1
   have htake:sizes (ys.take i)=i * n:=by
    rw[zfq (n:=n) (fun z hz=>hm z (List.mem_of_mem_take hz)),List.length_take,Nat.min_eq_left (by omega)]
   rw[zkK (off:=i * n) (by rw[e4,hold]) (by rw[hlen,hys,e4,hold]) (by rw[e3,htake])]
   exact m4
  | _=>exact(M.zt h6).elim
theorem zlS {b:Bool}:∀{ys:List T},(shXs b ys).length=ys.length
 | []=>by rw[shXs]
 | y::ys=>by rw[shXs,List.length_cons,List.length_cons,zlS]
theorem zkN {b:Bool} {n:Nat}:∀{ys:List T},(∀y∈ys,y.size=n)→∀y∈shXs b ys,y.size=n
 | [],h,y,hy=>by rw[shXs]at hy;cases hy
 | x::xs,h,y,hy=>by
  rw[shXs]at hy
  rcases List.mem_cons.1 hy with rfl | hy
  ·rw[T.zfZ];exact h x (List.mem_cons_self ..)
  ·exact zkN (fun z hz=>h z (List.mem_cons_of_mem _ hz)) y hy
theorem ziV {P : Program} (w : World) (t e : TypeId) (parts : Array (Nat × Value)) (cells : Array Value) (ie : TypeInfo) (hu : P.underlying t = some (.slice e)) (hie : P.info? e = some ie) (h : Instr.fill (fun i => some (i * ie.size, ie.size)) #[] parts.toList = some cells) :
  (Instr.buildSlice t 0 parts).run P w=.ok (.slice (some ⟨w.heap.size,0,none⟩) 0 0) (w.alloc (.cells cells e)):=by
 have e0:Array.range 0= #[]:=rfl
 simp[Instr.buildSlice,run_underlying hu,sizeOf,typeInfo,hie,e0,h,newRow]
theorem ziW (h:Sim e w E β τ a s) {t:TypeId} {len:Nat} {parts:Array (Nat × Operand)} (ho:o.op=.buildSlice t len parts) (hf:fire en o s=some (u,s',r,q)):Done en o e w a s':=by
 unfold fire at hf
 rw[ho]at hf
 dsimp only at hf
 obtain⟨⟨el,n⟩,s1,_,_,_,_,h1,h2⟩:=M.bind_some hf
 obtain⟨g1,rfl⟩:=M.zar h1
 obtain⟨z,s2,_,_,_,_,h3,h4⟩:=M.bind_some h2
 obtain⟨g3,rfl⟩:=M.zar h3
 obtain⟨_,s3,_,_,_,_,h5,h6⟩:=M.bind_some h4
 obtain⟨g5,rfl⟩:=M.zam h5
 obtain⟨ti,k1,k2,k3⟩:=zeh g1
 obtain⟨it,zv,z1,z2,z3⟩:=zfc g3
 simp only[Bool.and_eq_true,decide_eq_true_eq]at g5
 obtain⟨⟨g51,g53⟩,g54⟩:=g5
 have hzs:z.size=n:=by simpa using g54
 have hzc:=Rep.sh (z3 w E).cells
 have hzl:zv.cells.size=n:=by have:=Rep.len hzc;rw[T.ze8,hzs]at this;simpa using this
 have hit:it=ti:=Option.some.inj (z1.symm.trans k2)
 subst hit
 have hsl:∀y∈List.replicate len z.sh,y.size=n:=fun y hy=>by rw[(List.mem_replicate.1 hy).2,T.ze8,hzs]
 have hlen1:len≤9223372036854775807:=by have:len * 1≤len * n:=Nat.mul_le_mul_left _ g51;omega
 have run:∀{cs':List Value} {w':World} {E':Nat→Nat} {τ':Loc→List Nat},Instr.fill (fun i=>some (i * n,n)) (List.replicate len zv.cells.toList).flatten.toArray (parts.toList.map fun p=>(p.1,a.eval p.2))=some cs'.toArray→
   w'=w.alloc (.cells cs'.toArray el)→Sim e w' E' β τ' (a.put o.dst (.slice (some ⟨w.heap.size,0,none⟩) len len)) s'→Done en o e w a s':=by
  intro cs' w' E' τ' m4 hw' k
  refine⟨_,_,_,_,β,τ', ?_,.inl rfl,k⟩
  have hrun0:∀g52:0 < len,(Instr.buildSlice t len (parts.map fun p=>(p.1,a.eval p.2))).run en.P w=.ok (.slice (some ⟨w.heap.size,0,none⟩) len len) (w.alloc (.cells cs'.toArray el)):=fun g52=>by
   have q:=run_buildSlice (P:=en.P) w t el len (parts.map fun p=>(p.1,a.eval p.2)) cs'.toArray it zv k1 z1 z2 (by rw[k3];omega) (by rw[k3];have:=Nat.mul_pos g52 g51;omega) (by
    rw[k3,hzl]
    have:(Array.range (len * n)).map (fun j=>zv.cells[j % n]!)=(List.replicate len zv.cells.toList).flatten.toArray:=by
     apply Array.ext'
     rw[←zhq hzl g51 len]
     simp
    rw[this]
    simpa using m4)
   rw[q]
  have hrun:(Instr.buildSlice t len (parts.map fun p=>(p.1,a.eval p.2))).run en.P w=.ok (.slice (some ⟨w.heap.size,0,none⟩) len len) (w.alloc (.cells cs'.toArray el)):=by
   rcases Nat.eq_zero_or_pos len with e0 | g52
   ·have q:=ziV (P:=en.P) w t el (parts.map fun p=>(p.1,a.eval p.2)) cs'.toArray it k1 z1 (by
     rw[k3]
     rw[e0]at m4
     simpa using m4)
    rw[e0,q]
   ·exact hrun0 g52
  rw[hw']
  unfold execOp
  rw[ho]
  dsimp only
  rw[Sem.run_bind,hrun]
  rfl
 by_cases hmk:mkD en o.dst 0=true
 ·rw[if_pos hmk]at h6
  obtain⟨ys,s4,_,_,_,_,h7,h8⟩:=M.bind_some h6
  obtain⟨τ1,cs',B',m1,m2,m3,m5,m4⟩:=ze1 (place:=fun i=>some (i * n,n)) (zs:=List.replicate len z.sh) (fun i z' hz'=>by
    have hlt:=(List.getElem?_eq_some_iff.1 hz').1
    have:=hsl z' (List.mem_of_getElem? hz')
    rw[zfq (n:=n) (fun y hy=>hsl y (List.mem_of_mem_take hy)),List.length_take,Nat.min_eq_left (by omega),this]) h ⟨List.nodup_nil,fun k hk=>by cases hk⟩ (RepS.reps hzc len) rfl h7
  obtain⟨B2,p1,p2⟩:=RepS.shX (mkD en o.dst 1000000) m3
  have hsz:∀y∈ys,y.size=n:=fun y hy=>by
   have:y.size∈(List.replicate len z.sh).map T.size:=by rw[←m5];exact List.mem_map_of_mem hy
   obtain⟨y2,q1,q2⟩:=List.mem_map.1 this
   rw[←q2]
   exact hsl y2 q1
  have hyl:ys.length=len:=by have:=congrArg List.length m5;simpa using this
  have hsz2:∀y∈shXs (mkD en o.dst 1000000) ys,y.size=n:=zkN hsz
  have hlx:(shXs (mkD en o.dst 1000000) ys).length=len:=by rw[zlS,hyl]
  have hcl:cs'.length=len * n:=by rw[RepS.len p1,zfq hsz2,hlx]
  obtain⟨n1,n2,n3⟩:=m1.zld p1 hsz2 (m2.less p2) g51 (zs:=[]) (c:=len) (by rw[hcl,hlx]) (by rw[List.append_nil,hcl]) hlen1 el
  rw[List.append_nil]at n1 n2 n3
  rw[hlx]at n2
  obtain⟨τ',k⟩:=Sim.wr n1 h8 (by rw[RepV];exact n2) n3 zdP
  exact run m4 rfl k
 ·rw[if_neg hmk]at h6
  obtain⟨ys,s4,_,_,_,_,h7,h8⟩:=M.bind_some h6
  obtain⟨m0,m1,m2,cs',m3,m4⟩:=zf2 h (n:=n) (RepS.reps hzc len) hsl h7
  subst m0
  have hL:=m3.toL m2
  have hlen:ys.length=len:=by rw[m1,List.length_replicate]
  have hlc:=hL.len
  obtain⟨n1,n2,n3⟩:=h.newRow hL g51 (zs:=[]) (c:=len) (by rw[List.append_nil,hlc,hlen]) hlen1 el
  rw[List.append_nil,hlen]at n1 n2
  rw[List.append_nil]at n3
  obtain⟨τ',k⟩:=Sim.wr n1 h8 (by rw[RepV];exact n2) n3 zdP
  exact run m4 rfl k
theorem zjv (h:Sim e w E β τ a s) {t:TypeId} {l c:Operand} (ho:o.op=.makeSlice t l c) (hf:fire en o s=some (u,s',r,q)):Done en o e w a s':=by
 unfold fire at hf
 rw[ho]at hf
 dsimp only at hf
 obtain⟨⟨el,n⟩,s1,_,_,_,_,h1,h2⟩:=M.bind_some hf
 obtain⟨g1,rfl⟩:=M.zar h1
 obtain⟨i,s2,_,_,_,_,h3,h4⟩:=M.bind_some h2
 obtain⟨g3,rfl⟩:=M.zar h3
 obtain⟨z,s3,_,_,_,_,h5,h6⟩:=M.bind_some h4
 obtain⟨g5,rfl⟩:=M.zar h5
 obtain⟨ia,s4,_,_,_,_,h7,h8⟩:=M.bind_some h6
 obtain⟨rfl,ka,e1⟩:=zeV h h7
 obtain⟨ib,s5,_,_,_,_,h9,h10⟩:=M.bind_some h8
 obtain⟨rfl,kb,e2⟩:=zeV h h9
 obtain⟨_,s6,_,_,_,_,h11,h12⟩:=M.bind_some h10
 obtain⟨g11,rfl⟩:=M.zam h11
 obtain⟨_,s7,_,_,_,_,h13,h14⟩:=M.bind_some h12
 obtain⟨g13,rfl⟩:=M.zam h13
 rw[Bool.and_eq_true]at g11
 have hzs:z.size=n:=by simpa using g11.1
 have hn:0 < n:=of_decide_eq_true g11.2
 obtain⟨b0,b1,b2,b3⟩:=of_decide_eq_true g13
 obtain⟨ti,k1,k2,k3⟩:=zeh g1
 have:i=ti:=Option.some.inj (g3.symm.trans k2)
 subst this
 obtain⟨it,zv,z1,z2,z3⟩:=zfc g5
 have:it=i:=Option.some.inj (z1.symm.trans k2)
 subst this
 obtain⟨B0,hzc,hsub⟩:=Rep.shX false (Rep.sh (z3 w E).cells)
 have:B0=[]:=List.sublist_nil.1 hsub
 subst this
 have hzl:zv.cells.size=n:=by have:=Rep.len hzc;rw[T.zfZ,T.ze8,hzs]at this;simpa using this
 have hreps:=RepS.reps hzc ia.toNat
 have hsl:∀y∈List.replicate ia.toNat (z.sh.shX false),y.size=n:=fun y hy=>by rw[(List.mem_replicate.1 hy).2,T.zfZ,T.ze8,hzs]
 have hlen:∀m,(List.replicate m zv.cells.toList).flatten.length=m * n:=fun m=>by
  induction m with
  | zero=>simp
  | succ m ih=>rw[List.replicate_succ,List.flatten_cons,List.length_append,ih,Array.length_toList,hzl,Nat.succ_mul];omega
 have hsplit:(List.replicate ia.toNat zv.cells.toList).flatten++(List.replicate (ib.toNat-ia.toNat) zv.cells.toList).flatten=(List.replicate ib.toNat zv.cells.toList).flatten:=by
  rw[←List.flatten_append,List.replicate_append_replicate]
  congr 2
  omega
 have hrun:=run_make (P:=en.P) w t el it zv k1 k2 z2 ka kb ia ib b0 b1 b2 b3
 have hmade:madeCells zv.cells (ib.toNat * it.size)=((List.replicate ia.toNat zv.cells.toList).flatten++(List.replicate (ib.toNat-ia.toNat) zv.cells.toList).flatten).toArray:=by
  rw[hsplit,k3]
  unfold madeCells
  apply Array.ext'
  rw[←zhq hzl hn ib.toNat]
  simp[hzl]
 have fin:∀{E':Nat→Nat} {τ':Loc→List Nat},Sim e (w.alloc (.cells ((List.replicate ia.toNat zv.cells.toList).flatten++(List.replicate (ib.toNat-ia.toNat) zv.cells.toList).flatten).toArray el)) E' β τ' (a.put o.dst (.slice (some ⟨w.heap.size,0,none⟩) ia.toNat ib.toNat)) s'→Done en o e w a s':=by
  intro E' τ' k
  refine⟨_,_,_,_,β,τ', ?_,.inl rfl,k⟩
  unfold execOp
  rw[ho]
  dsimp only
  rw[Sem.run_bind,e1,e2,hrun,hmade]
  rfl
 have hcb:ib.toNat≤9223372036854775807:=by omega
 have hcl:((List.replicate ia.toNat zv.cells.toList).flatten++(List.replicate (ib.toNat-ia.toNat) zv.cells.toList).flatten).length=ib.toNat * n:=by rw[hsplit,hlen]
 by_cases hmk:mkD en o.dst 0=true
 ·rw[if_pos hmk]at h14
  obtain⟨n1,n2,n3⟩:=h.zld (sz:=n) hreps hsl ⟨List.nodup_nil,fun k hk=>by cases hk⟩ hn (zs:=(List.replicate (ib.toNat-ia.toNat) zv.cells.toList).flatten) (c:=ib.toNat) (by rw[hlen,List.length_replicate]) hcl hcb el
  rw[List.length_replicate]at n2
  obtain⟨τ',k⟩:=Sim.wr n1 h14 (by rw[RepV];exact n2) n3 zdP
  exact fin k
 ·rw[if_neg hmk]at h14
  obtain⟨n1,n2,n3⟩:=h.newRow (hreps.toL hsl) hn (zs:=(List.replicate (ib.toNat-ia.toNat) zv.cells.toList).flatten) (c:=ib.toNat) hcl hcb el
  rw[List.length_replicate]at n1 n2
  obtain⟨τ',k⟩:=Sim.wr n1 h14 (by rw[RepV];exact n2) n3 zdP
  exact fin k
end
end Go.Proofs.YtgmidllbkjdnnaaGreatDoor.Flat
namespace Go.Proofs.YtgmidllbkjdnnaaGreatDoor.Flat
set_option linter.unusedVariables false
set_option linter.unusedSimpArgs false
set_option linter.unusedSectionVars false
variable [Glob]
theorem ze5 {w:World} {b:Nat} {cs:List Value} {ty:TypeId} {fr:Nat × Nat} (h:w.heap[b]?=some (.cells cs.toArray ty fr)) {j:Nat} {u:Value} (hj:cs[j]?=some u):w.cell? ⟨b,j,none⟩=some u:=by
 unfold World.cell?
 dsimp only
 rw[h]
 simpa using hj
theorem zf3 {b o j:Nat}:(⟨b,o,none⟩:Addr).add j=⟨b,o+j,none⟩:=by
 unfold Addr.add
 split
 ·rename_i h;rw[h];rfl
 ·rfl
section
variable {en:Env} {e:Ent} {w:World} {E:Nat→Nat} {β:Bm} {τ:Loc→List Nat} {a:Act} {s s':St} {o:Oper} {r q:List FL} {u:Unit}
theorem Sim.drew (h:Sim e w E β τ a s):Sim e w.drew E β τ a s:=
 h.move (w':=w.drew) (E':=E) (Ba:=[]) (M:=[]) ⟨Nat.le_refl _,fun k _ _ _=>⟨rfl,rfl⟩,fun k hk=>(by cases hk),fun k hk=>(by cases hk),rfl,rfl,rfl⟩ h.z (fun k hk=>by cases hk) (fun k hk=>by cases hk)
theorem ziL {P : Program} (h : Sim e w E β τ a s) {t tx ty el : TypeId} {ti : TypeInfo} {z : Value} (ht : P.underlying t = some (.slice el)) (hi : P.info? el = some ti) (hz : ti.zero = some z) (hzs : z.cells.size = ti.size) (hsz : 0 < ti.size)
  {xs ys:List T} {vx vy:Value} {B:List Nat} (hx:RepT w E (.sl true ti.size xs) vx B) (hB:Free e w β τ s B) {news:List Value} (hn:RepL w E ti.size ys news) (hs:Src P ti.size tx vy ys.length news w)
  (hb:(xs.length+ys.length) * ti.bytes≤140737488355328) (h0:0 < ti.bytes):
  ∃v w' E' B',(Builtin.append_ #[t,tx] ty #[vx,vy]).run P w=.ok v w'∧Sim e w' E' β τ a s∧RepT w' E' (.sl true ti.size (xs++ys)) v B'∧Free e w' β τ s B':=by
 obtain⟨cs0,hr,rfl⟩:=hx
 have hr':=hr
 rw[Rep]at hr
 obtain⟨A,c,rfl,hlc,_,hA⟩:=hr
 have h63:((xs.length+ys.length:Nat):Int)≤9223372036854775807:=by
  have:(xs.length+ys.length) * 1≤(xs.length+ys.length) * ti.bytes:=Nat.mul_le_mul_left _ h0
  omega
 have hnl:=hn.len
 have grow:∀(base:Option Addr) (olds:List Value),c < xs.length+ys.length→RepL w E ti.size xs olds→(Builtin.firstCells ti.size xs.length (.slice base xs.length c)).run P w.drew=.ok olds.toArray w.drew→
   ∃v w' E' B',(Builtin.append_ #[t,tx] ty #[.slice base xs.length c,vy]).run P w=.ok v w'∧Sim e w' E' β τ a s∧RepT w' E' (.sl true ti.size (xs++ys)) v B'∧Free e w' β τ s B':=by
  intro base olds hg ho hold
  have hrun:=run_append_grow_src (P:=P) w t tx ty el ti z ht hi hz base xs.length c olds hold vy ys.length news hs hg h63 (growslice_fits hg hb)
  have hge:=grownCap_ge w (xs.length+ys.length) c el
  have hap:=ho.append hn
  have hal:=hap.len
  have hmd:Mv w E w.drew E []:=⟨fun k i hi=>⟨hi,rfl⟩,fun k hk=>(by cases hk)⟩
  have hap':=hap.mv hmd
  have hzl:(Builtin.zeroCells z.cells (grownCap w (xs.length+ys.length) c el-(xs.length+ys.length))).toList.length=(grownCap w (xs.length+ys.length) c el-(xs.length+ys.length)) * ti.size:=by rw[Array.length_toList,size_zeroCells,hzs]
  obtain⟨n1,n2,n3⟩:=(h.drew).newRow (sz:=ti.size) (xs:=xs++ys) (cs:=olds++news) (zs:=(Builtin.zeroCells z.cells (grownCap w (xs.length+ys.length) c el-(xs.length+ys.length))).toList) hap' hsz
   (c:=grownCap w (xs.length+ys.length) c el) (by
    rw[List.length_append,hal,hzl,List.length_append,←Nat.add_mul]
    congr 1
    omega) (by have hq:=grownCap_le_maxLen w (xs.length+ys.length) c el (by unfold maxLen;omega);unfold maxLen at hq;omega) el
  have e1:((olds++news)++(Builtin.zeroCells z.cells (grownCap w (xs.length+ys.length) c el-(xs.length+ys.length))).toList).toArray=(olds++news).toArray++Builtin.zeroCells z.cells (grownCap w (xs.length+ys.length) c el-(xs.length+ys.length)):=by
   apply Array.ext'
   simp
  rw[e1]at n1 n2 n3
  rw[List.length_append]at n1 n2
  try rw[List.length_append]at n3
  exact⟨_,_,_,_,hrun,n1,n2,n3⟩
 cases A with
 | none=>
  obtain⟨rfl,rfl,rfl⟩:=hA
  show∃v w' E' B',(Builtin.append_ #[t,tx] ty #[.slice none 0 0,vy]).run P w=.ok v w'∧_
  cases ys with
  | nil=>
   have e2:news=[]:=List.eq_nil_of_length_eq_zero (by rw[hnl];simp)
   subst e2
   exact⟨_,w,E,[],run_append_nothing (P:=P) w t tx ty el ti ht hi none 0 0 (Nat.le_refl _) vy hs,h,⟨_,hr',rfl⟩,hB⟩
  | cons y ys=>
   exact grow none [] (by simp) (by rw[RepL]) (run_firstCells_none w.drew ti.size 0 0 0)
 | some ad=>
  obtain⟨hA1,tk,htk,rfl,hA3⟩:=hA
  cases tk with
  | false=>
   have hcx:c=xs.length:=htk.2 rfl rfl
   show∃v w' E' B',(Builtin.append_ #[t,tx] ty #[.slice (some ad) xs.length c,vy]).run P w=.ok v w'∧_
   cases ys with
   | nil=>
    have e2:news=[]:=List.eq_nil_of_length_eq_zero (by rw[hnl];simp)
    subst e2
    exact⟨_,w,E,_,run_append_nothing (P:=P) w t tx ty el ti ht hi (some ad) xs.length c hlc vy hs,h,⟨_,by rw[List.append_nil];exact hr',rfl⟩,hB⟩
   | cons y ys=>
    obtain⟨olds,m1,m2⟩:=RepA.toL hA1
    refine grow (some ad) olds (by rw[hcx,List.length_cons];omega) m1 ?_
    refine run_firstCells_some w.drew ti.size xs.length ad xs.length c olds m1.len (fun j u' hu=> ?_)
    have:=m2 j u' hu
    rw[Nat.zero_add]at this
    exact this
  | true=>
  rw[if_pos rfl]at hB
  obtain⟨hspot,hE,cells,tyc,hc,hcz,hcb⟩:=hA3 rfl
  obtain⟨b,off,sp⟩:=ad
  dsimp only at hspot hE hc hcz hA1 hB
  subst hspot
  show∃v w' E' B',(Builtin.append_ #[t,tx] ty #[.slice (some ⟨b,off,none⟩) xs.length c,vy]).run P w=.ok v w'∧_
  by_cases hfit:xs.length+ys.length≤c
  ·have hmul:(xs.length+ys.length) * ti.size≤c * ti.size:=Nat.mul_le_mul_right _ hfit
   rw[Nat.add_mul]at hmul
   have hsplit:cells.toList=cells.toList.take (off+xs.length * ti.size)++(cells.toList.drop (off+xs.length * ti.size)).take news.length++cells.toList.drop (off+xs.length * ti.size+news.length):=by
    have hd:cells.toList.drop (off+xs.length * ti.size+news.length)=(cells.toList.drop (off+xs.length * ti.size)).drop news.length:=by rw[List.drop_drop]
    rw[hd,List.append_assoc,List.take_append_drop,List.take_append_drop]
   generalize hc1:cells.toList.take (off+xs.length * ti.size)=c1 at hsplit
   generalize hc2:(cells.toList.drop (off+xs.length * ti.size)).take news.length=c2 at hsplit
   generalize hc3:cells.toList.drop (off+xs.length * ti.size+news.length)=c3 at hsplit
   have hcl:cells.toList.length=cells.size:=by simp
   have hl1:c1.length=off+xs.length * ti.size:=by rw[←hc1,List.length_take,hcl];omega
   have hl2:c2.length=news.length:=by rw[←hc2,List.length_take,List.length_drop,hcl];omega
   have hrow0:w.heap[b]?=some (.cells (c1++c2++c3).toArray tyc (0,0)):=by rw[hc,←hsplit]
   have hrow:=zfj news c1 c2 c3 w hrow0 hl2
   rw[hl1]at hrow
   have hfar:∀k,k≠b→(w.setCells b (off+xs.length * ti.size) news).heap[k]?=w.heap[k]?:=fun k hk=>zfk hk news _ w
   have hsize:=setCells_size (b:=b) news (off+xs.length * ti.size) w
   have hbw:b < w.heap.size:=(Array.getElem?_eq_some_iff.1 hc).1
   have hrun:=run_append_room_src (P:=P) w t tx ty el ti ht hi b off xs.length c vy ys.length news hs hfit (fun j hj=>by
     have hlt:c1.length+j < (c1++c2++c3).length:=by simp;omega
     rw[←hl1,ze5 hrow0 (List.getElem?_eq_getElem hlt)]
     rfl) (fun j hj=>by
     unfold World.frozen?
     rw[hrow0]
     simp)
   obtain⟨f1,f2,f3,f4⟩:=hB.2 b (List.mem_singleton.2 rfl)
   have hE':∀k,k≠b→upE E b (off+xs.length * ti.size+news.length) k=E k:=fun k hk=>if_neg hk
   have hEb:upE E b (off+xs.length * ti.size+news.length) b=off+xs.length * ti.size+news.length:=if_pos rfl
   have hbelow:∀i,i < E b→(w.setCells b (off+xs.length * ti.size) news).cell? ⟨b,i,none⟩=w.cell? ⟨b,i,none⟩:=by
    intro i hi'
    have hi2:i < c1.length:=by omega
    rw[ze5 hrow (j:=i) (u:=c1[i]) (by rw[List.append_assoc,List.getElem?_append_left hi2];exact List.getElem?_eq_getElem hi2),ze5 hrow0 (j:=i) (u:=c1[i]) (by rw[List.append_assoc,List.getElem?_append_left hi2];exact List.getElem?_eq_getElem hi2)]
   have hfr:Fr w E (w.setCells b (off+xs.length * ti.size) news) (upE E b (off+xs.length * ti.size+news.length)) [b] []:=by
    refine⟨by rw[hsize];exact Nat.le_refl _,fun k hk hkB _=> ?_,fun k hk hkw=> ?_,fun k hk=>(by cases hk),zfl _ _ _⟩
    ·have:k≠b:=fun e=>hkB (by rw[e];exact List.mem_singleton.2 rfl)
     exact⟨hfar k this,hE' k this⟩
    ·rw[List.mem_singleton.1 hk]
     refine⟨by rw[hEb,hE];omega,hbelow,fun cells' ty' hc'=> ?_⟩
     rw[hrow0]at hc'
     cases hc'
     exact⟨_,hrow,by simp;omega⟩
   have hmv:Mv w E (w.setCells b (off+xs.length * ti.size) news) (upE E b (off+xs.length * ti.size+news.length)) []:=hfr.mv h.z (fun k hk=>by cases hk) (fun k hk=>by cases hk)
   have hsim:=h.move hfr (fun k hk=>by
     rw[hsize]at hk
     rw[hE' k (by omega)]
     exact h.z k hk) (fun k hk=>by
     rw[List.mem_singleton.1 hk]
     refine⟨f1,f2,fun hM=> ?_,f3,f4⟩
     rcases f2 with f2 | f2
     ·have:=h.mlt _ hM;omega
     ·exact h.dis _ f2 hM) (fun k hk=>by cases hk)
   refine⟨_,_,_,[b],hrun,hsim,⟨[.slice (some ⟨b,off,none⟩) (xs.length+ys.length) c], ?_,rfl⟩, ?_⟩
   ·rw[Rep]
    refine⟨some ⟨b,off,none⟩,c,by rw[List.length_append],by rw[List.length_append];exact hfit,hsz, ?_,true,⟨fun _=>rfl,fun _ h=>(by cases h)⟩,rfl,fun _=>⟨rfl, ?_,(c1++news++c3).toArray,tyc,hrow, ?_,hcb⟩⟩
    ·obtain⟨ks,m1,m2⟩:=RepA.toL (RepA.mv hmv hA1)
     have hkl:=m1.len
     refine RepA.ofL (m1.append (hn.mv hmv)) (fun j u' hj=> ?_) ?_
     ·by_cases hjk:j < ks.length
      ·rw[List.getElem?_append_left hjk]at hj
       exact m2 j u' hj
      ·rw[List.getElem?_append_right (by omega)]at hj
       rw[Nat.zero_add,zf3]
       refine ze5 hrow ?_
       have hlt:=(List.getElem?_eq_some_iff.1 hj).1
       rw[List.append_assoc,List.getElem?_append_right (by omega),List.getElem?_append_left (by omega),←hj]
       congr 1
       omega
     ·dsimp only
      rw[hEb,List.length_append,Nat.add_mul]
      omega
    ·dsimp only
     rw[hEb,List.length_append,Nat.add_mul]
     omega
    ·have:(c1++c2++c3).length=cells.size:=by rw[←hsplit,hcl]
     simp at this⊢
     omega
   ·refine⟨by simp,fun k hk=> ?_⟩
    rw[List.mem_singleton.1 hk]
    exact⟨by rw[hsize];exact f1,f2,f3,f4⟩
  ·obtain⟨olds,m1,m2⟩:=RepA.toL hA1
   refine grow (some ⟨b,off,none⟩) olds (by omega) m1 ?_
   refine run_firstCells_some w.drew ti.size xs.length ⟨b,off,none⟩ xs.length c olds m1.len (fun j u' hu=> ?_)
   have:=m2 j u' hu
   rw[Nat.zero_add]at this
   exact this
theorem zhM {P : Program} (h : Sim e w E β τ a s) {t tx ty el : TypeId} {ti : TypeInfo} {z : Value} (ht : P.underlying t = some (.slice el)) (hi : P.info? el = some ti) (hz : ti.zero = some z) (hzs : z.cells.size = ti.size) (hsz : 0 < ti.size)
  {xs ys:List T} {vx vy:Value} {B C:List Nat} (hx:RepT w E (.xl ti.size xs) vx B) (hB:Free e w β τ s (B++C)) {news:List Value} (hn:RepS w E ys news C) (hnm:∀y∈ys,y.size=ti.size) (hs:Src P ti.size tx vy ys.length news w)
  (hb:(xs.length+ys.length) * ti.bytes≤140737488355328) (h0:0 < ti.bytes):
  ∃v w' E' B',(Builtin.append_ #[t,tx] ty #[vx,vy]).run P w=.ok v w'∧Sim e w' E' β τ a s∧RepT w' E' (.xl ti.size (xs++ys)) v B'∧Free e w' β τ s B':=by
 obtain⟨cs0,hr,rfl⟩:=hx
 have hr':=hr
 rw[Rep]at hr
 obtain⟨A,c,rfl,hlc,_,hA⟩:=hr
 have h63:((xs.length+ys.length:Nat):Int)≤9223372036854775807:=by
  have:(xs.length+ys.length) * 1≤(xs.length+ys.length) * ti.bytes:=Nat.mul_le_mul_left _ h0
  omega
 have hnl:news.length=ys.length * ti.size:=by rw[RepS.len hn,zfq hnm]
 show∃v w' E' B',(Builtin.append_ #[t,tx] ty #[.slice A xs.length c,vy]).run P w=.ok v w'∧_
 have grow:∀(olds:List Value) (B0:List Nat),c < xs.length+ys.length→RepS w E xs olds B0→(∀y∈xs,y.size=ti.size)→Free e w β τ s (B0++C)→(Builtin.firstCells ti.size xs.length (.slice A xs.length c)).run P w.drew=.ok olds.toArray w.drew→
   ∃v w' E' B',(Builtin.append_ #[t,tx] ty #[.slice A xs.length c,vy]).run P w=.ok v w'∧Sim e w' E' β τ a s∧RepT w' E' (.xl ti.size (xs++ys)) v B'∧Free e w' β τ s B':=by
  intro olds B0 hg hos hom hf hold
  have hrun:=run_append_grow_src (P:=P) w t tx ty el ti z ht hi hz A xs.length c olds hold vy ys.length news hs hg h63 (growslice_fits hg hb)
  have hge:=grownCap_ge w (xs.length+ys.length) c el
  have hmd:Mv w E w.drew E (B0++C):=⟨fun k i hi=>⟨hi,rfl⟩,fun k hk=>⟨rfl,rfl⟩⟩
  have hap:=RepS.mv hmd (hos.cat hn)
  have ham:∀y∈xs++ys,y.size=ti.size:=fun y hy=>by rcases List.mem_append.1 hy with hy | hy;exact hom y hy;exact hnm y hy
  have hal:(olds++news).length=(xs++ys).length * ti.size:=by rw[RepS.len hap,zfq ham]
  have hzl:(Builtin.zeroCells z.cells (grownCap w (xs.length+ys.length) c el-(xs.length+ys.length))).toList.length=(grownCap w (xs.length+ys.length) c el-(xs.length+ys.length)) * ti.size:=by rw[Array.length_toList,size_zeroCells,hzs]
  obtain⟨n1,n2,n3⟩:=(h.drew).zld (sz:=ti.size) (xs:=xs++ys) (cs:=olds++news) (zs:=(Builtin.zeroCells z.cells (grownCap w (xs.length+ys.length) c el-(xs.length+ys.length))).toList) hap ham hf hsz
   (c:=grownCap w (xs.length+ys.length) c el) hal (by
    rw[List.length_append,hal,hzl,List.length_append,←Nat.add_mul]
    congr 1
    omega) (by have hq:=grownCap_le_maxLen w (xs.length+ys.length) c el (by unfold maxLen;omega);unfold maxLen at hq;omega) el
  have e1:((olds++news)++(Builtin.zeroCells z.cells (grownCap w (xs.length+ys.length) c el-(xs.length+ys.length))).toList).toArray=(olds++news).toArray++Builtin.zeroCells z.cells (grownCap w (xs.length+ys.length) c el-(xs.length+ys.length)):=by
   apply Array.ext'
   simp
  rw[e1]at n1 n2 n3
  rw[List.length_append]at n2
  exact⟨_,_,_,_,hrun,n1,n2,n3⟩
 have none_:ys=[]→∃v w' E' B',(Builtin.append_ #[t,tx] ty #[.slice A xs.length c,vy]).run P w=.ok v w'∧Sim e w' E' β τ a s∧RepT w' E' (.xl ti.size (xs++ys)) v B'∧Free e w' β τ s B':=by
  intro hy
  subst hy
  have e2:news=[]:=List.eq_nil_of_length_eq_zero (by rw[hnl];simp)
  subst e2
  exact⟨_,w,E,B,run_append_nothing (P:=P) w t tx ty el ti ht hi A xs.length c hlc vy hs,h,⟨_,by rw[List.append_nil];exact hr',rfl⟩,hB.less (List.sublist_append_left ..)⟩
 rcases Nat.eq_zero_or_pos ys.length with hy0 | hy0
 ·exact none_ (List.eq_nil_of_length_eq_zero hy0)
 rcases hA with ⟨rfl,rfl,rfl⟩ | ⟨ad,B',rfl,hspot,rfl,hE,⟨cells,tyc,hc,hcz,hcb⟩,hxx⟩
 ·refine grow [] [] (by simpa using hy0) (by rw[RepS];exact⟨rfl,rfl⟩) (fun y hy=>by cases hy) (by simpa using hB) ?_
  cases A with
  | none=>exact run_firstCells_none w.drew ti.size 0 0 0
  | some ad=>exact run_firstCells_some w.drew ti.size 0 ad 0 0 [] (by simp) (fun j u' hu=>by cases hu)
 obtain⟨olds,m1,m2,m3,m4⟩:=RepX.toS hxx
 obtain⟨b,off,sp⟩:=ad
 dsimp only at hspot hE hc hcz hxx m4 hB
 subst hspot
 have hBc:Free e w β τ s (B'++C):=hB.less (by simp)
 by_cases hfit:xs.length+ys.length≤c
 ·have hmul:(xs.length+ys.length) * ti.size≤c * ti.size:=Nat.mul_le_mul_right _ hfit
  rw[Nat.add_mul]at hmul
  have hsplit:cells.toList=cells.toList.take (off+xs.length * ti.size)++(cells.toList.drop (off+xs.length * ti.size)).take news.length++cells.toList.drop (off+xs.length * ti.size+news.length):=by
   have hd:cells.toList.drop (off+xs.length * ti.size+news.length)=(cells.toList.drop (off+xs.length * ti.size)).drop news.length:=by rw[List.drop_drop]
   rw[hd,List.append_assoc,List.take_append_drop,List.take_append_drop]
  generalize hc1:cells.toList.take (off+xs.length * ti.size)=c1 at hsplit
  generalize hc2:(cells.toList.drop (off+xs.length * ti.size)).take news.length=c2 at hsplit
  generalize hc3:cells.toList.drop (off+xs.length * ti.size+news.length)=c3 at hsplit
  have hcl:cells.toList.length=cells.size:=by simp
  have hl1:c1.length=off+xs.length * ti.size:=by rw[←hc1,List.length_take,hcl];omega
  have hl2:c2.length=news.length:=by rw[←hc2,List.length_take,List.length_drop,hcl];omega
  have hrow0:w.heap[b]?=some (.cells (c1++c2++c3).toArray tyc (0,0)):=by rw[hc,←hsplit]
  have hrow:=zfj news c1 c2 c3 w hrow0 hl2
  rw[hl1]at hrow
  have hfar:∀k,k≠b→(w.setCells b (off+xs.length * ti.size) news).heap[k]?=w.heap[k]?:=fun k hk=>zfk hk news _ w
  have hsize:=setCells_size (b:=b) news (off+xs.length * ti.size) w
  have hrun:=run_append_room_src (P:=P) w t tx ty el ti ht hi b off xs.length c vy ys.length news hs hfit (fun j hj=>by
    have hlt:c1.length+j < (c1++c2++c3).length:=by simp;omega
    rw[←hl1,ze5 hrow0 (List.getElem?_eq_getElem hlt)]
    rfl) (fun j hj=>by
    unfold World.frozen?
    rw[hrow0]
    simp)
  obtain⟨f1,f2,f3,f4⟩:=hB.2 b (by simp)
  have hbn:b∉B'++C:=by have:=hB.1;rw[List.cons_append,List.nodup_cons]at this;exact this.1
  have hmv:∀Bs,b∉Bs→Mv w E (w.setCells b (off+xs.length * ti.size) news) E Bs:=fun Bs hb=>zgE (l1:=c1) (c2:=c2) (l3:=c3) hfar hrow0 rfl hrow (by omega) hb
  have hsim:=h.move (w':=w.setCells b (off+xs.length * ti.size) news) (E':=E) (Ba:=[b]) (M:=[])
   ⟨by rw[hsize];exact Nat.le_refl _,fun k' _ hk' _=>⟨hfar k' (fun e=>hk' (by rw[e];exact List.mem_singleton.2 rfl)),rfl⟩,fun k' hk' _=>by
    rw[List.mem_singleton.1 hk']
    refine⟨Nat.le_refl _,fun i hi=>((hmv [] (by simp)).pub b i hi).2,fun cells' ty' hc'=> ?_⟩
    rw[hrow0]at hc'
    cases hc'
    exact⟨_,hrow,by simp;omega⟩,fun k' hk'=>(by cases hk'),zfl _ _ _⟩ (fun k' hk'=>h.z k' (by rw[hsize]at hk';exact hk'))
   (fun k' hk'=>by
    rw[List.mem_singleton.1 hk']
    refine⟨f1,f2,fun hM=> ?_,f3,f4⟩
    rcases f2 with f2 | f2
    ·have:=h.mlt _ hM;omega
    ·exact h.dis _ f2 hM) (fun k' hk'=>by cases hk')
  have hall:=RepS.mv (hmv _ hbn) (m1.cat hn)
  have hlo:=RepS.len m1
  rw[zfq m2]at hlo
  refine⟨_,_,_,b::(B'++C),hrun,hsim,⟨[.slice (some ⟨b,off,none⟩) (xs.length+ys.length) c], ?_,rfl⟩, ?_⟩
  ·rw[Rep]
   refine⟨some ⟨b,off,none⟩,c,by rw[List.length_append],by rw[List.length_append];exact hfit,hsz,.inr ⟨⟨b,off,none⟩,B'++C,rfl,rfl,rfl,hE,⟨(c1++news++c3).toArray,tyc,hrow, ?_,hcb⟩,RepX.ofS hall (fun y hy=>by rcases List.mem_append.1 hy with hy | hy;exact m2 y hy;exact hnm y hy) (fun j u' hj=> ?_)⟩⟩
   ·have:(c1++c2++c3).length=cells.size:=by rw[←hsplit,hcl]
    simp at this⊢
    omega
   ·refine ze5 hrow ?_
    show(c1++news++c3)[off+j]?=some u'
    by_cases hjk:j < olds.length
    ·rw[List.getElem?_append_left hjk]at hj
     have hold:=m4 j u' hj
     have hlt:off+j < c1.length:=by omega
     rw[List.append_assoc,List.getElem?_append_left hlt]
     unfold World.cell? at hold
     dsimp only at hold
     rw[hrow0]at hold
     have hold:(c1++c2++c3)[off+j]?=some u':=by simpa using hold
     rw[List.append_assoc,List.getElem?_append_left hlt]at hold
     exact hold
    ·rw[List.getElem?_append_right (by omega)]at hj
     have hlt:=(List.getElem?_eq_some_iff.1 hj).1
     rw[List.append_assoc,List.getElem?_append_right (by omega),List.getElem?_append_left (by omega),←hj]
     congr 1
     omega
  ·have hB2:=hB
   rw[List.cons_append]at hB2
   exact⟨hB2.1,fun k hk=>by obtain⟨q1,q2⟩:=hB2.2 k hk;exact⟨by rw[hsize];exact q1,q2⟩⟩
 ·refine grow olds B' (by omega) m1 m2 hBc ?_
  refine run_firstCells_some w.drew ti.size xs.length ⟨b,off,none⟩ xs.length c olds m3 (fun j u' hu=> ?_)
  rw[zf3]
  exact m4 j u' hu
end
end Go.Proofs.YtgmidllbkjdnnaaGreatDoor.Flat
namespace Go.Proofs.YtgmidllbkjdnnaaGreatDoor.Flat
set_option linter.unusedVariables false
set_option linter.unusedSimpArgs false
set_option linter.unusedSectionVars false
variable [Glob]
theorem RepL.bytes {w:World} {E:Nat→Nat}:∀{vs:List Value},(∀v∈vs,okv v=true)→RepL w E 1 (vs.map .v) vs
 | [],_=>by rw[List.map_nil,RepL]
 | v::vs,h=>by
  rw[List.map_cons,RepL]
  exact⟨[v],vs,rfl,rfl,by rw[Rep];exact⟨rfl,h v (List.mem_cons_self ..),rfl⟩,RepL.bytes (fun u hu=>h u (List.mem_cons_of_mem _ hu))⟩
section
variable {en:Env} {e:Ent} {w:World} {E:Nat→Nat} {β:Bm} {τ:Loc→List Nat} {a:Act} {s s':St} {o:Oper} {r q:List FL} {u:Unit}
theorem zi8 {P:Program} {tx el:TypeId} {sz:Nat} {ow:Bool} {ys:List T} {v:Value} (hk:P.underlying tx=some (.slice el)) (h:RepT w E (.sl ow sz ys) v []):∃news,RepL w E sz ys news∧Src P sz tx v ys.length news w:=by
 obtain⟨cs,h1,rfl⟩:=h
 rw[Rep]at h1
 obtain⟨A,c,rfl,h2,h3,h4⟩:=h1
 cases A with
 | none=>
  obtain⟨rfl,rfl,_⟩:=h4
  exact⟨[],by rw[RepL],Src.ofNil w hk 0⟩
 | some ad=>
  obtain⟨h5,_⟩:=h4
  obtain⟨news,k1,k2⟩:=RepA.toL h5
  exact⟨news,k1,Src.ofSlice w hk ad ys.length c news k1.len (fun j u hj=>by have:=k2 j u hj;rwa[Nat.zero_add]at this) k1.one⟩
theorem Free.cat0 {B0 B1:List Nat} (h:Free e w β τ s B0) (h':Free e w β τ s B1) (hd:∀k∈B1,k∉B0):Free e w β τ s (B0++B1):=
 ⟨by rw[List.nodup_append];exact⟨h.1,h'.1,fun x hx y hy e=>hd y hy (e ▸ hx)⟩,fun k hk=>by rcases List.mem_append.1 hk with hk | hk;exact h.2 k hk;exact h'.2 k hk⟩
theorem zlT (h:Sim e w E β τ a s) {c:Call} (ho:o.op=.call c) (hc:c.callee=.builtin .append) (hf:fire en o s=some (u,s',r,q)):Done en o e w a s':=by
 unfold fire at hf
 rw[ho]at hf
 dsimp only at hf
 rw[hc]at hf
 dsimp only at hf
 obtain⟨cal,⟨as⟩,⟨ts⟩⟩:=c
 dsimp only at hc hf
 have hx:=zgh (en:=en) (a:=a) ho hc w
 rcases as with _ | ⟨x,_ | ⟨y,_ | ⟨_,_⟩⟩⟩
 ·exact(M.zt (s:=s) hf).elim
 ·exact(M.zt (s:=s) hf).elim
 ·rcases ts with _ | ⟨t,_ | ⟨tx,_ | ⟨_,_⟩⟩⟩
  ·exact(M.zt (s:=s) hf).elim
  ·exact(M.zt (s:=s) hf).elim
  ·dsimp only at hf
   obtain⟨⟨el,n⟩,s1,_,_,_,_,h1,h2⟩:=M.bind_some hf
   obtain⟨g1,rfl⟩:=M.zar h1
   obtain⟨ti0,k1,k2,k3⟩:=zeh g1
   obtain⟨ti,s2,_,_,_,_,h3,h4⟩:=M.bind_some h2
   obtain⟨g3,rfl⟩:=M.zar h3
   have hti:ti=ti0:=Option.some.inj (g3.symm.trans k2)
   subst hti
   obtain⟨ax,s3,_,_,_,_,h5,h6⟩:=M.bind_some h4
   have took:Took e w E β τ a s s3 ax (a.eval x):=by
    cases x with
    | tmp j=>exact(zgH h h5).1
    | const v=>obtain⟨rfl,hv⟩:=zd8 (en:=en) (t:=t) h h5;exact zf1 h hv
    | global g=>obtain⟨rfl,hv⟩:=zd8 (en:=en) (t:=t) h h5;exact zf1 h hv
    | func g=>obtain⟨rfl,hv⟩:=zd8 (en:=en) (t:=t) h h5;exact zf1 h hv
   obtain⟨τ1,B,m1,m2,m3,m4,_⟩:=took
   have appx:∀{sz:Nat} {xs:List T} {B:List Nat} {r' q':List FL},RepT w E (.xl sz xs) (a.eval x) B→Free e w β τ1 s3 B→appX en el n ti.bytes o.dst sz xs tx y s3=some (u,s',r',q')→Done en o e w a s':=by
    intro sz xs B r' q' hax hBf happ
    obtain⟨z,s4,_,_,_,_,h7,h8⟩:=M.bind_some happ
    obtain⟨g7,rfl⟩:=M.zar h7
    obtain⟨_,s5,_,_,_,_,h9,h10⟩:=M.bind_some h8
    obtain⟨g9,rfl⟩:=M.zam h9
    simp only[Bool.and_eq_true,decide_eq_true_eq]at g9
    obtain⟨⟨⟨g91,g92⟩,g93⟩,g94⟩:=g9
    have hszn:sz=n:=by simpa using g91
    have hzn:z.size=n:=by simpa using g92
    subst hszn
    obtain⟨it,zv,z1,z2,z3⟩:=zfc g7
    have hit:it=ti:=Option.some.inj (z1.symm.trans k2)
    subst hit
    have hzl:zv.cells.size=it.size:=by have:=Rep.len (z3 w E).cells;rw[hzn]at this;simpa [k3] using this
    obtain⟨b,s6,_,_,_,_,h11,h12⟩:=M.bind_some h10
    obtain⟨τ2,C,p1,p2,p3,p4,p5⟩:=zeW m1 h11
    have hB2:=p5 B hBf
    have hBC:Free e w β τ2 s6 (B++C):=hB2.cat0 p3 (fun k hk hkB=>by obtain⟨l,hl⟩:=p4 k hk;exact(hBf.2 k hkB).2.2.1 l hl)
    subst k3
    have fin:∀{ys:List T} {news:List Value} {C':List Nat} {r2 q2:List FL},C'.Sublist C→RepS w E ys news C'→(∀y∈ys,y.size=it.size)→Src en.P it.size tx (a.eval y) ys.length news w→(xs.length+ys.length) * it.bytes≤140737488355328→wr o.dst (.t (.xl it.size (xs++ys))) none s6=some (u,s',r2,q2)→Done en o e w a s':=by
     intro ys news C' r2 q2 hC' hn hnm hs hb hw
     obtain⟨v,w',E',B',p1,p2,p3,p4⟩:=zhM p1 (P:=en.P) (t:=t) (tx:=tx) (ty:=o.type) k1 k2 z2 hzl g93 hax (hBC.less (List.Sublist.append (List.Sublist.refl _) hC')) hn hnm hs hb g94
     obtain⟨τ',k⟩:=Sim.wr p2 hw (v:=v) (by rw[RepV];exact p3) p4 zdP
     refine⟨_,_,w',E',β,τ', ?_,.inl rfl,k⟩
     rw[hx]
     have:=p1
     simp[builtin,this]
    cases b with
    | t b=>
     cases b with
     | xl sz' ys=>
      dsimp only at h12
      obtain⟨⟨el2,n2⟩,s7,_,_,_,_,h13,h14⟩:=M.bind_some h12
      obtain⟨g13,rfl⟩:=M.zar h13
      obtain⟨_,s8,_,_,_,_,h15,h16⟩:=M.bind_some h14
      obtain⟨g15,rfl⟩:=M.zam h15
      simp only[Bool.and_eq_true,decide_eq_true_eq]at g15
      have hs':sz'=it.size:=by simpa using g15.1
      subst hs'
      obtain⟨ti2,j1,_⟩:=zeh g13
      rw[RepV]at p2
      obtain⟨cs,q1,q2⟩:=p2
      rw[Rep]at q1
      obtain⟨A,cc,rfl,q3,q4,q5⟩:=q1
      have hev:a.eval y=.slice A ys.length cc:=q2
      rcases q5 with ⟨rfl,rfl,rfl⟩ | ⟨ad,C',rfl,q6,rfl,q7,_,q8⟩
      ·refine fin (news:=[]) (List.Sublist.refl _) (by rw[RepS];exact⟨rfl,rfl⟩) (fun y hy=>by cases hy) ?_ g15.2 h16
       rw[hev]
       cases A with
       | none=>exact Src.ofNil w j1 0
       | some ad=>exact Src.ofSlice w j1 ad 0 0 [] (by simp) (fun j u hj=>by cases hj) (fun u hu=>by cases hu)
      ·obtain⟨news,n1,n2,n3,n4⟩:=RepX.toS q8
       refine fin (List.sublist_cons_self ..) n1 n2 ?_ g15.2 h16
       rw[hev]
       obtain⟨b0,o0,sp⟩:=ad
       dsimp only at q6
       subst q6
       exact Src.ofSlice w j1 ⟨b0,o0,none⟩ ys.length cc news n3 (fun j u hj=>by rw[zf3];exact n4 j u hj) (RepS.one n1)
     | sl ow' sz' ys=>
      dsimp only at h12
      obtain⟨⟨el2,n2⟩,s7,_,_,_,_,h13,h14⟩:=M.bind_some h12
      obtain⟨g13,rfl⟩:=M.zar h13
      obtain⟨_,s8,_,_,_,_,h15,h16⟩:=M.bind_some h14
      obtain⟨g15,rfl⟩:=M.zam h15
      simp only[Bool.and_eq_true,decide_eq_true_eq]at g15
      have hs':sz'=it.size:=by simpa using g15.1
      subst hs'
      obtain⟨ti2,j1,_⟩:=zeh g13
      rw[RepV]at p2
      obtain⟨news,n1,n2⟩:=zi8 j1 p2.sh
      obtain⟨n3,n4⟩:=n1.toS
      exact fin (List.nil_sublist _) n3 n4 n2 g15.2 h16
     | _=>exact(M.zt h12).elim
    | _=>exact(M.zt h12).elim
   cases ax with
   | t ax=>
    cases ax with
    | xl sz xs=>rw[RepV]at m2;exact appx m2 m3 h6
    | sl ow sz xs=>
     cases ow with
     | true=>
      dsimp only at h6
      by_cases hmk:(mkD en o.dst 0&&xs.isEmpty)=true
      ·rw[if_pos hmk]at h6
       rw[Bool.and_eq_true]at hmk
       have hxs:xs=[]:=List.isEmpty_iff.1 hmk.2
       subst hxs
       rw[RepV]at m2
       obtain⟨cs,q1,q2⟩:=m2
       obtain⟨B2,p1,p2⟩:=Rep.shX true q1
       rw[T.shX,if_pos ⟨rfl,rfl,rfl⟩]at p1
       exact appx ⟨cs,p1,q2⟩ (m3.less p2) h6
      rw[if_neg hmk]at h6
      obtain⟨z,s4,_,_,_,_,h7,h8⟩:=M.bind_some h6
      obtain⟨g7,rfl⟩:=M.zar h7
      obtain⟨_,s5,_,_,_,_,h9,h10⟩:=M.bind_some h8
      obtain⟨g9,rfl⟩:=M.zam h9
      simp only[Bool.and_eq_true,decide_eq_true_eq]at g9
      obtain⟨⟨⟨g91,g92⟩,g93⟩,g94⟩:=g9
      have hszn:sz=n:=by simpa using g91
      have hzn:z.size=n:=by simpa using g92
      subst hszn
      obtain⟨it,zv,z1,z2,z3⟩:=zfc g7
      have hit:it=ti:=Option.some.inj (z1.symm.trans k2)
      subst hit
      have hzl:zv.cells.size=it.size:=by have:=Rep.len (z3 w E).cells;rw[hzn]at this;simpa [k3] using this
      obtain⟨ay,s6,_,_,_,_,h11,h12⟩:=M.bind_some h10
      obtain⟨rfl,hv⟩:=zd8 m1 h11
      rw[RepV]at m2
      subst k3
      have fin:∀{ys:List T} {news:List Value} {r' q':List FL},RepL w E it.size ys news→Src en.P it.size tx (a.eval y) ys.length news w→(xs.length+ys.length) * it.bytes≤140737488355328→wr o.dst (.t (.sl true it.size (xs++ys))) none s3=some (u,s',r',q')→Done en o e w a s':=by
       intro ys news r' q' hn hs hb hw
       obtain⟨v,w',E',B',p1,p2,p3,p4⟩:=ziL m1 (P:=en.P) (t:=t) (tx:=tx) (ty:=o.type) k1 k2 z2 hzl g93 m2 m3 hn hs hb g94
       obtain⟨τ',k⟩:=Sim.wr p2 hw (v:=v) (by rw[RepV];exact p3) p4 zdP
       refine⟨_,_,w',E',β,τ', ?_,.inl rfl,k⟩
       rw[hx]
       have:=p1
       simp[builtin,this]
      cases ay with
      | t ay=>
       cases ay with
       | sl ow' sz' ys=>
        dsimp only at h12
        obtain⟨⟨el2,n2⟩,s7,_,_,_,_,h13,h14⟩:=M.bind_some h12
        obtain⟨g13,rfl⟩:=M.zar h13
        obtain⟨_,s8,_,_,_,_,h15,h16⟩:=M.bind_some h14
        obtain⟨g15,rfl⟩:=M.zam h15
        simp only[Bool.and_eq_true,decide_eq_true_eq]at g15
        have hs':sz'=it.size:=by simpa using g15.1
        subst hs'
        obtain⟨ti2,j1,_⟩:=zeh g13
        rw[RepV]at hv
        obtain⟨news,n1,n2⟩:=zi8 j1 hv
        exact fin n1 n2 g15.2 h16
       | v yv=>
        cases yv with
        | string b=>
         dsimp only at h12
         obtain⟨_,s8,_,_,_,_,h15,h16⟩:=M.bind_some h12
         obtain⟨g15,rfl⟩:=M.zam h15
         simp only[Bool.and_eq_true,decide_eq_true_eq]at g15
         obtain⟨⟨q1,q2⟩,q3⟩:=g15
         have hu:en.P.underlying tx=some .string:=by
          revert q1
          cases en.P.underlying tx with
          | none=>intro q1;cases q1
          | some d=>cases d<;>intro q1<;>first | rfl | cases q1
         have hs1:it.size=1:=by simpa using q2
         rw[RepV]at hv
         obtain⟨e1,_,_⟩:=zgf hv
         have hlen:((byteCells b).map T.v).length=b.size:=by rw[List.length_map,byteCells_length]
         refine fin (ys:=(byteCells b).map .v) (news:=byteCells b) ?_ ?_ (by rw[hlen];exact q3) h16
         ·rw[hs1]
          exact RepL.bytes (fun v hv=>by
           unfold byteCells at hv
           obtain⟨_,_,rfl⟩:=List.mem_map.1 hv
           rfl)
         ·rw[hs1,e1,hlen]
          exact Src.ofString w hu b
        | _=>exact(M.zt h12).elim
       | st _=>exact(M.zt h12).elim
       | xl _ _=>exact(M.zt h12).elim
       | op=>exact(M.zt h12).elim
      | _=>exact(M.zt h12).elim
     | false=>exact(M.zt h6).elim
    | _=>exact(M.zt h6).elim
   | _=>exact(M.zt h6).elim
  ·exact(M.zt (s:=s) hf).elim
 ·exact(M.zt (s:=s) hf).elim
end
end Go.Proofs.YtgmidllbkjdnnaaGreatDoor.Flat
namespace Go.Proofs.YtgmidllbkjdnnaaGreatDoor.Flat
set_option linter.unusedVariables false
set_option linter.unusedSimpArgs false
set_option linter.unusedSectionVars false
variable [Glob]
def pubE (w:World) (k:Nat):Nat:=match w.heap[k]? with
 | some (.cells cells _ _)=>cells.size
 | _=>0
omit [Glob] in
theorem zpx {w:World} {a:Addr} {u:Value} (h:w.cell? a=some u):a.off < pubE w a.block:=by
 unfold World.cell? at h
 unfold pubE
 split at h
 ·rename_i c _ _ hc
  rw[hc]
  by_cases hs:a.spot.isSome=true
  ·rw[if_pos hs]at h;cases h
  ·rw[if_neg hs]at h
   exact(Array.getElem?_eq_some_iff.1 h).1
 ·cases h
omit [Glob] in
theorem zn2 {w:World} {k:Nat} {cells:Array Value} {ty:TypeId} {fr:Nat × Nat} (h:w.heap[k]?=some (.cells cells ty fr)):pubE w k=cells.size:=by unfold pubE;rw[h]
omit [Glob] in
theorem zoF {w:World} {k:Nat} (h:w.heap.size≤k):pubE w k=0:=by unfold pubE;rw[Array.getElem?_eq_none h]
mutual
theorem T.zhN:∀x:T,x.pub.size=x.size
 | .v _=>by rw[T.pub]
 | .st fs=>by rw[T.pub,T.size,T.size];exact zjw fs
 | .sl _ _ _=>by rw[T.pub];rfl
 | .xl _ _=>by rw[T.pub];rfl
 | .op=>by rw[T.pub]
theorem zjw:∀fs:List T,sizes (pubs fs)=sizes fs
 | []=>by rw[pubs]
 | f::fs=>by rw[pubs,sizes,sizes,T.zhN f,zjw fs]
end
theorem zjx:∀xs:List T,(pubs xs).length=xs.length
 | []=>by rw[pubs]
 | x::xs=>by rw[pubs,List.length_cons,List.length_cons,zjx xs]
theorem zf4 (x:T) (c:List Value):valOf x.pub c=valOf x c:=by cases x<;>rfl
theorem zlU:∀{fs:List T} {i:Nat},(pubs fs)[i]?=fs[i]?.map T.pub
 | [],i=>by rw[pubs];rfl
 | f::fs,0=>by rw[pubs];rfl
 | f::fs,i+1=>by rw[pubs,List.getElem?_cons_succ,List.getElem?_cons_succ];exact zlU
theorem zgw:∀{fs:List T} {i:Nat},sizes ((pubs fs).take i)=sizes (fs.take i)
 | [],i=>by rw[pubs]
 | f::fs,0=>by simp
 | f::fs,i+1=>by rw[pubs,List.take_succ_cons,List.take_succ_cons,sizes,sizes,T.zhN,zgw]
theorem zlV {w:World}:∀{p:List Nat} {x:T} {cs:List Value} {ad:Option Addr} {y':T} {ad2:Option Addr} {c2:List Value},look w p x.pub cs ad=some (y',ad2,c2)→∃y,look w p x.sh cs ad=some (y,ad2,c2)∧∀c,valOf y' c=valOf y c
 | [],x,cs,ad,y',ad2,c2,h=>by rw[look]at h;cases h;exact⟨x.sh,by rw[look],fun c=>by rw[zf4,zjd]⟩
 | i::p,.st fs,cs,ad,y',ad2,c2,h=>by
  rw[T.pub,look,zlU,zgw]at h
  rw[T.sh,look,zk6,zfC]
  cases hf:fs[i]? with
  | none=>rw[hf]at h;cases h
  | some z=>rw[hf]at h;simp only[Option.map_some,T.zhN]at h;simp only[Option.map_some,T.ze8];exact zlV h
 | i::p,.xl sz xs,cs,ad,y',ad2,c2,h=>by simp[T.pub,look]at h
 | i::p,.v _,cs,ad,y',ad2,c2,h=>by simp[T.pub,look]at h
 | i::p,.sl _ _ _,cs,ad,y',ad2,c2,h=>by simp[T.pub,look]at h
 | i::p,.op,cs,ad,y',ad2,c2,h=>by simp[T.pub,look]at h
mutual
theorem Rep.pub {w:World} {E E':Nat→Nat} (hE:∀k,E k≤E' k):∀{x:T} {cs:List Value} {B:List Nat},Rep w E x cs B→(∀k∈B,pubE w k≤E' k)→Rep w E' x.pub cs []
 | .v x,cs,B,h,hB=>by rw[Rep]at h;rw[T.pub,Rep];exact⟨h.1,h.2.1,rfl⟩
 | .st fs,cs,B,h,hB=>by rw[Rep]at h;rw[T.pub,Rep];exact RepS.pub hE h hB
 | .sl own sz xs,cs,B,h,hB=>by
  have h1:=Rep.mv (w':=w) (E':=E') ⟨fun k i hi=>⟨Nat.lt_of_lt_of_le hi (hE k),rfl⟩,fun k hk=>by cases hk⟩ (Rep.sh h)
  rw[T.sh]at h1
  rw[T.pub]
  exact h1
 | .xl sz xs,cs,B,h,hB=>by
  rw[Rep]at h
  obtain⟨A,c,e,hl,hz,h⟩:=h
  rw[T.pub,Rep]
  refine⟨A,c,by rw[zjx];exact e,by rw[zjx];exact hl,hz, ?_⟩
  rcases h with ⟨rfl,rfl,_⟩ | ⟨ad,B',rfl,hs,rfl,he,⟨cells,ty,hc,hcs,_⟩,hx⟩
  ·cases A with
   | none=>exact⟨rfl,rfl,rfl⟩
   | some ad=>exact⟨by rw[pubs,RepA];trivial,false,⟨fun h=>(by cases h),fun h=>(by cases h)⟩,rfl,fun h=>by cases h⟩
  ·refine⟨?_,false,⟨fun h=>(by cases h),fun h=>(by cases h)⟩,rfl,fun h=>by cases h⟩
   have hb:=hB ad.block (by simp)
   rw[zn2 hc]at hb
   obtain⟨k,o,sp⟩:=ad
   dsimp only at hs hx hb hcs
   subst hs
   have hm:xs.length * sz≤c * sz:=Nat.mul_le_mul_right _ hl
   exact RepX.pubA hE (o:=0) hx (fun k' hk'=>hB k' (List.mem_cons_of_mem _ hk')) (by omega)
 | .op,cs,B,h,hB=>by rw[Rep]at h;rw[T.pub,Rep];exact⟨h.1,rfl⟩
theorem RepS.pub {w:World} {E E':Nat→Nat} (hE:∀k,E k≤E' k):∀{fs:List T} {cs:List Value} {B:List Nat},RepS w E fs cs B→(∀k∈B,pubE w k≤E' k)→RepS w E' (pubs fs) cs []
 | [],cs,B,h,hB=>by rw[RepS]at h;rw[pubs,RepS];exact⟨h.1,rfl⟩
 | f::fs,cs,B,h,hB=>by
  rw[RepS]at h
  obtain⟨c1,c2,B1,B2,e,eb,h1,h2⟩:=h
  rw[pubs,RepS]
  exact⟨c1,c2,[],[],e,rfl,Rep.pub hE h1 (fun k hk=>hB k (by rw[eb];simp[hk])),RepS.pub hE h2 (fun k hk=>hB k (by rw[eb];simp[hk]))⟩
theorem RepX.pubA {w:World} {E E':Nat→Nat} (hE:∀k,E k≤E' k) {sz k off:Nat}:∀{xs:List T} {o:Nat} {B:List Nat},RepX w E sz k (off+o) xs B→(∀k'∈B,pubE w k'≤E' k')→off+o+xs.length * sz≤E' k→RepA w E' sz ⟨k,off,none⟩ o (pubs xs)
 | [],o,B,h,hB,hk=>by rw[pubs,RepA];trivial
 | x::xs,o,B,h,hB,hk=>by
  rw[RepX]at h
  obtain⟨cs,B1,B2,eb,hl,hc,h1,h2⟩:=h
  rw[List.length_cons,Nat.succ_mul]at hk
  rw[pubs,RepA]
  refine⟨⟨by show off+o+sz≤E' k;omega,cs,hl,fun j u hj=> ?_,Rep.pub hE h1 (fun k' hk'=>hB k' (by rw[eb];simp[hk']))⟩,RepX.pubA hE (o:=o+sz) (by rw[←Nat.add_assoc];exact h2) (fun k' hk'=>hB k' (by rw[eb];simp[hk'])) (by omega)⟩
  rw[add_none']
  have:=hc j u hj
  rw[Nat.add_assoc]at this
  exact this
end
mutual
theorem Rep.own {w:World} {E E':Nat→Nat}:∀{x:T} {cs:List Value} {B:List Nat},x.owned=true→Rep w E x cs B→(∀k∈B,E' k=E k)→Rep w E' x cs B
 | .v x,cs,B,ho,h,hB=>by rw[Rep]at h⊢;exact h
 | .st fs,cs,B,ho,h,hB=>by rw[T.owned]at ho;rw[Rep]at h⊢;exact RepS.own ho h hB
 | .sl own sz xs,cs,B,ho,h,hB=>by rw[T.owned]at ho;cases ho
 | .xl sz xs,cs,B,ho,h,hB=>by
  rw[T.owned]at ho
  rw[Rep]at h⊢
  obtain⟨A,c,e,hl,hz,h⟩:=h
  refine⟨A,c,e,hl,hz, ?_⟩
  rcases h with h | ⟨ad,B',ha,hs,hb,he,hc,hx⟩
  ·exact .inl h
  ·exact .inr ⟨ad,B',ha,hs,hb,by rw[hB ad.block (by rw[hb];simp)];exact he,hc,RepX.own ho hx (fun k hk=>hB k (by rw[hb];exact List.mem_cons_of_mem _ hk))⟩
 | .op,cs,B,ho,h,hB=>by rw[T.owned]at ho;cases ho
theorem RepS.own {w:World} {E E':Nat→Nat}:∀{fs:List T} {cs:List Value} {B:List Nat},zfE fs=true→RepS w E fs cs B→(∀k∈B,E' k=E k)→RepS w E' fs cs B
 | [],cs,B,ho,h,hB=>by rw[RepS]at h⊢;exact h
 | f::fs,cs,B,ho,h,hB=>by
  rw[zfE,Bool.and_eq_true]at ho
  rw[RepS]at h⊢
  obtain⟨c1,c2,B1,B2,e,eb,h1,h2⟩:=h
  exact⟨c1,c2,B1,B2,e,eb,Rep.own ho.1 h1 (fun k hk=>hB k (by rw[eb];simp[hk])),RepS.own ho.2 h2 (fun k hk=>hB k (by rw[eb];simp[hk]))⟩
theorem RepX.own {w:World} {E E':Nat→Nat} {sz k:Nat}:∀{xs:List T} {o:Nat} {B:List Nat},zfE xs=true→RepX w E sz k o xs B→(∀k'∈B,E' k'=E k')→RepX w E' sz k o xs B
 | [],o,B,ho,h,hB=>by rw[RepX]at h⊢;exact h
 | x::xs,o,B,ho,h,hB=>by
  rw[zfE,Bool.and_eq_true]at ho
  rw[RepX]at h⊢
  obtain⟨cs,B1,B2,eb,hl,hc,h1,h2⟩:=h
  exact⟨cs,B1,B2,eb,hl,hc,Rep.own ho.1 h1 (fun k hk=>hB k (by rw[eb];simp[hk])),RepX.own ho.2 h2 (fun k hk=>hB k (by rw[eb];simp[hk]))⟩
end
theorem RepTs.own {w:World} {E E':Nat→Nat}:∀{xs:List T} {vs:List Value} {B:List Nat},zfE xs=true→RepTs w E xs vs B→(∀k∈B,E' k=E k)→RepTs w E' xs vs B
 | [],vs,B,ho,h,hB=>h
 | x::xs,vs,B,ho,h,hB=>by
  rw[zfE,Bool.and_eq_true]at ho
  obtain⟨v,vr,B1,B2,e,eb,⟨cs,h1,h1'⟩,h2⟩:=h
  exact⟨v,vr,B1,B2,e,eb,⟨cs,Rep.own ho.1 h1 (fun k hk=>hB k (by rw[eb];simp[hk])),h1'⟩,RepTs.own ho.2 h2 (fun k hk=>hB k (by rw[eb];simp[hk]))⟩
theorem RepTs.pub {w:World} {E E':Nat→Nat} (hE:∀k,E k≤E' k):∀{xs:List T} {vs:List Value} {B:List Nat},RepTs w E xs vs B→(∀k∈B,pubE w k≤E' k)→RepTs w E' (pubs xs) vs []
 | [],vs,B,h,hB=>by rw[pubs];exact⟨h.1,rfl⟩
 | x::xs,vs,B,h,hB=>by
  obtain⟨v,vr,B1,B2,e,eb,⟨cs,h1,h1'⟩,h2⟩:=h
  rw[pubs]
  exact⟨v,vr,[],[],e,rfl,⟨cs,Rep.pub hE h1 (fun k hk=>hB k (by rw[eb];simp[hk])),by rw[h1',zf4]⟩,RepTs.pub hE h2 (fun k hk=>hB k (by rw[eb];simp[hk]))⟩
section
variable {en:Env} {e:Ent} {w:World} {E:Nat→Nat} {β:Bm} {τ:Loc→List Nat} {a:Act} {s s':St} {o:Oper} {r q:List FL} {u:Unit}
def pubB (w:World) (E:Nat→Nat) (B:List Nat):Nat→Nat:=fun k=>if k∈B then max (E k) (pubE w k)else E k
theorem zhO (w:World) (E:Nat→Nat) (B:List Nat) (k:Nat):E k≤pubB w E B k:=by unfold pubB;split<;>omega
theorem Sim.zpy (h:Sim e w E β τ a s) {B:List Nat} (hB:Free e w β τ s B):Sim e w (pubB w E B) β τ a s:=by
 refine h.move (w':=w) (Ba:=B) (M:=[]) ⟨Nat.le_refl _,fun k _ hk _=>⟨rfl,if_neg hk⟩,fun k hk _=>⟨zhO _ _ _ _,fun _ _=>rfl,fun cells ty hc=>⟨cells,hc,rfl⟩⟩,fun k hk=>(by cases hk),rfl,rfl,rfl⟩ (fun k hk=> ?_) (fun k hk=> ?_) (fun k hk=>by cases hk)
 ·have h1:k∉B:=fun hb=>by have:=(hB.2 k hb).1;omega
  show(if k∈B then _ else E k)=0
  rw[if_neg h1]
  exact h.z k hk
 ·obtain⟨q1,q2,q3,q4⟩:=hB.2 k hk
  refine⟨q1,q2,fun hM=> ?_,q3,q4⟩
  rcases q2 with q2 | q2
  ·have:=h.mlt _ hM;omega
  ·exact h.dis _ q2 hM
theorem Sim.pubAt (h:Sim e w E β τ a s) {l:Loc} {c:Cell} {x:T} (hc:s.get l=some c) (hx:c.val=.t x):∃E' τ',Sim e w E' β τ' a (s.put l {c with val:=.t x.pub}):=by
 have hun:∀i,l=.bx i→c.val≠ .un:=fun i _=>by rw[hx];exact fun h=>by cases h
 obtain⟨hr,hv,hb⟩:=h.place hc hx
 have cells:∀i,l=.bx i→∀cells ty,w.heap[β i c.gen]?=some (.cells cells ty (0,0))→zdb w β a s l=cells.toList:=by
  intro i hi cells ty hw
  obtain⟨cells',ty',g1,g2⟩:=hb i hi
  rw[g1]at hw
  cases hw
  exact g2
 have h1:=h.val (x':=.t x.sh) (B':=[]) hc (fun i hi=>by rw[RepV,hv i hi];exact⟨_,Rep.sh hr,(zjd x _).symm⟩) (fun i hi=>⟨hun i hi,fun cells' ty hw=>by
  show Rep w E x.sh cells'.toList []
  rw[←cells i hi cells' ty hw]
  exact Rep.sh hr⟩) (by simp) List.nodup_nil rfl (fun y' hy=>by cases hy;exact⟨x,hx,Finer.sh x⟩)
 have hfree:=h.free (B:=τ l) (B':=[]) (x':=.t x.sh) hc (fun k hk=>⟨hk,by simp⟩) (h.nod l) hun
 have h2:=h1.zpy hfree
 have hg:(s.put l {c with val:=.t x.sh}).get l=some {c with val:=.t x.sh}:=St.get_put s l _ c hc
 have hr2:Rep w (pubB w E (τ l)) x.pub (zdb w β a s l) []:=Rep.pub (zhO _ _ _) hr (fun k hk=>by show _≤(if k∈τ l then max (E k) (pubE w k)else E k);rw[if_pos hk];omega)
 have h3:=h2.val (x':=.t x.pub) (B':=[]) hg (fun i hi=>by rw[RepV,hv i hi];exact⟨_,hr2,(zf4 x _).symm⟩) (fun i hi=>⟨fun h=>(by cases h),fun cells' ty hw=>by
  show Rep w _ x.pub cells'.toList []
  rw[←cells i hi cells' ty hw]
  exact hr2⟩) (by simp) List.nodup_nil rfl (fun y' hy=>by cases hy;exact⟨x.sh,rfl,by rw[T.zhN,T.ze8],fun w p cs ad y' ad2 c2 hl=>zlV hl⟩)
 have hput:(s.put l {c with val:=.t x.sh}).put l {({c with val:=.t x.sh}:Cell)with val:=.t x.pub}=s.put l {c with val:=.t x.pub}:=by cases l<;>simp[St.put]
 rw[hput]at h3
 exact⟨_,_,h3⟩
end
end Go.Proofs.YtgmidllbkjdnnaaGreatDoor.Flat
namespace Go.Proofs.YtgmidllbkjdnnaaGreatDoor.Flat
set_option linter.unusedVariables false
set_option linter.unusedSimpArgs false
set_option linter.unusedSectionVars false
variable [Glob]
mutual
theorem RepV.far {w:World} {E:Nat→Nat} {F F':Nat→Prop} {β:Bm} (hF:∀k,F k→F' k):∀{x:AV} {v:Value} {B:List Nat},RepV w E F β x v B→RepV w E F' β x v B
 | .t x,v,B,h=>by rw[RepV]at h⊢;exact h
 | .tup xs,v,B,h=>by rw[RepV]at h⊢;exact h
 | .ptr b g p o,v,B,h=>by rw[RepV]at h⊢;exact h
 | .ref x,v,B,h=>by
  rw[RepV]at h⊢
  obtain⟨hb,ad,e1,cs,h1,h2,h3⟩:=h
  exact⟨hb,ad,e1,cs,h1,Or.imp id (hF _) h2,h3⟩
 | .fref f caps,v,B,h=>by
  rw[RepV]at h⊢
  obtain⟨hb,ad,cv,e1,hs,hc,hr⟩:=h
  exact⟨hb,ad,cv,e1,Or.imp id (hF _) hs,hc,RepVs.far hF hr⟩
 | .fn f caps,v,B,h=>by
  rw[RepV]at h⊢
  obtain⟨hb,cv,e1,hr⟩:=h
  exact⟨hb,cv,e1,RepVs.far hF hr⟩
 | .io _,v,B,h=>by rw[RepV]at h;exact h.elim
 | .xr _ _ _ _,v,B,h=>by rw[RepV]at h⊢;exact h
 | .un,v,B,h=>by rw[RepV]at h⊢;exact h
 | .nd,v,B,h=>by rw[RepV]at h⊢;exact h
theorem RepVs.far {w:World} {E:Nat→Nat} {F F':Nat→Prop} {β:Bm} (hF:∀k,F k→F' k):∀{xs:List AV} {vs:List Value},RepVs w E F β xs vs→RepVs w E F' β xs vs
 | [],vs,h=>by rw[RepVs]at h⊢;exact h
 | x::xs,vs,h=>by
  rw[RepVs]at h⊢
  obtain⟨v,vr,e1,h1,h2⟩:=h
  exact⟨v,vr,e1,RepV.far hF h1,RepVs.far hF h2⟩
end
mutual
theorem RepV.ren {w:World} {E:Nat→Nat} {F:Nat→Prop} {β β':Bm} {ρ:Nat→Nat}:∀{x:AV} {v:Value} {B:List Nat},(∀b g,(b,g)∈x.ptrs→β' (ρ b) 0=β b g)→RepV w E F β x v B→RepV w E F β' (x.ren ρ) v B
 | .t x,v,B,hp,h=>by rw[RepV]at h;rw[AV.ren,RepV];exact h;all_goals simp
 | .tup xs,v,B,hp,h=>by rw[RepV]at h;rw[AV.ren,RepV];exact h;all_goals simp
 | .ptr b g p o,v,B,hp,h=>by
  rw[RepV]at h
  rw[AV.ren,RepV]
  exact⟨by rw[hp b g (by rw[AV.ptrs];exact List.mem_singleton.2 rfl)];exact h.1,h.2.1,Nat.zero_le _⟩
 | .ref x,v,B,hp,h=>by rw[RepV]at h;rw[AV.ren,RepV];exact h;all_goals simp
 | .fref f caps,v,B,hp,h=>by
  rw[RepV]at h
  rw[AV.ren,RepV]
  obtain⟨hb,ad,cv,e1,hs,hc,hr⟩:=h
  exact⟨hb,ad,cv,e1,hs,hc,RepVs.ren (fun b g hm=>hp b g (by rw[AV.ptrs];exact hm)) hr⟩
 | .fn f caps,v,B,hp,h=>by
  rw[RepV]at h
  rw[AV.ren,RepV]
  obtain⟨hb,cv,e1,hr⟩:=h
  exact⟨hb,cv,e1,RepVs.ren (fun b g hm=>hp b g (by rw[AV.ptrs];exact hm)) hr⟩
 | .io _,v,B,hp,h=>by rw[RepV]at h;exact h.elim
 | .xr _ _ _ _,v,B,hp,h=>by rw[RepV]at h;rw[AV.ren,RepV];exact h;all_goals simp
 | .un,v,B,hp,h=>by rw[RepV]at h;rw[AV.ren,RepV];exact h;all_goals simp
 | .nd,v,B,hp,h=>by rw[RepV]at h;rw[AV.ren,RepV];exact h;all_goals simp
theorem RepVs.ren {w:World} {E:Nat→Nat} {F:Nat→Prop} {β β':Bm} {ρ:Nat→Nat}:∀{xs:List AV} {vs:List Value},(∀b g,(b,g)∈ptrss xs→β' (ρ b) 0=β b g)→RepVs w E F β xs vs→RepVs w E F β' (rens ρ xs) vs
 | [],vs,hp,h=>by rw[RepVs]at h;rw[rens,RepVs];exact h
 | x::xs,vs,hp,h=>by
  rw[RepVs]at h
  rw[rens,RepVs]
  obtain⟨v,vr,e1,h1,h2⟩:=h
  exact⟨v,vr,e1,RepV.ren (fun b g hm=>hp b g (by rw[ptrss];exact List.mem_append_left _ hm)) h1,RepVs.ren (fun b g hm=>hp b g (by rw[ptrss];exact List.mem_append_right _ hm)) h2⟩
end
def Fx (e:Ent) (β:Bm) (sb:List Nat) (k:Nat):Prop:=e.F k∨∃b∈sb,k=β b (β.G b)
theorem Fx.left {e:Ent} {β:Bm} {b1 b2:List Nat} (k:Nat) (h:Fx e β b1 k):Fx e β (b1++b2) k:=h.imp id fun⟨b,hb,e1⟩=>⟨b,List.mem_append_left _ hb,e1⟩
theorem Fx.right {e:Ent} {β:Bm} {b1 b2:List Nat} (k:Nat) (h:Fx e β b2 k):Fx e β (b1++b2) k:=h.imp id fun⟨b,hb,e1⟩=>⟨b,List.mem_append_right _ hb,e1⟩
def RepAs (w:World) (E:Nat→Nat) (F:Nat→Prop) (β:Bm):List AV→List Value→List (List Nat)→Prop
 | [],vs,Bs=>vs=[]∧Bs=[]
 | y::ys,vs,Bs=>∃v vr B Br,vs=v::vr∧Bs=B::Br∧RepV w E F β y v B∧RepAs w E F β ys vr Br
theorem RepAs.far {w:World} {E:Nat→Nat} {F F':Nat→Prop} {β:Bm} (hF:∀k,F k→F' k):∀{xs:List AV} {vs:List Value} {Bs:List (List Nat)},RepAs w E F β xs vs Bs→RepAs w E F' β xs vs Bs
 | [],vs,Bs,h=>h
 | x::xs,vs,Bs,⟨v,vr,B,Br,e1,e2,h1,h2⟩=>⟨v,vr,B,Br,e1,e2,h1.far hF,RepAs.far hF h2⟩
theorem RepAs.ren {w:World} {E:Nat→Nat} {F:Nat→Prop} {β β':Bm} {ρ:Nat→Nat}:∀{xs:List AV} {vs:List Value} {Bs:List (List Nat)},(∀b g,(b,g)∈ptrss xs→β' (ρ b) 0=β b g)→RepAs w E F β xs vs Bs→RepAs w E F β' (rens ρ xs) vs Bs
 | [],vs,Bs,hp,h=>h
 | x::xs,vs,Bs,hp,⟨v,vr,B,Br,e1,e2,h1,h2⟩=>by
  rw[rens]
  exact⟨v,vr,B,Br,e1,e2,RepV.ren (fun b g hm=>hp b g (by rw[ptrss];exact List.mem_append_left _ hm)) h1,RepAs.ren (fun b g hm=>hp b g (by rw[ptrss];exact List.mem_append_right _ hm)) h2⟩
theorem RepAs.ofVs {w:World} {E:Nat→Nat} {F:Nat→Prop} {β:Bm}:∀{xs:List AV} {vs:List Value},RepVs w E F β xs vs→RepAs w E F β xs vs (xs.map fun _=>[])
 | [],vs,h=>by rw[RepVs]at h;exact⟨h,rfl⟩
 | x::xs,vs,h=>by
  rw[RepVs]at h
  obtain⟨v,vr,e1,h1,h2⟩:=h
  exact⟨v,vr,[],_,e1,rfl,h1,RepAs.ofVs h2⟩
theorem RepAs.append {w:World} {E:Nat→Nat} {F:Nat→Prop} {β:Bm}:∀{xs ys:List AV} {vs us:List Value} {Bs Cs:List (List Nat)},RepAs w E F β xs vs Bs→RepAs w E F β ys us Cs→RepAs w E F β (xs++ys) (vs++us) (Bs++Cs)
 | [],ys,vs,us,Bs,Cs,h,h'=>by obtain⟨rfl,rfl⟩:=h;exact h'
 | x::xs,ys,vs,us,Bs,Cs,h,h'=>by
  obtain⟨v,vr,B,Br,rfl,rfl,h1,h2⟩:=h
  exact⟨v,vr++us,B,Br++Cs,rfl,rfl,h1,RepAs.append h2 h'⟩
theorem RepAs.len {w:World} {E:Nat→Nat} {F:Nat→Prop} {β:Bm}:∀{xs:List AV} {vs:List Value} {Bs:List (List Nat)},RepAs w E F β xs vs Bs→vs.length=xs.length∧Bs.length=xs.length
 | [],vs,Bs,⟨h1,h2⟩=>by subst h1;subst h2;exact⟨rfl,rfl⟩
 | x::xs,vs,Bs,h=>by
  obtain⟨v,vr,B,Br,rfl,rfl,h1,h2⟩:=h
  obtain⟨k1,k2⟩:=RepAs.len h2
  exact⟨by simp[k1],by simp[k2]⟩
theorem RepAs.get {w:World} {E:Nat→Nat} {F:Nat→Prop} {β:Bm}:∀{xs:List AV} {vs:List Value} {Bs:List (List Nat)} {i:Nat} {x:AV},RepAs w E F β xs vs Bs→xs[i]?=some x→∃v B,vs[i]?=some v∧Bs[i]?=some B∧RepV w E F β x v B
 | [],vs,Bs,i,x,h,hx=>by simp at hx
 | y::xs,vs,Bs,i,x,h,hx=>by
  obtain⟨v,vr,B,Br,rfl,rfl,h1,h2⟩:=h
  cases i with
  | zero=>simp at hx;subst hx;exact⟨v,B,rfl,rfl,h1⟩
  | succ i=>
   obtain⟨v',B',q1,q2,q3⟩:=RepAs.get (i:=i) h2 (by simpa using hx)
   exact⟨v',B',by simpa using q1,by simpa using q2,q3⟩
section
variable {en:Env} {e:Ent} {w:World} {E:Nat→Nat} {β:Bm} {τ:Loc→List Nat} {a:Act} {s s':St} {o:Oper} {r q:List FL} {u:Unit}
theorem zks (h:Sim e w E β τ a s) {x:Operand} (ho:o.op=.nilCheck x) (hf:fire en o s=some (u,s',r,q)):Done en o e w a s':=by
 unfold fire at hf
 rw[ho]at hf
 cases x with
 | tmp i=>
  obtain⟨c,s1,_,_,_,_,h1,h2⟩:=M.bind_some hf
  obtain⟨g1,rfl⟩:=M.za4 h1
  have hv:=(h.tm i c g1).cp
  have hx:∀v,a.tmps.getD i undef=v→(match v with | .pointer (some _)=>True | .func (.func _) _ _=>True | _=>False)→(execOp a.eval o).run en.P w=.ok (.value (a.tmps.getD i undef)) w:=by
   intro v e1 hv
   unfold execOp
   rw[ho]
   dsimp only
   have e2:a.eval (.tmp i)=v:=e1
   rw[e2,e1]
   revert hv
   cases v with
   | pointer p=>cases p<;>intro hv<;>first | exact hv.elim | rfl
   | func g _ _=>cases g<;>intro hv<;>first | exact hv.elim | rfl
   | _=>intro hv;exact hv.elim
  cases hcv:c.val with
  | ptr b g p k=>
   rw[hcv]at h2 hv
   obtain⟨τ',k1⟩:=Sim.wr h h2 hv zd1 zdP
   have hv':RepV w E e.F β (.ptr b g p k) (a.tmps.getD i undef) []:=hv
   rw[RepV]at hv'
   exact⟨_,_,w,E,β,τ',hx _ hv'.1 trivial,.inl rfl,k1⟩
  | ref y=>
   rw[hcv]at h2 hv
   obtain⟨τ',k1⟩:=Sim.wr h h2 hv zd1 zdP
   have hv':RepV w E e.F β (.ref y) (a.tmps.getD i undef) []:=hv
   rw[RepV]at hv'
   obtain⟨_,ad,e1,_⟩:=hv'
   exact⟨_,_,w,E,β,τ',hx _ e1 trivial,.inl rfl,k1⟩
  | fn f caps=>
   rw[hcv]at h2 hv
   obtain⟨τ',k1⟩:=Sim.wr h h2 hv zd1 zdP
   have hv':RepV w E e.F β (.fn f caps) (a.tmps.getD i undef) []:=hv
   rw[RepV]at hv'
   obtain⟨_,cv,e1,_⟩:=hv'
   exact⟨_,_,w,E,β,τ',hx _ e1 trivial,.inl rfl,k1⟩
  | _=>simp only[hcv]at h2;exact(M.zt h2).elim
 | const v=>exact(M.zt (s:=s) hf).elim
 | global g=>exact(M.zt (s:=s) hf).elim
 | func g=>exact(M.zt (s:=s) hf).elim
theorem zlW (h:Sim e w E β τ a s) {wri:Bool} {x y:AV} {sb:List Nat} {v:Value} {B:List Nat} (hv:RepV w E e.F β x v B) (hr:seal1 wri x s=some ((y,sb),s',r,q)):s=s'∧RepV w E (Fx e β sb) β y v B:=by
 have easy:∀{r q:List FL},M.pure (x,([]:List Nat)) s=some ((y,sb),s',r,q)→s=s'∧RepV w E (Fx e β sb) β y v B:=by
  intro r q hp
  obtain⟨e1,rfl⟩:=M.zO hp
  cases e1
  exact⟨rfl,hv.far fun k hk=>.inl hk⟩
 cases x with
 | ptr b g p k=>
  cases wri with
  | true=>exact easy hr
  | false=>
   obtain⟨d,s1,_,_,_,_,h1,h2⟩:=M.bind_some hr
   obtain⟨g1,rfl⟩:=M.za4 h1
   by_cases hg:(d.gen==g)=true
   case neg=>rw[if_neg hg]at h2;exact(M.zt h2).elim
   rw[if_pos hg]at h2
   have hg':d.gen=g:=by simpa using hg
   have hG:d.gen=β.G b:=h.gn b d g1
   rw[RepV]at hv
   obtain⟨e1,rfl,_⟩:=hv
   have far:∀n,Stable E (Fx e β [b]) ⟨β b g,0,none⟩ n:=fun n=>.inr (.inr ⟨b,List.mem_singleton.2 rfl,by rw[←hG,hg']⟩)
   cases p with
   | cons _ _=>exact(M.zt h2).elim
   | nil=>
    cases k with
    | succ _=>exact(M.zt h2).elim
    | zero=>
     cases hdv:d.val with
     | t z=>
      simp only[hdv]at h2
      obtain⟨e2,rfl⟩:=M.zO h2
      cases e2
      obtain⟨cells,ty,k1,k2,k3,k4⟩:=h.bx b d g1 (by rw[hdv];exact fun h=>(by cases h))
      rw[hdv]at k2
      refine⟨rfl, ?_⟩
      rw[RepV]
      refine⟨rfl,_,e1,cells.toList,Rep.sh k2,far _,fun j u hj=> ?_⟩
      rw[zf3,Nat.zero_add]
      exact ze5 (by rw[←hg'];simpa using k1) hj
     | fn f caps=>
       simp only[hdv]at h2
       obtain⟨e2,rfl⟩:=M.zO h2
       cases e2
       obtain⟨cells,ty,k1,k2,k3,k4⟩:=h.bx b d g1 (by rw[hdv];exact fun h=>(by cases h))
       rw[hdv]at k2
       obtain⟨u,q1,q2⟩:=k2
       rw[RepV]at q2
       obtain⟨_,cv,q3,q4⟩:=q2
       refine⟨rfl, ?_⟩
       rw[RepV]
       refine⟨rfl,_,cv,e1,far _, ?_,q4.far fun k hk=>.inl hk⟩
       refine ze5 (cs:=cells.toList) (by rw[←hg'];simpa using k1) ?_
       rw[q1,q3]
       rfl
     | _=>simp only[hdv]at h2;exact(M.zt h2).elim
 | _=>exact easy hr
theorem zgI (h:Sim e w E β τ a s) {f:FuncId}:∀{i:Nat} {xs ys:List AV} {sb:List Nat} {vs:List Value} {s':St} {r q:List FL},RepVs w E e.F β xs vs→seals en f i xs s=some ((ys,sb),s',r,q)→s=s'∧RepVs w E (Fx e β sb) β ys vs
 | i,[],ys,sb,vs,s',r,q,hv,hr=>by
  obtain⟨e1,rfl⟩:=M.zO (s:=s) hr
  cases e1
  rw[RepVs]at hv
  exact⟨rfl,by rw[RepVs];exact hv⟩
 | i,x::xs,ys,sb,vs,s',r,q,hv,hr=>by
  rw[RepVs]at hv
  obtain⟨v,vr,rfl,v1,v2⟩:=hv
  obtain⟨⟨y,b1⟩,s1,_,_,_,_,h1,h2⟩:=M.bind_some hr
  obtain⟨rfl,k1⟩:=zlW h v1 h1
  obtain⟨⟨yr,b2⟩,s2,_,_,_,_,h3,h4⟩:=M.bind_some h2
  obtain⟨rfl,k2⟩:=zgI h v2 h3
  obtain⟨e1,rfl⟩:=M.zO h4
  cases e1
  refine⟨rfl, ?_⟩
  rw[RepVs]
  exact⟨v,vr,rfl,k1.far Fx.left,k2.far Fx.right⟩
theorem zlX (h : Sim e w E β τ a s) {f : FuncId} {i : Nat} {x : Operand} {t : TypeId} {y : AV} {sb : List Nat} (hr : rdArg en f i x t s = some ((y, sb), s', r, q)) :
  ∃τ' B,Sim e w E β τ' a s'∧RepV w E (Fx e β sb) β y (a.eval x) B∧Free e w β τ' s' B∧(∀k∈B,∃l,k∈τ l)∧∀B0,Free e w β τ s B0→Free e w β τ' s' B0:=by
 have easy:∀{r q:List FL},(do let y←rdO en t x;M.pure (y,([]:List Nat)):M (AV × List Nat)) s=some ((y,sb),s',r,q)→∃τ' B,Sim e w E β τ' a s'∧RepV w E (Fx e β sb) β y (a.eval x) B∧Free e w β τ' s' B∧(∀k∈B,∃l,k∈τ l)∧∀B0,Free e w β τ s B0→Free e w β τ' s' B0:=by
  intro r q hp
  obtain⟨z,s1,_,_,_,_,h1,h2⟩:=M.bind_some hp
  obtain⟨rfl,hv⟩:=zd8 h h1
  obtain⟨e1,rfl⟩:=M.zO h2
  cases e1
  exact⟨τ,[],h,hv.far fun k hk=>.inl hk,zd1,fun k hk=>(by cases hk),fun _ h=>h⟩
 cases x with
 | tmp j=>
  obtain⟨c,s1,_,_,_,_,h1,h2⟩:=M.bind_some hr
  obtain⟨g1,rfl⟩:=M.za4 h1
  have hc:=(h.tm j c g1).cp
  obtain⟨val,og,ver,gen⟩:=c
  have rest:∀{r q:List FL},(if en.own f i=true then(do let y←takeO j;M.pure (y,([]:List Nat)):M (AV × List Nat))else(do let y←rdO en t (.tmp j);M.pure (y,[]))) s=some ((y,sb),s',r,q)→∃τ' B,Sim e w E β τ' a s'∧RepV w E (Fx e β sb) β y (a.eval (.tmp j)) B∧Free e w β τ' s' B∧(∀k∈B,∃l,k∈τ l)∧∀B0,Free e w β τ s B0→Free e w β τ' s' B0:=by
   intro r q hp
   by_cases ho:en.own f i=true
   ·rw[if_pos ho]at hp
    obtain⟨z,s1,_,_,_,_,h3,h4⟩:=M.bind_some hp
    obtain⟨⟨τ',B,k1,k2,k3⟩,_⟩:=zgH h h3
    obtain⟨e1,rfl⟩:=M.zO h4
    cases e1
    exact⟨τ',B,k1,k2.far fun k hk=>.inl hk,k3⟩
   ·rw[if_neg ho]at hp
    exact easy hp
  cases val with
  | fn g caps=>
   obtain⟨⟨cs,b1⟩,s2,_,_,_,_,h3,h4⟩:=M.bind_some h2
   have hc':RepV w E e.F β (.fn g caps) (a.tmps.getD j undef) []:=hc
   rw[RepV]at hc'
   obtain⟨_,cv,e1,e2⟩:=hc'
   obtain⟨rfl,k1⟩:=zgI h e2 h3
   obtain⟨e3,rfl⟩:=M.zO h4
   cases e3
   exact⟨τ,[],h,by rw[RepV];exact⟨rfl,cv,e1,k1⟩,zd1,fun k hk=>(by cases hk),fun _ h=>h⟩
  | _=>exact rest h2
 | const v=>exact easy hr
 | global g=>exact easy hr
 | func g=>exact easy hr
theorem Free.cat {B0 B1:List Nat} (h:Free e w β τ s B0) (h':Free e w β τ s B1) (hd:∀k∈B1,k∉B0):Free e w β τ s (B0++B1):=by
 have:=Free.join (B1:=B0) (B2:=[]) (B3:=[]) (C:=B1) (by simpa using h) h' (by simpa using hd)
 simpa using this
theorem zhP {f:FuncId}:∀{xs:List (Operand × TypeId)} {i:Nat} {τ:Loc→List Nat} {s:St} {ys:List AV} {sb:List Nat} {s':St} {r q:List FL} {B0:List Nat},Sim e w E β τ a s→Free e w β τ s B0→zie en f i xs s=some ((ys,sb),s',r,q)→
  ∃τ' Bs,Sim e w E β τ' a s'∧RepAs w E (Fx e β sb) β ys (xs.map fun p=>a.eval p.1) Bs∧Free e w β τ' s' (B0++Bs.flatten)
 | [],i,τ,s,ys,sb,s',r,q,B0,h,h0,hr=>by
  obtain⟨e1,rfl⟩:=M.zO (s:=s) hr
  cases e1
  exact⟨τ,[],h,⟨rfl,rfl⟩,by simpa using h0⟩
 | (x,t)::xs,i,τ,s,ys,sb,s',r,q,B0,h,h0,hr=>by
  obtain⟨⟨y,b1⟩,s1,_,_,_,_,h1,h2⟩:=M.bind_some hr
  obtain⟨τ1,B,k1,k2,k3,k4,k5⟩:=zlX h h1
  obtain⟨⟨yr,b2⟩,s2,_,_,_,_,h3,h4⟩:=M.bind_some h2
  have hf:Free e w β τ1 s1 (B0++B):=Free.cat (k5 B0 h0) k3 fun k hk hk0=>by
   obtain⟨l,hl⟩:=k4 k hk
   exact(h0.2 k hk0).2.2.1 l hl
  obtain⟨τ2,Bs,m1,m2,m3⟩:=zhP k1 hf h3
  obtain⟨e1,rfl⟩:=M.zO h4
  cases e1
  exact⟨τ2,B::Bs,m1,⟨_,_,B,Bs,rfl,rfl,k2.far Fx.left,m2.far Fx.right⟩,by rw[List.flatten_cons,←List.append_assoc];exact m3⟩
end
end Go.Proofs.YtgmidllbkjdnnaaGreatDoor.Flat
namespace Go.Proofs.YtgmidllbkjdnnaaGreatDoor.Flat
set_option linter.unusedVariables false
set_option linter.unusedSimpArgs false
set_option linter.unusedSectionVars false
variable [Glob]
structure Hand (e:Ent) (w:World) (E:Nat→Nat) (β:Bm) (τ:Loc→List Nat) (s:St) (B:List Nat) (bs:List Nat) (xs:List AV) (Bf:List (List Nat)):Prop where
 free:Free e w β τ s (B++Bf.flatten)
 lx:xs.length=bs.length
 lb:Bf.length=bs.length
 at_:∀(i b:Nat),bs[i]?=some b→∃(x:T) (cells:Array Value) (ty:TypeId) (Bi:List Nat),xs[i]?=some (AV.t x)∧Bf[i]?=some Bi∧w.heap[β b (β.G b)]?=some (.cells cells ty (0,0))∧Rep w E x cells.toList Bi∧E (β b (β.G b))=0∧(e.w.heap.size≤β b (β.G b)∨β b (β.G b)∈e.M)
 out:∀b∈bs,(∀l,β b (β.G b)∉τ l)∧β b (β.G b)∉B++Bf.flatten∧(∀j c,s.bx[j]?=some c→c.val≠ .un→β j c.gen≠β b (β.G b))∧∃d,s.bx[b]?=some d∧d.val=.un
 nod:(bs.map fun b=>β b (β.G b)).Nodup
theorem zgi {α:Type} {l:List α} {x:α} (h:x∈l):∃i:Nat,l[i]?=some x:=by
 obtain⟨i,h1,h2⟩:=List.mem_iff_getElem.1 h
 exact⟨i,by rw[List.getElem?_eq_getElem h1,h2]⟩
section
variable {en:Env} {e:Ent} {w:World} {E:Nat→Nat} {β:Bm} {τ:Loc→List Nat} {a:Act} {s s':St} {o:Oper} {r q:List FL} {u:Unit}
theorem Free.sub {B B':List Nat} (h:Free e w β τ s B) (hs:∀k∈B',k∈B) (hn:B'.Nodup):Free e w β τ s B':=⟨hn,fun k hk=>h.2 k (hs k hk)⟩
theorem zoG (h : Sim e w E β τ a s) {B : List Nat} {bs : List Nat} {xs : List AV} {Bf : List (List Nat)} (hh : Hand e w E β τ s B bs xs Bf) {b : Nat} {d : Cell} (hd : s.get (.bx b) = some d) {x : T} (hx : d.val = .t x) :
  Sim e w E β (upT τ (.bx b) []) a (s.put (.bx b) {d with val:=.un})∧Hand e w E β (upT τ (.bx b) []) (s.put (.bx b) {d with val:=.un}) B (bs++[b]) (xs++[.t x]) (Bf++[τ (.bx b)]):=by
 have hun:d.val≠ .un:=by rw[hx];exact fun h=>by cases h
 have hd':s.bx[b]?=some d:=hd
 have hG:d.gen=β.G b:=h.gn b d hd'
 obtain⟨cells,ty,k1,k2,k3,k4⟩:=h.bx b d hd' hun
 rw[hx]at k2
 have gbx:=zju (c':={d with val:=.un}) hd
 have sub:∀l k,k∈upT τ (.bx b) [] l→k∈τ l:=by
  intro l k hk
  by_cases hl:l=.bx b
  ·rw[hl,zbG]at hk;cases hk
  ·rw[zaE τ [] hl]at hk;exact hk
 have fr1:Free e w β (upT τ (.bx b) []) (s.put (.bx b) {d with val:=.un}) (B++Bf.flatten):=Free.val hh.free hd (x':=.un) (fun k hk=>by cases hk) (fun _ _=>hun)
 have fr2:Free e w β (upT τ (.bx b) []) (s.put (.bx b) {d with val:=.un}) (τ (.bx b)):=h.free hd (x':=.un) (fun k hk=>⟨hk,fun h=>by cases h⟩) (h.nod _) (fun _ _=>hun)
 have hne:∀b'∈bs,b'≠b:=by
  intro b' hb' e1
  obtain⟨_,_,_,d2,q1,q2⟩:=hh.out b' hb'
  rw[e1,hd']at q1
  cases q1
  exact hun q2
 refine⟨h.unBox hd, ?_,by simp[hh.lx],by simp[hh.lb],fun i b' hb'=> ?_,fun b' hb'=> ?_, ?_⟩
 ·have:=Free.cat fr1 fr2 (fun k hk hk0=>(hh.free.2 k hk0).2.2.1 _ hk)
  simpa using this
 ·rcases Nat.lt_or_ge i bs.length with hi | hi
  ·rw[List.getElem?_append_left hi]at hb'
   obtain⟨y,cells',ty',Bi,q1,q2,q3⟩:=hh.at_ i b' hb'
   exact⟨y,cells',ty',Bi,by rw[List.getElem?_append_left (by rw[hh.lx];exact hi)];exact q1,by rw[List.getElem?_append_left (by rw[hh.lb];exact hi)];exact q2,q3⟩
  ·rw[List.getElem?_append_right hi]at hb'
   have hi0:i-bs.length=0:=by
    have:=(List.getElem?_eq_some_iff.1 hb').1
    simp at this
    omega
   rw[hi0]at hb'
   simp at hb'
   subst hb'
   have hi':i=bs.length:=by omega
   subst hi'
   refine⟨x,cells,ty,τ (.bx b), ?_, ?_,by rw[←hG];exact k1,k2,by rw[←hG];exact k3,by rw[←hG];exact k4⟩
   ·rw[←hh.lx];simp
   ·rw[←hh.lb];simp
 ·rcases List.mem_append.1 hb' with hb' | hb'
  ·obtain⟨q1,q2,q3,d2,q4,q5⟩:=hh.out b' hb'
   refine⟨fun l hl=>q1 l (sub l _ hl), ?_,fun j c hc hv=> ?_,d2, ?_,q5⟩
   ·simp only[List.flatten_append,List.flatten_cons,List.flatten_nil,List.append_nil,←List.append_assoc]
    intro hk
    rcases List.mem_append.1 hk with hk | hk
    ·exact q2 hk
    ·exact q1 _ hk
   ·rcases gbx j c hc with ⟨rfl,rfl⟩ | ⟨hj,hc'⟩
    ·exact absurd rfl hv
    ·exact q3 j c hc' hv
   ·rw[←q4]
    exact St.zd2 s b _ (.bx b') (fun e1=>hne b' hb' (by injection e1))
  ·rw[List.mem_singleton]at hb'
   subst hb'
   refine⟨fun l hl=> ?_, ?_,fun j c hc hv=> ?_,{d with val:=.un},St.get_put s (.bx b') _ d hd,rfl⟩
   ·exact h.tb l _ b' d (by rw[hG];exact sub l _ hl) hd' hun rfl
   ·simp only[List.flatten_append,List.flatten_cons,List.flatten_nil,List.append_nil,←List.append_assoc]
    intro hk
    rcases List.mem_append.1 hk with hk | hk
    ·exact(hh.free.2 _ hk).2.2.2 b' d hd' hun (by rw[hG])
    ·exact h.tb _ _ b' d hk hd' hun (by rw[hG])
   ·rcases gbx j c hc with ⟨rfl,rfl⟩ | ⟨hj,hc'⟩
    ·exact absurd rfl hv
    ·intro e1
     exact hj (h.bb j b' c d hc' hd' hv hun (by rw[hG];exact e1))
 ·rw[List.map_append,List.nodup_append]
  refine⟨hh.nod,by simp,fun x hx y hy e1=> ?_⟩
  obtain⟨b',hb',rfl⟩:=List.mem_map.1 hx
  simp at hy
  subst hy
  obtain⟨q1,q2,q3,_⟩:=hh.out b' hb'
  exact q3 b d hd' hun (by rw[hG];exact e1.symm)
theorem zgJ {ps:List (Nat × Nat)}:∀{bs:List Nat} {τ:Loc→List Nat} {s:St} {ys:List AV} {s':St} {r q:List FL} {B bs0:List Nat} {xs0:List AV} {Bf0:List (List Nat)},
  Sim e w E β τ a s→Hand e w E β τ s B bs0 xs0 Bf0→handOver ps bs s=some (ys,s',r,q)→
  ∃τ' Bf,Sim e w E β τ' a s'∧Hand e w E β τ' s' B (bs0++bs) (xs0++ys) (Bf0++Bf)∧(∀b∈bs,∀p∈ps,p.1=b→p.2=β.G b)
 | [],τ,s,ys,s',r,q,B,bs0,xs0,Bf0,h,hh,hr=>by
  obtain⟨rfl,rfl⟩:=M.zO (s:=s) hr
  exact⟨τ,[],h,by simpa using hh,fun b hb=>by cases hb⟩
 | b::bs,τ,s,ys,s',r,q,B,bs0,xs0,Bf0,h,hh,hr=>by
  obtain⟨d,s1,_,_,_,_,h1,h2⟩:=M.bind_some hr
  obtain⟨g1,rfl⟩:=M.za4 h1
  obtain⟨_,s2,_,_,_,_,h3,h4⟩:=M.bind_some h2
  obtain⟨g3,rfl⟩:=M.zam h3
  cases hdv:d.val with
  | t x=>
   simp only[hdv]at h4
   obtain⟨_,s3,_,_,_,_,h5,h6⟩:=M.bind_some h4
   obtain⟨_,rfl⟩:=M.zeJ h5
   obtain⟨yr,s4,_,_,_,_,h7,h8⟩:=M.bind_some h6
   obtain⟨k1,k2⟩:=zoG h hh g1 hdv
   obtain⟨τ',Bf,m1,m2,m3⟩:=zgJ k1 k2 h7
   obtain⟨rfl,rfl⟩:=M.zO h8
   refine⟨τ',τ (.bx b)::Bf,m1,by simpa using m2,fun b' hb' p hp e1=> ?_⟩
   rcases List.mem_cons.1 hb' with rfl | hb'
   ·have:=List.all_eq_true.1 g3 p hp
    simp[e1]at this
    rw[this]
    exact h.gn b' d g1
   ·exact m3 b' hb' p hp e1
  | _=>simp only[hdv]at h4;exact(M.zt h4).elim
theorem zjy:∀{bs:List Nat} {s s':St} {r q:List FL} {u:Unit},held bs s=some (u,s',r,q)→s=s'∧∀b∈bs,∃d,s.bx[b]?=some d∧d.val≠ .un
 | [],s,s',r,q,u,hr=>by
  obtain⟨_,rfl⟩:=M.zO (s:=s) hr
  exact⟨rfl,fun b hb=>by cases hb⟩
 | b::bs,s,s',r,q,u,hr=>by
  obtain⟨d,s1,_,_,_,_,h1,h2⟩:=M.bind_some hr
  obtain⟨g1,rfl⟩:=M.za4 h1
  have hv:d.val≠ .un∧∃r' q',held bs s=some (u,s',r',q'):=by
   cases hdv:d.val with
   | un=>simp only[hdv]at h2;exact(M.zt h2).elim
   | _=>simp only[hdv]at h2;exact⟨fun h=>(by cases h),_,_,h2⟩
  obtain⟨hv,_,_,h3⟩:=hv
  obtain⟨rfl,k⟩:=zjy h3
  refine⟨rfl,fun b' hb'=> ?_⟩
  rcases List.mem_cons.1 hb' with rfl | hb'
  ·exact⟨d,g1,hv⟩
  ·exact k b' hb'
theorem zhQ:∀{bs:List Nat} {τ:Loc→List Nat} {s:St} {xs:List AV} {Bf:List (List Nat)} {s':St} {r q:List FL} {u:Unit} {B:List Nat},
  Sim e w E β τ a s→Hand e w E β τ s B bs xs Bf→zjf bs xs s=some (u,s',r,q)→∃τ',Sim e w E β τ' a s'∧Free e w β τ' s' B
 | [],τ,s,xs,Bf,s',r,q,u,B,h,hh,hr=>by
  have hx:xs=[]:=List.length_eq_zero_iff.1 (by rw[hh.lx];rfl)
  subst hx
  obtain⟨_,rfl⟩:=M.zO (s:=s) hr
  exact⟨τ,h,hh.free.sub (fun k hk=>List.mem_append_left _ hk) (List.nodup_append.1 hh.free.1).1⟩
 | b::bs,τ,s,xs,Bf,s',r,q,u,B,h,hh,hr=>by
  obtain⟨x,cells,ty,Bi,k1,k2,k3,k4,k5,k6⟩:=hh.at_ 0 b rfl
  obtain⟨o1,o2,o3,d,o4,o5⟩:=hh.out b (List.mem_cons_self ..)
  cases xs with
  | nil=>simp at k1
  | cons y xs=>
   cases Bf with
   | nil=>simp at k2
   | cons B1 Bf=>
    simp at k1 k2
    subst k1
    subst k2
    obtain⟨d',s1,_,_,_,_,h1,h2⟩:=M.bind_some hr
    obtain⟨g1,rfl⟩:=M.za4 h1
    have e1:d'=d:=Option.some.inj ((show s.bx[b]?=some d' from g1).symm.trans o4)
    subst e1
    obtain⟨_,s2,_,_,_,_,h3,h4⟩:=M.bind_some h2
    obtain⟨_,rfl⟩:=M.zeJ h3
    have hG:d'.gen=β.G b:=h.gn b d' o4
    have nd:=hh.free.1
    rw[List.flatten_cons,List.nodup_append]at nd
    obtain⟨n1,n2,n3⟩:=nd
    rw[List.nodup_append]at n2
    obtain⟨n4,n5,n6⟩:=n2
    have hBi:∀k∈B1,k∈B++(B1::Bf).flatten:=fun k hk=>by simp[hk]
    have frB:Free e w β τ s B1:=hh.free.sub hBi n4
    have nm:=hh.nod
    rw[List.map_cons,List.nodup_cons]at nm
    have hs:=h.setB (c':={d' with val:=.t x,ver:=d'.ver+1}) g1 rfl (Nat.le_succ _) frB (fun _=>⟨cells,ty,by rw[hG];exact k3,k4,by rw[hG];exact k5,by rw[hG];exact k6,fun hk=>o2 (hBi _ (by rw[←hG];exact hk)),fun l=>by rw[hG];exact o1 l,fun j c hj hc hv=>by rw[hG];exact o3 j c hc hv⟩) (fun hv=>by have:d'.ver+1=d'.ver:=hv;omega)
    have gbx:=zju (c':={d' with val:=.t x,ver:=d'.ver+1}) g1
    refine zhQ hs (B:=B) ⟨⟨?_,fun k hk=> ?_⟩,by have:=hh.lx;simpa using this,by have:=hh.lb;simpa using this,fun i b' hb'=> ?_,fun b' hb'=> ?_,nm.2⟩ h4
    ·rw[List.nodup_append]
     exact⟨n1,n5,fun x hx y hy=>n3 x hx y (List.mem_append_right _ hy)⟩
    ·have hk':k∈B++(B1::Bf).flatten:=by
      rcases List.mem_append.1 hk with hk | hk
      ·exact List.mem_append_left _ hk
      ·rw[List.flatten_cons];exact List.mem_append_right _ (List.mem_append_right _ hk)
     obtain⟨q1,q2,q3,q4⟩:=hh.free.2 k hk'
     refine⟨q1,q2,fun l hl=> ?_,fun j c hc hv=> ?_⟩
     ·by_cases hlb:l=.bx b
      ·rw[hlb,zbG]at hl
       rcases List.mem_append.1 hk with hk | hk
       ·exact n3 k hk k (List.mem_append_left _ hl) rfl
       ·exact n6 k hl k hk rfl
      ·rw[zaE τ B1 hlb]at hl;exact q3 l hl
     ·rcases gbx j c hc with ⟨rfl,rfl⟩ | ⟨hj,hc'⟩
      ·show k≠β j d'.gen
       rw[hG]
       exact fun e1=>o2 (e1 ▸ hk')
      ·exact q4 j c hc' hv
    ·obtain⟨x',cells',ty',Bi',q1,q2,q3⟩:=hh.at_ (i+1) b' (by simpa using hb')
     exact⟨x',cells',ty',Bi',by simpa using q1,by simpa using q2,q3⟩
    ·obtain⟨q1,q2,q3,d2,q4,q5⟩:=hh.out b' (List.mem_cons_of_mem _ hb')
     have hne:β b' (β.G b')≠β b (β.G b):=fun e1=>nm.1 (List.mem_map.2 ⟨b',hb',e1⟩)
     refine⟨fun l hl=> ?_,fun hk=>q2 ?_,fun j c hc hv=> ?_,d2, ?_,q5⟩
     ·by_cases hlb:l=.bx b
      ·rw[hlb,zbG]at hl
       exact q2 (hBi _ hl)
      ·rw[zaE τ B1 hlb]at hl;exact q1 l hl
     ·rcases List.mem_append.1 hk with hk | hk
      ·exact List.mem_append_left _ hk
      ·rw[List.flatten_cons];exact List.mem_append_right _ (List.mem_append_right _ hk)
     ·rcases gbx j c hc with ⟨rfl,rfl⟩ | ⟨hj,hc'⟩
      ·show β j d'.gen≠_
       rw[hG]
       exact hne.symm
      ·exact q3 j c hc' hv
     ·rw[←q4]
      exact St.zd2 s b _ (.bx b') (fun e1=>hne (by injection e1 with e1;rw[e1]))
end
end Go.Proofs.YtgmidllbkjdnnaaGreatDoor.Flat
namespace Go.Proofs.YtgmidllbkjdnnaaGreatDoor.Flat
set_option linter.unusedVariables false
set_option linter.unusedSimpArgs false
set_option linter.unusedSectionVars false
variable [Glob]
def argSt (args fb:List AV):St:=⟨args.map (⟨·,none,0,0⟩),fb.map (⟨·,none,0,0⟩)⟩
def zfN (P:Program) (f:FuncId) (vs:Array Value) (w:World) (R:Value→World→Prop):Prop:=
 (∃fn,P.funcs[f]?=some fn∧fn.body.isSome=true∧(fn.name== "runtime.NumGoroutine")=false∧Calls P f vs w fun
  | .returned v,w'=>R v w'
  | _,_=>False)∨
 (∃v w',(callFunc f vs).run P w=.ok (.value v) w'∧R v w')
theorem zfN.mono {P:Program} {f:FuncId} {vs:Array Value} {w:World} {R R':Value→World→Prop} (h:zfN P f vs w R) (hr:∀v w',R v w'→R' v w'):zfN P f vs w R':=by
 rcases h with ⟨fn,h1,h2,h3,h4⟩ | ⟨v,w',h1,h2⟩
 ·refine .inl ⟨fn,h1,h2,h3,h4.mono fun e w' h=> ?_⟩
  cases e with
  | returned v=>exact hr v w' h
  | _=>exact h
 ·exact .inr ⟨v,w',h1,hr v w' h2⟩
def blks (β:Bm) (n:Nat):List Nat:=(List.range n).map fun i=>β i 0
structure After (w:World) (E:Nat→Nat) (β:Bm) (Ba:List Nat) (n:Nat) (r:AV) (outs:List AV) (v:Value) (w':World) (E':Nat→Nat) (B:List Nat) (Bf:List (List Nat)):Prop where
 fr:Fr w E w' E' Ba (blks β n)
 z:∀k,w'.heap.size≤k→E' k=0
 v:RepV w' E' (fun _=>False) ⟨fun _ _=>0,fun _=>0⟩ r v B
 lo:outs.length=n
 lb:Bf.length=n
 at_:∀(i:Nat),i < n→∃(x:T) (cells:Array Value) (ty:TypeId) (Bi:List Nat),outs[i]?=some (AV.t x)∧Bf[i]?=some Bi∧w'.heap[β i 0]?=some (.cells cells ty (0,0))∧Rep w' E' x cells.toList Bi∧E' (β i 0)=0
 nod:(B++Bf.flatten).Nodup
 tok:∀k∈B++Bf.flatten,k < w'.heap.size∧(w.heap.size≤k∨k∈Ba)
def zeQ (P:Program) (f:FuncId) (args fb:List AV) (r:AV) (outs:List AV):Prop:=
 ∀(w:World) (E:Nat→Nat) (β:Bm) (τ:Loc→List Nat) (Ba:List Nat) (vs:List Value) (gok:GlOk w Ba (blks β fb.length)),(∀x∈args,x.handed=true)→(∀p∈ptrss args,p.1 < fb.length∧p.2=0)→(∀x∈fb,∃y,x=AV.t y)→(∀k∈Ba,∃l,k∈τ l)→(∀i j,i < fb.length→j < fb.length→β i 0=β j 0→i=j)→
  Sim ⟨w,E,Ba,blks β fb.length,fun _=>none,gok⟩ w E β τ ⟨vs.toArray,[]⟩ (argSt args fb)→
  zfN P f vs.toArray w fun v w'=>∃E' B Bf,After w E β Ba fb.length r outs v w' E' B Bf
theorem zn3 {w:World} {E:Nat→Nat} {F F':Nat→Prop} {β β':Bm} {r:AV} {v:Value} {B:List Nat} (hr:r.plain=true) (h:RepV w E F β r v B):RepV w E F' β' r v B:=by
 cases r with
 | t x=>rw[RepV]at h⊢;exact h
 | tup xs=>rw[RepV]at h⊢;exact h
 | _=>cases hr
theorem zhR:∀{bs:List Nat} {b:Nat},b∈uniq bs↔b∈bs
 | [],b=>Iff.rfl
 | c::bs,b=>by
  rw[uniq]
  split
  ·rename_i hc
   rw[zhR,List.mem_cons]
   constructor
   ·exact fun h=>.inr h
   ·rintro (rfl | h)
    ·exact zhR.1 hc
    ·exact h
  ·rw[List.mem_cons,List.mem_cons,zhR]
theorem zim:∀{bs:List Nat} {b:Nat},b∈bs→bs[posOf bs b]?=some b
 | [],b,h=>by cases h
 | c::bs,b,h=>by
  rw[posOf]
  split
  ·rename_i hb;rw[hb];rfl
  ·rename_i hb
   rw[List.getElem?_cons_succ]
   rcases List.mem_cons.1 h with rfl | h
   ·exact absurd rfl hb
   ·exact zim h
theorem zjz:∀{Bs:List (List Nat)},Bs.flatten.Nodup→(∀(i:Nat) (B:List Nat),Bs[i]?=some B→B.Nodup)∧(∀(i j:Nat) (B C:List Nat) (k:Nat),Bs[i]?=some B→Bs[j]?=some C→k∈B→k∈C→i=j)
 | [],h=>⟨fun i B hB=>by simp at hB,fun i j B C k hB=>by simp at hB⟩
 | A::Bs,h=>by
  rw[List.flatten_cons,List.nodup_append]at h
  obtain⟨h1,h2,h3⟩:=h
  obtain⟨k1,k2⟩:=zjz h2
  have mem:∀(j:Nat) (C:List Nat) (k:Nat),Bs[j]?=some C→k∈C→k∈Bs.flatten:=fun j C k hC hk=>List.mem_flatten.2 ⟨C,List.mem_of_getElem? hC,hk⟩
  refine⟨fun i B hB=> ?_,fun i j B C k hB hC hkB hkC=> ?_⟩
  ·cases i with
   | zero=>simp at hB;rw[←hB];exact h1
   | succ i=>exact k1 i B (by simpa using hB)
  ·cases i with
   | zero=>
    cases j with
    | zero=>rfl
    | succ j=>
     simp at hB hC
     subst hB
     exact absurd rfl (h3 k hkB k (mem j C k hC hkC))
   | succ i=>
    cases j with
    | zero=>
     simp at hB hC
     subst hC
     exact absurd rfl (h3 k hkC k (mem i B k hB hkB))
    | succ j=>
     simp at hB hC
     rw[k2 i j B C k hB hC hkB hkC]
theorem zgK {ρ:Nat→Nat}:∀{xs:List AV} {i:Nat},(rens ρ xs)[i]?=(xs[i]?).map (AV.ren ρ)
 | [],i=>by rw[rens];simp
 | x::xs,i=>by
  rw[rens]
  cases i with
  | zero=>simp
  | succ i=>simpa using zgK
theorem zgL {ρ:Nat→Nat}:∀{xs:List AV},(rens ρ xs).length=xs.length
 | []=>by rw[rens]
 | x::xs=>by rw[rens,List.length_cons,List.length_cons,zgL]
mutual
theorem zoH {ρ:Nat→Nat}:∀{x:AV} {p:Nat × Nat},p∈(x.ren ρ).ptrs→p.2=0∧∃q∈x.ptrs,p.1=ρ q.1
 | .t x,p,h=>by rw[AV.ren]at h;rw[AV.ptrs]at h;cases h;all_goals simp
 | .tup x,p,h=>by rw[AV.ren]at h;rw[AV.ptrs]at h;cases h;all_goals simp
 | .ptr b g o n,p,h=>by
  rw[AV.ren,AV.ptrs,List.mem_singleton]at h
  subst h
  exact⟨rfl,(b,g),by rw[AV.ptrs];exact List.mem_singleton.2 rfl,rfl⟩
 | .ref x,p,h=>by rw[AV.ren]at h;rw[AV.ptrs]at h;cases h;all_goals simp
 | .fref f cs,p,h=>by
  rw[AV.ren,AV.ptrs]at h
  obtain⟨h1,q,h2,h3⟩:=zg8 h
  exact⟨h1,q,by rw[AV.ptrs];exact h2,h3⟩
 | .fn f cs,p,h=>by
  rw[AV.ren,AV.ptrs]at h
  obtain⟨h1,q,h2,h3⟩:=zg8 h
  exact⟨h1,q,by rw[AV.ptrs];exact h2,h3⟩
 | .io x,p,h=>by rw[AV.ren]at h;rw[AV.ptrs]at h;cases h;all_goals simp
 | .un,p,h=>by rw[AV.ren]at h;rw[AV.ptrs]at h;cases h;all_goals simp
 | .nd,p,h=>by rw[AV.ren]at h;rw[AV.ptrs]at h;cases h;all_goals simp
theorem zg8 {ρ:Nat→Nat}:∀{xs:List AV} {p:Nat × Nat},p∈ptrss (rens ρ xs)→p.2=0∧∃q∈ptrss xs,p.1=ρ q.1
 | [],p,h=>by rw[rens,ptrss]at h;cases h
 | x::xs,p,h=>by
  rw[rens,ptrss]at h
  rcases List.mem_append.1 h with h | h
  ·obtain⟨h1,q,h2,h3⟩:=zoH h
   exact⟨h1,q,by rw[ptrss];exact List.mem_append_left _ h2,h3⟩
  ·obtain⟨h1,q,h2,h3⟩:=zg8 h
   exact⟨h1,q,by rw[ptrss];exact List.mem_append_right _ h2,h3⟩
end
theorem zhr {ρ:Nat→Nat} {x:AV} (h:x.handed=true):(x.ren ρ).handed=true:=by
 cases x<;>first | (simp[AV.ren,AV.handed];done) | cases h
section
variable {en:Env} {e:Ent} {w:World} {E:Nat→Nat} {β:Bm} {τ:Loc→List Nat} {a:Act} {s s':St} {o:Oper} {r q:List FL} {u:Unit}
theorem zhS (hcall : ∀ f args fb r outs, en.call f args fb = some (r, outs) → zeQ en.P f args fb r outs) (h : Sim e w E β τ a s) {f : FuncId} {xs : List (Operand × TypeId)} {more : List AV} {mv : List Value} {sb0 : List Nat}
  (hm:RepVs w E (Fx e β sb0) β more mv) (hf:zho en o f xs more sb0 s=some (u,s',r,q)):
  zfN en.P f ((xs.map fun p=>a.eval p.1)++mv).toArray w fun v w'=>∃E' τ',Sim e w' E' β τ' (a.put o.dst v) s':=by
 obtain⟨⟨ys,sb⟩,s1,_,_,_,_,h1,h2⟩:=M.bind_some hf
 obtain⟨τ1,Bs,k1,k2,k3⟩:=zhP h (B0:=[]) zd1 h1
 dsimp only at h2
 obtain⟨_,s2,_,_,_,_,h3,h4⟩:=M.bind_some h2
 obtain⟨g3,rfl⟩:=M.zam h3
 obtain⟨fb,s3,_,_,_,_,h5,h6⟩:=M.bind_some h4
 rw[List.nil_append]at k3
 obtain⟨τ2,Bf,m1,m2,m3⟩:=zgJ k1 (B:=Bs.flatten) (bs0:=[]) (xs0:=[]) (Bf0:=[]) ⟨by simpa using k3,rfl,rfl,fun i b hb=>by simp at hb,fun b hb=>(by cases hb),List.nodup_nil⟩ h5
 obtain⟨_,s4,_,_,_,_,h7,h8⟩:=M.bind_some h6
 obtain⟨rfl,g7⟩:=zjy h7
 obtain⟨⟨rv,outs⟩,s5,_,_,_,_,h9,h10⟩:=M.bind_some h8
 obtain⟨g9,rfl⟩:=M.zar h9
 dsimp only at h10
 obtain⟨_,s6,_,_,_,_,h11,h12⟩:=M.bind_some h10
 obtain⟨g11,rfl⟩:=M.zam h11
 obtain⟨_,s7,_,_,_,_,h13,h14⟩:=M.bind_some h12
 simp only[List.nil_append]at m2
 generalize hbs:uniq ((ptrss (ys++more)).map (·.1))=bs at *
 have hE:∀k∈Bs.flatten++Bf.flatten,k < w.heap.size∧(e.w.heap.size≤k∨k∈e.Ba)∧(∀l,k∉τ2 l)∧∀j c,s3.bx[j]?=some c→c.val≠ .un→k≠β j c.gen:=m2.free.2
 let β2:Bm:=⟨fun i _=>match bs[i]? with | some b=>β b (β.G b) | none=>0,fun _=>0⟩
 have b2:∀(i b:Nat),bs[i]?=some b→β2 i 0=β b (β.G b):=fun i b hb=>by show(match bs[i]? with | some b=>β b (β.G b) | none=>0)=_;rw[hb]
 have lfb:fb.length=bs.length:=m2.lx
 have hM:∀k,k∈blks β2 fb.length↔∃b∈bs,k=β b (β.G b):=by
  intro k
  unfold blks
  rw[List.mem_map]
  constructor
  ·rintro ⟨i,hi,rfl⟩
   rw[List.mem_range,lfb]at hi
   have hb:bs[i]?=some bs[i]:=List.getElem?_eq_getElem hi
   exact⟨bs[i],List.getElem_mem hi,b2 i _ hb⟩
  ·rintro ⟨b,hb,rfl⟩
   obtain⟨i,hi⟩:=zgi hb
   exact⟨i,List.mem_range.2 (by rw[lfb];exact(List.getElem?_eq_some_iff.1 hi).1),b2 i b hi⟩
 have hat:∀b∈bs,β b (β.G b) < w.heap.size∧E (β b (β.G b))=0∧(e.w.heap.size≤β b (β.G b)∨β b (β.G b)∈e.M):=by
  intro b hb
  obtain⟨i,hi⟩:=zgi hb
  obtain⟨x,cells,ty,Bi,_,_,q1,_,q2,q3⟩:=m2.at_ i b hi
  exact⟨(Array.getElem?_eq_some_iff.1 q1).1,q2,q3⟩
 have inj:∀(i j b c:Nat),bs[i]?=some b→bs[j]?=some c→β b (β.G b)=β c (β.G c)→i=j:=by
  intro i j b c hi hj he
  have n:=m2.nod
  have hi':(bs.map fun b=>β b (β.G b))[i]?=some (β b (β.G b)):=by rw[List.getElem?_map,hi];rfl
  have hj':(bs.map fun b=>β b (β.G b))[j]?=some (β b (β.G b)):=by rw[List.getElem?_map,hj,he];rfl
  exact(List.getElem?_inj (List.getElem?_eq_some_iff.1 hi').1 n).1 (hi'.trans hj'.symm)
 let Ba:List Nat:=Bs.flatten++Bf.flatten
 have far0:∀k,e.F k→k < w.heap.size∧k∉Ba∧k∉blks β2 fb.length:=by
  rintro k ⟨q1,q2,q3⟩
  refine⟨Nat.lt_of_lt_of_le q1 h.fr.size,fun hk=> ?_,fun hk=> ?_⟩
  ·rcases(hE k hk).2.1 with q | q
   ·omega
   ·exact q2 q
  ·obtain⟨b,hb,rfl⟩:=(hM k).1 hk
   rcases(hat b hb).2.2 with q | q
   ·omega
   ·exact q3 q
 have gok2:GlOk w Ba (blks β2 fb.length):=fun g x hx=>by
  obtain⟨q1,q2⟩:=h.glob hx
  exact⟨far0 g q1,q2⟩
 let e2:Ent:=⟨w,E,Ba,blks β2 fb.length,fun _=>none,gok2⟩
 have far:∀k,Fx e β (sb0++sb) k→e2.F k:=by
  rintro k (hk | ⟨b,hb,rfl⟩)
  ·exact far0 k hk
  ·obtain⟨d,d1,d2⟩:=g7 b hb
   have hG:d.gen=β.G b:=m1.gn b d d1
   obtain⟨cells,ty,q1,_⟩:=m1.bx b d d1 d2
   rw[hG]at q1
   refine⟨(Array.getElem?_eq_some_iff.1 q1).1,fun hk=> ?_,fun hk=> ?_⟩
   ·exact(hE _ hk).2.2.2 b d d1 d2 (by rw[hG])
   ·obtain⟨b',hb',he⟩:=(hM _).1 hk
    obtain⟨_,_,o3,_⟩:=m2.out b' hb'
    exact o3 b d d1 d2 (by rw[hG];exact he)
 have hall:RepAs w E e2.F β (ys++more) ((xs.map fun p=>a.eval p.1)++mv) (Bs++more.map fun _=>[]):=
  RepAs.append (k2.far fun k hk=>far k (Fx.right k hk)) ((RepAs.ofVs hm).far fun k hk=>far k (Fx.left k hk))
 have inbs:∀p∈ptrss (ys++more),p.1∈bs:=by
  intro p hp
  rw[←hbs]
  exact zhR.2 (List.mem_map.2 ⟨p,hp,rfl⟩)
 have hren:RepAs w E e2.F β2 (rens (posOf bs) (ys++more)) ((xs.map fun p=>a.eval p.1)++mv) (Bs++more.map fun _=>[]):=by
  refine RepAs.ren (fun b g hp=> ?_) hall
  have hb:b∈bs:=inbs (b,g) hp
  rw[b2 _ b (zim hb),←m3 b hb (b,g) hp rfl]
 generalize hvs:((xs.map fun p=>a.eval p.1)++mv)=vs at *
 generalize hBt:(Bs++more.map fun _=>([]:List Nat))=Bt at *
 have hfl:Bt.flatten=Bs.flatten:=by
  rw[←hBt,List.flatten_append]
  have:(more.map fun _=>([]:List Nat)).flatten=[]:=by
   clear hBt hm hall inbs hren g3 h4 h2 h6 h8 h9 g9 hbs h5 m3
   induction more with
   | nil=>rfl
   | cons x l ih=>simp
  rw[this,List.append_nil]
 let τ3:Loc→List Nat:=fun l=>match l with
  | .tm i=>(Bt[i]?).getD []
  | .bx i=>(Bf[i]?).getD []
 have hnod:=m2.free.1
 rw[List.nodup_append]at hnod
 obtain⟨n1,n2,n3⟩:=hnod
 rw[←hfl]at n1
 obtain⟨t1,t2⟩:=zjz n1
 obtain⟨f1,f2⟩:=zjz n2
 have gettm:∀{i k:Nat},k∈τ3 (.tm i)→∃B,Bt[i]?=some B∧k∈B:=by
  intro i k hk
  have hk:k∈(Bt[i]?).getD []:=hk
  cases hB:Bt[i]? with
  | none=>rw[hB]at hk;simp at hk
  | some B=>rw[hB]at hk;exact⟨B,rfl,hk⟩
 have getbx:∀{i k:Nat},k∈τ3 (.bx i)→∃B,Bf[i]?=some B∧k∈B:=by
  intro i k hk
  have hk:k∈(Bf[i]?).getD []:=hk
  cases hB:Bf[i]? with
  | none=>rw[hB]at hk;simp at hk
  | some B=>rw[hB]at hk;exact⟨B,rfl,hk⟩
 have inl:∀{i:Nat} {B:List Nat} {k:Nat},Bt[i]?=some B→k∈B→k∈Bs.flatten:=fun hB hk=>by rw[←hfl];exact List.mem_flatten.2 ⟨_,List.mem_of_getElem? hB,hk⟩
 have inr:∀{i:Nat} {B:List Nat} {k:Nat},Bf[i]?=some B→k∈B→k∈Bf.flatten:=fun hB hk=>List.mem_flatten.2 ⟨_,List.mem_of_getElem? hB,hk⟩
 have inBa:∀{l:Loc} {k:Nat},k∈τ3 l→k∈Ba:=by
  intro l k hk
  cases l with
  | tm i=>obtain⟨B,q1,q2⟩:=gettm hk;exact List.mem_append_left _ (inl q1 q2)
  | bx i=>obtain⟨B,q1,q2⟩:=getbx hk;exact List.mem_append_right _ (inr q1 q2)
 have fromBa:∀k∈Ba,∃l,k∈τ3 l:=by
  intro k hk
  rcases List.mem_append.1 hk with hk | hk
  ·rw[←hfl]at hk
   obtain⟨B,hB,hkB⟩:=List.mem_flatten.1 hk
   obtain⟨i,hi⟩:=zgi hB
   exact⟨.tm i,by show k∈(Bt[i]?).getD [];rw[hi];exact hkB⟩
  ·obtain⟨B,hB,hkB⟩:=List.mem_flatten.1 hk
   obtain⟨i,hi⟩:=zgi hB
   exact⟨.bx i,by show k∈(Bf[i]?).getD [];rw[hi];exact hkB⟩
 have dis:∀k∈Ba,k∉blks β2 fb.length:=by
  intro k hk hk'
  obtain⟨b,hb,rfl⟩:=(hM k).1 hk'
  exact(m2.out b hb).2.1 hk
 have lens:=RepAs.len hren
 have abx:∀(i:Nat) (c:Cell),(argSt (rens (posOf bs) (ys++more)) fb).bx[i]?=some c→∃b x cells ty,bs[i]?=some b∧c=⟨.t x,none,0,0⟩∧w.heap[β2 i 0]?=some (.cells cells ty (0,0))∧Rep w E x cells.toList (τ3 (.bx i))∧E (β2 i 0)=0∧fb[i]?=some (.t x):=by
  intro i c hc
  have hc:(fb.map fun x=>(⟨x,none,0,0⟩:Cell))[i]?=some c:=hc
  rw[List.getElem?_map]at hc
  cases hx:fb[i]? with
  | none=>rw[hx]at hc;cases hc
  | some x=>
   rw[hx]at hc
   cases hc
   have hi:i < bs.length:=by rw[←lfb];exact(List.getElem?_eq_some_iff.1 hx).1
   have hb:bs[i]?=some bs[i]:=List.getElem?_eq_getElem hi
   obtain⟨y,cells,ty,Bi,q1,q2,q3,q4,q5,q6⟩:=m2.at_ i _ hb
   rw[hx]at q1
   cases q1
   refine⟨bs[i],y,cells,ty,hb,rfl,by rw[b2 i _ hb];exact q3, ?_,by rw[b2 i _ hb];exact q5,rfl⟩
   show Rep w E y cells.toList ((Bf[i]?).getD [])
   rw[q2]
   exact q4
 have sim:Sim e2 w E β2 τ3 ⟨vs.toArray,[]⟩ (argSt (rens (posOf bs) (ys++more)) fb):=by
  refine⟨rfl, ?_,fun i c hc=> ?_,fun i c hc hv=> ?_,fun l k hk=>⟨(hE k (inBa hk)).1,.inr (inBa hk)⟩,fun l l' k hk hk'=> ?_,fun l=> ?_,fun l k i c hk hc hv he=> ?_,fun i j c d hc hd hv hv' he=> ?_,fun i c kk l p n hc ho=> ?_,m1.z,fun k hk=> ?_,fun k hk=> ?_,fun k hk=>(hE k hk).1,dis,fun b c hc=> ?_,Fr.refl _ _ _ _,fun i k hk=>by cases hk⟩
  ·show vs.toArray.size=((rens (posOf bs) (ys++more)).map _).length
   rw[List.length_map,←lens.1]
   simp
  ·have hc:((rens (posOf bs) (ys++more)).map fun x=>(⟨x,none,0,0⟩:Cell))[i]?=some c:=hc
   rw[List.getElem?_map]at hc
   cases hx:(rens (posOf bs) (ys++more))[i]? with
   | none=>rw[hx]at hc;cases hc
   | some x=>
    rw[hx]at hc
    cases hc
    obtain⟨v,B,q1,q2,q3⟩:=RepAs.get hren hx
    show RepV w E e2.F β2 x (vs.toArray.getD i undef) ((Bt[i]?).getD [])
    rw[q2]
    have:vs.toArray.getD i undef=v:=by simp[q1]
    rw[this]
    exact q3
  ·obtain⟨b,x,cells,ty,q1,rfl,q3,q4,q5,q6⟩:=abx i c hc
   exact⟨cells,ty,q3,q4,q5,.inr ((hM _).2 ⟨b,List.mem_of_getElem? q1,b2 i b q1⟩)⟩
  ·cases l with
   | tm i=>
    obtain⟨B,q1,q2⟩:=gettm hk
    cases l' with
    | tm j=>
     obtain⟨C,q3,q4⟩:=gettm hk'
     rw[t2 i j B C k q1 q3 q2 q4]
    | bx j=>
     obtain⟨C,q3,q4⟩:=getbx hk'
     exact absurd rfl (n3 k (inl q1 q2) k (inr q3 q4))
   | bx i=>
    obtain⟨B,q1,q2⟩:=getbx hk
    cases l' with
    | tm j=>
     obtain⟨C,q3,q4⟩:=gettm hk'
     exact absurd rfl (n3 k (inl q3 q4) k (inr q1 q2))
    | bx j=>
     obtain⟨C,q3,q4⟩:=getbx hk'
     rw[f2 i j B C k q1 q3 q2 q4]
  ·cases l with
   | tm i=>
    show((Bt[i]?).getD []).Nodup
    cases hB:Bt[i]? with
    | none=>exact List.nodup_nil
    | some B=>exact t1 i B hB
   | bx i=>
    show((Bf[i]?).getD []).Nodup
    cases hB:Bf[i]? with
    | none=>exact List.nodup_nil
    | some B=>exact f1 i B hB
  ·obtain⟨b,x,cells,ty,q1,rfl,_⟩:=abx i c hc
   exact dis k (inBa hk) (by rw[he];exact(hM _).2 ⟨b,List.mem_of_getElem? q1,b2 i b q1⟩)
  ·obtain⟨b,x,_,_,q1,rfl,_⟩:=abx i c hc
   obtain⟨b',x',_,_,q1',rfl,_⟩:=abx j d hd
   refine inj i j b b' q1 q1' ?_
   rw[←b2 i b q1,←b2 j b' q1']
   exact he
  ·have hc:((rens (posOf bs) (ys++more)).map fun x=>(⟨x,none,0,0⟩:Cell))[i]?=some c:=hc
   rw[List.getElem?_map]at hc
   cases hx:(rens (posOf bs) (ys++more))[i]? with
   | none=>rw[hx]at hc;cases hc
   | some x=>
    rw[hx]at hc
    cases hc
    rw[zgK]at hx
    cases hy:(ys++more)[i]? with
    | none=>rw[hy]at hx;cases hx
    | some y=>
     rw[hy]at hx
     cases hx
     have hh:=zhr (ρ:=posOf bs) (List.all_eq_true.1 g3 y (List.mem_of_getElem? hy))
     rcases ho with ho | ⟨_,ho⟩
     ·have ho:y.ren (posOf bs)=.xr _ _ _ _:=ho
      rw[ho]at hh
      cases hh
     ·cases ho
  ·obtain⟨b,hb,rfl⟩:=(hM k).1 hk
   exact(hat b hb).2.1
  ·obtain⟨b,hb,rfl⟩:=(hM k).1 hk
   exact(hat b hb).1
  ·obtain⟨b',x,_,_,q1,rfl,_⟩:=abx b c hc
   rfl
 have hok:=hcall f _ fb rv outs g9 w E β2 τ3 Ba vs gok2 (fun x hx=> ?_) (fun p hp=> ?_) (fun x hx=> ?_) fromBa (fun i j hi hj he=> ?_) sim
 rotate_left
 ·obtain⟨i,hi⟩:=zgi hx
  rw[zgK]at hi
  cases hz:(ys++more)[i]? with
  | none=>rw[hz]at hi;cases hi
  | some z=>
   rw[hz]at hi
   cases hi
   exact zhr (List.all_eq_true.1 g3 z (List.mem_of_getElem? hz))
 ·obtain⟨q1,q2,q3,q4⟩:=zg8 hp
  refine⟨?_,q1⟩
  rw[q4,lfb]
  exact(List.getElem?_eq_some_iff.1 (zim (inbs q2 q3))).1
 ·obtain⟨i,hi⟩:=zgi hx
  have hlt:i < bs.length:=by rw[←lfb];exact(List.getElem?_eq_some_iff.1 hi).1
  obtain⟨y,_,_,_,q1,_⟩:=m2.at_ i _ (List.getElem?_eq_getElem hlt)
  rw[hi]at q1
  exact⟨y,Option.some.inj q1⟩
 ·rw[lfb]at hi hj
  have q1:bs[i]?=some bs[i]:=List.getElem?_eq_getElem hi
  have q2:bs[j]?=some bs[j]:=List.getElem?_eq_getElem hj
  exact inj i j _ _ q1 q2 (by rw[←b2 i _ q1,←b2 j _ q2];exact he)
 refine hok.mono fun v w' hA=> ?_
 obtain⟨E',B,Bo,A⟩:=hA
 have hsz:=A.fr.size
 have eMlt:=m1.mlt
 have eBlt:=m1.blt
 have notM:∀k,(e.w.heap.size≤k∨k∈e.Ba)→k∉e.M:=by
  rintro k (q | q) hk
  ·have:=eMlt k hk;omega
  ·exact m1.dis k q hk
 have notBa:∀k,(e.w.heap.size≤k∨k∈e.M)→k∉e.Ba:=by
  rintro k (q | q) hk
  ·have:=eBlt k hk;omega
  ·exact m1.dis k hk q
 have sim2:Sim e w' E' β τ2 a s3:=by
  refine m1.move A.fr A.z (fun k hk=> ?_) (fun k hk=> ?_)
  ·obtain⟨q1,q2,q3,q4⟩:=hE k hk
   exact⟨q1,q2,notM k q2,q3,q4⟩
  ·obtain⟨b,hb,rfl⟩:=(hM k).1 hk
   obtain⟨q1,q2,q3⟩:=hat b hb
   obtain⟨o1,o2,o3,_⟩:=m2.out b hb
   exact⟨q1,q3,notBa _ q3,q2,o2,o1,fun i c hc hv he=>o3 i c hc hv he.symm⟩
 have newfree:∀k∈B++Bo.flatten,k < w'.heap.size∧(e.w.heap.size≤k∨k∈e.Ba)∧(∀l,k∉τ2 l)∧∀j c,s3.bx[j]?=some c→c.val≠ .un→k≠β j c.gen:=by
  intro k hk
  obtain⟨q1,q2⟩:=A.tok k hk
  rcases q2 with q2 | q2
  ·refine⟨q1,.inl (Nat.le_trans h.fr.size q2),fun l hl=> ?_,fun j c hc hv he=> ?_⟩
   ·have:=(m1.tok l k hl).1;omega
   ·obtain⟨cells,ty,p1,_⟩:=m1.bx j c hc hv
    have:=(Array.getElem?_eq_some_iff.1 p1).1
    omega
  ·obtain⟨p1,p2,p3,p4⟩:=hE k q2
   exact⟨q1,p2,p3,p4⟩
 have hand:Hand e w' E' β τ2 s3 B bs outs Bo:=by
  refine⟨⟨A.nod,newfree⟩,by rw[A.lo,lfb],by rw[A.lb,lfb],fun i b hb=> ?_,fun b hb=> ?_,m2.nod⟩
  ·have hi:i < fb.length:=by rw[lfb];exact(List.getElem?_eq_some_iff.1 hb).1
   obtain⟨x,cells,ty,Bi,q1,q2,q3,q4,q5⟩:=A.at_ i hi
   rw[b2 i b hb]at q3 q5
   exact⟨x,cells,ty,Bi,q1,q2,q3,q4,q5,(hat b (List.mem_of_getElem? hb)).2.2⟩
  ·obtain⟨o1,o2,o3,o4⟩:=m2.out b hb
   refine⟨o1,fun hk=> ?_,o3,o4⟩
   obtain⟨q1,q2⟩:=A.tok _ hk
   rcases q2 with q2 | q2
   ·have:=(hat b hb).1;omega
   ·exact o2 q2
 obtain⟨τ4,p1,p2⟩:=zhQ sim2 hand h13
 obtain⟨τ5,p3⟩:=Sim.wr p1 h14 (v:=v) (zn3 g11 A.v) p2 zdP
 exact⟨E',τ5,p3⟩
theorem zjA (h:Sim e w E β τ a s):∀{xs:List (Operand × TypeId)} {ys:List AV} {s':St} {r q:List FL},lent en xs s=some (ys,s',r,q)→s=s'∧∃zs,ys=zs.map AV.t∧RepTs w (fun k=>max (E k) (pubE w k)) zs (xs.map fun p=>a.eval p.1) []
 | [],ys,s',r,q,hr=>by
  obtain⟨rfl,rfl⟩:=M.zO (s:=s) hr
  exact⟨rfl,[],rfl,rfl,rfl⟩
 | (x,t)::xs,ys,s',r,q,hr=>by
  obtain⟨g,s1,_,_,_,_,h1,h2⟩:=M.bind_some hr
  obtain⟨rfl,hl⟩:=zg7 h h1
  obtain⟨y,s2,_,_,_,_,h3,h4⟩:=M.bind_some h2
  have hy:s=s2∧∀z,y=.t z→RepT w (fun k=>max (E k) (pubE w k)) z (a.eval x) []:=by
   cases g with
   | some g=>
    obtain⟨l,p,n⟩:=g
    obtain⟨z,s3,_,_,_,_,h5,h6⟩:=M.bind_some h3
    obtain⟨rfl,x0,ad,c2,B1,B2,B3,hp⟩:=zf0 h h5
    obtain⟨rfl,rfl⟩:=M.zO h6
    refine⟨rfl,fun z' hz=> ?_⟩
    cases hz
    exact⟨c2,Rep.pub (fun k=>Nat.le_max_left _ _) hp.rep (fun k _=>Nat.le_max_right _ _),by rw[(hl l p n rfl).val hp,zf4]⟩
   | none=>
    obtain⟨rfl,hv⟩:=zd8 h h3
    refine⟨rfl,fun z' hz=> ?_⟩
    rw[hz,RepV]at hv
    exact RepT.mv ⟨fun k i hi=>⟨Nat.lt_of_lt_of_le hi (Nat.le_max_left _ _),rfl⟩,fun k hk=>by cases hk⟩ hv
  obtain⟨rfl,hy⟩:=hy
  cases y with
  | t z=>
   dsimp only at h4
   obtain⟨yr,s4,_,_,_,_,h5,h6⟩:=M.bind_some h4
   obtain⟨rfl,zs,rfl,hz⟩:=zjA h h5
   obtain⟨rfl,rfl⟩:=M.zO h6
   exact⟨rfl,z::zs,rfl,_,_,[],[],rfl,rfl,hy z rfl,hz⟩
  | _=>exact(M.zt h4).elim
theorem RepTs.at_ {w:World} {E:Nat→Nat}:∀{zs:List T} {vs:List Value} {i:Nat} {z:T},RepTs w E zs vs []→zs[i]?=some z→∃v,vs[i]?=some v∧RepT w E z v []
 | [],vs,i,z,h,hi=>by cases hi
 | y::ys,vs,0,z,h,hi=>by
  obtain⟨v,vr,B1,B2,rfl,eb,h1,h2⟩:=h
  obtain⟨rfl,rfl⟩:=List.append_eq_nil_iff.1 eb.symm
  cases hi
  exact⟨v,rfl,h1⟩
 | y::ys,vs,i+1,z,h,hi=>by
  obtain⟨v,vr,B1,B2,rfl,eb,h1,h2⟩:=h
  obtain⟨rfl,rfl⟩:=List.append_eq_nil_iff.1 eb.symm
  exact RepTs.at_ (i:=i) h2 hi
theorem RepTs.len {w:World} {E:Nat→Nat}:∀{zs:List T} {vs:List Value} {B:List Nat},RepTs w E zs vs B→vs.length=zs.length
 | [],vs,B,h=>by rw[h.1];rfl
 | y::ys,vs,B,h=>by
  obtain⟨v,vr,B1,B2,rfl,eb,h1,h2⟩:=h
  rw[List.length_cons,List.length_cons,RepTs.len h2]
theorem zni:∀zs:List T,ptrss (zs.map AV.t)=[]
 | []=>by rw[List.map_nil,ptrss]
 | z::zs=>by rw[List.map_cons,ptrss,zni zs];rfl
theorem zle (hcall : ∀ f args fb r outs, en.call f args fb = some (r, outs) → zeQ en.P f args fb r outs) (h : Sim e w E β τ a s) {f : FuncId} {xs : List (Operand × TypeId)} (hf : zjh en o f xs s = some (u, s', r, q)) :
  zfN en.P f (xs.map fun p=>a.eval p.1).toArray w fun v w'=>∃E' τ',Sim e w' E' β τ' (a.put o.dst v) s':=by
 obtain⟨ys,s1,_,_,_,_,h1,h2⟩:=M.bind_some hf
 obtain⟨rfl,zs,rfl,hz⟩:=zjA h h1
 obtain⟨⟨rv,outs⟩,s2,_,_,_,_,h3,h4⟩:=M.bind_some h2
 obtain⟨g3,rfl⟩:=M.zar h3
 have hok:=hcall _ _ _ _ _ g3
 have gok:GlOk w [] (blks ⟨fun _ _=>0,fun _=>0⟩ ([]:List AV).length):=fun g x hx=>by
  obtain⟨q1,q2⟩:=h.glob hx
  exact⟨⟨Nat.lt_of_lt_of_le q1.1 h.fr.size,fun hk=>(by cases hk),fun hk=>(by cases hk)⟩,q2⟩
 have hE0:∀k,w.heap.size≤k→max (E k) (pubE w k)=0:=fun k hk=>by rw[h.z k hk,zoF hk];rfl
 have key:=hok w (fun k=>max (E k) (pubE w k)) ⟨fun _ _=>0,fun _=>0⟩ (fun _=>[]) [] (xs.map fun p=>a.eval p.1) gok (fun x hx=>by obtain⟨z,_,rfl⟩:=List.mem_map.1 hx;rfl) (fun p hp=>by rw[zni]at hp;cases hp) (fun x hx=>by cases hx) (fun k hk=>by cases hk) (fun i j hi=>by cases hi) ?_
 ·refine key.mono fun v w' hA=> ?_
  obtain⟨E',B,Bf,A⟩:=hA
  have hsame:∀k,k < w.heap.size→w'.heap[k]?=w.heap[k]?:=fun k hk=>(A.fr.same k hk (fun h=>by cases h) (fun h=>by cases h)).1
  let E2:Nat→Nat:=fun k=>if k < w.heap.size then E k else E' k
  have sim2:Sim e w' E2 β τ a s:=by
   refine h.move (Ba:=[]) (M:=[]) ⟨A.fr.size,fun k hk _ _=>⟨hsame k hk,if_pos hk⟩,fun k hk=>(by cases hk),fun k hk=>(by cases hk),A.fr.ext⟩ (fun k hk=> ?_) (fun k hk=>by cases hk) (fun k hk=>by cases hk)
   show(if k < w.heap.size then E k else E' k)=0
   rw[if_neg (by have:=A.fr.size;omega)]
   exact A.z k hk
  have hnew:∀k∈B,k < w'.heap.size∧w.heap.size≤k:=fun k hk=>by
   obtain⟨q1,q2⟩:=A.tok k (List.mem_append_left _ hk)
   rcases q2 with q2 | q2
   ·exact⟨q1,q2⟩
   ·cases q2
  have hE2:∀k∈B,E2 k=E' k:=fun k hk=>if_neg (by have:=(hnew k hk).2;omega)
  have hnod:=A.nod
  rw[List.nodup_append]at hnod
  have hfree:Free e w' β τ s B:=⟨hnod.1,fun k hk=>by
   obtain⟨q1,q2⟩:=hnew k hk
   refine⟨q1,.inl (Nat.le_trans h.fr.size q2),fun l hl=> ?_,fun j c hc hv he=> ?_⟩
   ·have:=(h.tok l k hl).1;omega
   ·obtain⟨cells,ty,p1,_⟩:=h.bx j c hc hv
    have:=(Array.getElem?_eq_some_iff.1 p1).1
    omega⟩
  have fin:∀{r' q':List FL},RepV w' E2 e.F β rv v B→wr o.dst rv none s=some (u,s',r',q')→∃E' τ',Sim e w' E' β τ' (a.put o.dst v) s':=by
   intro r' q' hv hw
   obtain⟨τ5,p3⟩:=Sim.wr sim2 hw hv hfree zdP
   exact⟨E2,τ5,p3⟩
  have hv:=A.v
  cases rv with
  | t y=>
   cases outs with
   | nil=>
    dsimp only at h4
    obtain⟨_,s3,_,_,_,_,h5,h6⟩:=M.bind_some h4
    obtain⟨g5,rfl⟩:=M.zam h5
    refine fin ?_ h6
    rw[RepV]at hv⊢
    obtain⟨cs,k1,k2⟩:=hv
    exact⟨cs,Rep.own g5 k1 hE2,k2⟩
   | cons _ _=>exact(M.zt h4).elim
  | tup ys=>
   cases outs with
   | nil=>
    dsimp only at h4
    obtain⟨_,s3,_,_,_,_,h5,h6⟩:=M.bind_some h4
    obtain⟨g5,rfl⟩:=M.zam h5
    refine fin ?_ h6
    rw[RepV]at hv⊢
    obtain⟨vs,k1,k2⟩:=hv
    exact⟨vs,k1,RepTs.own g5 k2 hE2⟩
   | cons _ _=>exact(M.zt h4).elim
  | _=>exact(M.zt h4).elim
 ·refine⟨rfl,by simp[argSt,hz.len],fun i c hc=> ?_,fun i c hc=>(by simp[argSt]at hc),fun l k hk=>(by cases hk),fun l l' k hk=>(by cases hk),fun l=>List.nodup_nil,fun l k i c hk=>(by cases hk),fun i j c d hc=>(by simp[argSt]at hc),fun i c k l p n hc ht=> ?_,hE0,fun k hk=>(by cases hk),fun k hk=>(by cases hk),fun k hk=>(by cases hk),fun k hk=>(by cases hk),fun b c hc=>(by simp[argSt]at hc),Fr.refl _ _ _ _,fun i k hk=>by cases hk⟩
  ·have hc:((zs.map AV.t).map fun x=>(⟨x,none,0,0⟩:Cell))[i]?=some c:=hc
   rw[List.getElem?_map,List.getElem?_map]at hc
   cases hzi:zs[i]? with
   | none=>rw[hzi]at hc;cases hc
   | some z=>
    rw[hzi]at hc
    cases hc
    obtain⟨v,e1,e2⟩:=hz.at_ hzi
    have:(xs.map fun p=>a.eval p.1).toArray.getD i undef=v:=by simp[e1]
    rw[RepV,this]
    exact e2
  ·have hc:((zs.map AV.t).map fun x=>(⟨x,none,0,0⟩:Cell))[i]?=some c:=hc
   rw[List.getElem?_map,List.getElem?_map]at hc
   cases hzi:zs[i]? with
   | none=>rw[hzi]at hc;cases hc
   | some z=>
    rw[hzi]at hc
    cases hc
    rcases ht with ht | ⟨_,ht⟩<;>cases ht
end
end Go.Proofs.YtgmidllbkjdnnaaGreatDoor.Flat
namespace Go.Proofs.YtgmidllbkjdnnaaGreatDoor.Flat
set_option linter.unusedVariables false
set_option linter.unusedSimpArgs false
set_option linter.unusedSectionVars false
variable [Glob]
theorem zip_fst {α β γ:Type} (g:α→γ):∀{xs:List α} {ys:List β},xs.length≤ys.length→((xs.zip ys).map fun p=>g p.1)=xs.map g
 | [],_,_=>by simp
 | x::xs,[],h=>by simp at h
 | x::xs,y::ys,h=>by simp at h;simp[zip_fst g h]
section
variable {en:Env} {e:Ent} {w:World} {E:Nat→Nat} {β:Bm} {τ:Loc→List Nat} {a:Act} {s s':St} {o:Oper} {r q:List FL} {u:Unit}
def Fired (en:Env) (o:Oper) (e:Ent) (w:World) (a:Act) (s':St):Prop:=
 Done en o e w a s'∨∃f vs,(execOp a.eval o).run en.P w=(callFunc f vs).run en.P w∧zfN en.P f vs w fun v w'=>∃E' β' τ',Sim e w' E' β' τ' (a.put o.dst v) s'
theorem zn4 (hcall:∀f args fb r outs,en.call f args fb=some (r,outs)→zeQ en.P f args fb r outs) (h:Sim e w E β τ a s) {c:Call} (ho:o.op=.call c) (hf:fire en o s=some (u,s',r,q)):Fired en o e w a s':=by
 obtain⟨cal,as,ts⟩:=c
 cases cal with
 | builtin b=>
  cases b with
  | len=>exact .inl (zoC h ho rfl hf)
  | append=>exact .inl (zlT h ho rfl hf)
  | min=>exact .inl (ziJ h ho rfl (.inl rfl) hf)
  | max=>exact .inl (ziJ h ho rfl (.inr rfl) hf)
  | _=>
   unfold fire at hf
   rw[ho]at hf
   exact(M.zt (s:=s) hf).elim
 | invoke _ _=>
  unfold fire at hf
  rw[ho]at hf
  exact(M.zt (s:=s) hf).elim
 | value g=>
  have hx:∀{f:FuncId} {cv:Array Value},a.eval g=.func (.func f) #[] cv→(execOp a.eval o).run en.P w=(callFunc f ((as.toList.map a.eval)++cv.toList).toArray).run en.P w:=by
   intro f cv hg
   unfold execOp
   rw[ho]
   dsimp only
   unfold resolve
   dsimp only
   rw[hg]
   have e1:((as.toList.map a.eval)++cv.toList).toArray= #[]++as.map a.eval++cv:=by
    apply Array.toList_inj.1
    simp
   rw[e1]
   rfl
  cases g with
  | func f=>
   unfold fire at hf
   rw[ho]at hf
   obtain⟨_,s1,_,_,_,_,h1,h2⟩:=M.bind_some hf
   obtain⟨g1,rfl⟩:=M.zam h1
   have g1':as.size≤ts.size:=of_decide_eq_true g1
   refine .inr ⟨f,_,hx (cv:= #[]) rfl, ?_⟩
   by_cases hlent:en.own f 2001=true
   ·rw[if_pos hlent]at h2
    have k:=zle hcall h h2
    rw[zip_fst (a.eval) (by simpa using g1')]at k
    have e0:(as.toList.map a.eval++(#[]:Array Value).toList)=as.toList.map a.eval:=by simp
    rw[e0]
    exact k.mono fun v w' ⟨E',τ',k⟩=>⟨E',β,τ',k⟩
   rw[if_neg hlent]at h2
   have k:=zhS hcall h (mv:=[]) (sb0:=[]) (more:=[]) (by rw[RepVs]) h2
   rw[zip_fst (a.eval) (by simpa using g1')]at k
   exact k.mono fun v w' ⟨E',τ',k⟩=>⟨E',β,τ',k⟩
  | tmp j=>
   unfold fire at hf
   rw[ho]at hf
   obtain⟨d,s1,_,_,_,_,h1,h2⟩:=M.bind_some hf
   obtain⟨g1,rfl⟩:=M.za4 h1
   have hv:=(h.tm j d g1).cp
   cases hdv:d.val with
   | fn f caps=>
    simp only[hdv]at h2
    have hv':RepV w E e.F β (.fn f caps) (a.tmps.getD j undef) []:=by rw[hdv]at hv;exact hv
    rw[RepV]at hv'
    obtain⟨_,cv,e1,e2⟩:=hv'
    obtain⟨⟨more,sb⟩,s2,_,_,_,_,h3,h4⟩:=M.bind_some h2
    obtain⟨rfl,k1⟩:=zgI h e2 h3
    obtain⟨_,s3,_,_,_,_,h5,h6⟩:=M.bind_some h4
    obtain⟨g5,rfl⟩:=M.zam h5
    have g5':as.size≤ts.size:=of_decide_eq_true g5
    have k:=zhS hcall h k1 h6
    refine .inr ⟨f,_,hx (cv:=cv.toArray) e1, ?_⟩
    rw[zip_fst (a.eval) (by simpa using g5')]at k
    exact k.mono fun v w' ⟨E',τ',k⟩=>⟨E',β,τ',k⟩
   | _=>simp only[hdv]at h2;exact(M.zt h2).elim
  | const v=>
   unfold fire at hf
   rw[ho]at hf
   exact(M.zt (s:=s) hf).elim
  | global v=>
   unfold fire at hf
   rw[ho]at hf
   exact(M.zt (s:=s) hf).elim
theorem zmU (hcall:∀f args fb r outs,en.call f args fb=some (r,outs)→zeQ en.P f args fb r outs) (h:Sim e w E β τ a s) (hf:fire en o s=some (u,s',r,q)):Fired en o e w a s':=by
 cases ho:o.op with
 | move x=>exact .inl (znW h ho hf)
 | assign x=>exact .inl (zlI h ho hf)
 | pick x y z=>exact .inl (znX h ho hf)
 | alloc t=>exact .inl (zmR h ho hf)
 | box t x=>exact .inl (zoD h ho hf)
 | build t ps=>exact .inl (zmT h ho hf)
 | buildSlice t n ps=>exact .inl (ziW h ho hf)
 | makeSlice t l c=>exact .inl (zjv h ho hf)
 | load t x=>exact .inl (zn1 h ho hf)
 | store t x y=>exact .inl (zmS h ho hf)
 | nilCheck x=>exact .inl (zks h ho hf)
 | binOp op t x y t'=>exact .inl (zmM h ho hf)
 | unOp op t x=>exact .inl (znY h ho hf)
 | convert t t' x=>exact .inl (zk8 h ho hf)
 | makeFunc f x y=>exact .inl (zkr h ho hf)
 | slice t x lo hi mx=>exact .inl (zmQ h ho hf)
 | fieldAddr t x f=>exact .inl (zjq h ho hf)
 | field t x f=>exact .inl (zmN h ho hf)
 | indexAddr t x i=>exact .inl (zjr h ho hf)
 | index t x i=>exact .inl (zmO h ho hf)
 | extract x i=>exact .inl (zlb h ho hf)
 | call c=>exact zn4 hcall h ho hf
 | _=>
  unfold fire at hf
  rw[ho]at hf
  exact(M.zt (s:=s) hf).elim
theorem zhT {P:Program} {f:FuncId} {fn:Func} (hf:P.funcs[f]?=some fn) (hb:fn.body.isSome=true) (hn:(fn.name== "runtime.NumGoroutine")=false) (vs:Array Value) (w:World):(callFunc f vs).run P w=.ok (.enter f vs) w:=by
 unfold callFunc
 have hb':fn.body.isNone=false:=by cases hq:fn.body<;>simp_all
 rw[Sem.run_bind]
 have e1:(program).run P w=.ok P w:=rfl
 rw[e1]
 show Sem.run P (match P.funcs[f]? with | none=>_ | some fn=>_) w=_
 rw[hf]
 dsimp only
 rw[if_neg (by rw[hn];exact Bool.false_ne_true),if_neg (by rw[hb'];exact Bool.false_ne_true)]
 rfl
theorem zpz (hcall : ∀ f args fb r outs, en.call f args fb = some (r, outs) → zeQ en.P f args fb r outs) (h : Sim e w E β τ a s) (hf : fire en o s = some (u, s', r, q)) {next : Act → World → Prop} {Q : Exit → Act → World → Prop}
  (hn:∀v w' E' β' τ',Sim e w' E' β' τ' (a.put o.dst v) s'→next (a.put o.dst v) w'):o.wp en.P a w next Q:=by
 unfold Oper.wp
 rcases zmU hcall h hf with ⟨n,v,w',E',β',τ',k1,k2,k3⟩ | ⟨f,vs,k1,k2⟩
 ·rw[k1]
  rcases k2 with rfl | ⟨rfl,rfl⟩
  ·exact hn v w' E' β' τ' k3
  ·exact hn undef w' E' β' τ' k3
 ·rw[k1]
  rcases k2 with ⟨fn,q1,q2,q3,q4⟩ | ⟨v,w',q1,q2⟩
  ·rw[zhT q1 q2 q3,Oper.upon_enter]
   refine q4.mono fun x w' hx=> ?_
   cases x with
   | returned v=>obtain⟨E',β',τ',k3⟩:=hx;exact hn v w' E' β' τ' k3
   | _=>exact hx.elim
  ·rw[q1]
   obtain⟨E',β',τ',k3⟩:=q2
   exact hn v w' E' β' τ' k3
end
end Go.Proofs.YtgmidllbkjdnnaaGreatDoor.Flat
