import Derived.Test.YtoglgeaiiipchaaGreatDoorLRY3
import Derived.Lib.ItoaNum
import Derived.Lib.AtoiAll
import Derived.Shelf.Abstract
set_option linter.unusedSimpArgs false
set_option linter.unusedVariables false
set_option maxRecDepth 100000
set_option maxHeartbeats 8000000
namespace Go.Proofs.YtoglgeaiiipchaaGreatDoor
section
open Go.Lib
def zH (c:UInt8):List UInt8->List (List UInt8)
 |[]=>[[]]
 |x::r=>if x=c then[]::zH c r else match zH c r with
  |[]=>[[x]]
  |y::l=>(x::y)::l
theorem nU (c x:UInt8) (r:List UInt8):zH c (x::r)=if x=c then[]::zH c r else match zH c r with
  |[]=>[[x]]
  |y::l=>(x::y)::l:=rfl
theorem uF (c:UInt8) (s:List UInt8):zH c s≠[]:=by
 cases s with
 |nil=>simp[zH]
 |cons x r=>
  unfold zH
  split
  ·simp
  split<;>simp
theorem yN {c:UInt8}:∀{p:List UInt8} (r:List UInt8),(∀ x∈p,x≠c)->zH c (p++c::r)=p::zH c r
 |[],r,_=>by simp[zH]
 |x::p,r,h=>by
  rw[List.cons_append,nU,if_neg (h x (by simp)),yN r (fun y d=>h y (List.mem_cons_of_mem _ d))]
theorem xF {c:UInt8}:∀{p:List UInt8},(∀ x∈p,x≠c)->zH c p=[p]
 |[],_=>rfl
 |x::p,h=>by
  rw[nU,if_neg (h x (by simp)),xF (fun y d=>h y (List.mem_cons_of_mem _ d))]
theorem jI (c:UInt8):∀(s:List UInt8),(∀ x∈s,x≠c)\/∃p r,s=p++c::r/\∀x∈p,x≠c
 |[]=>.inl (by simp)
 |x::r=>by
  by_cases h:x=c
  ·exact .inr ⟨[],r,by rw[h];rfl,by simp⟩
  rcases jI c r with h1|⟨p,q,rfl,h2⟩
  ·refine .inl fun y hy=>?_
   rcases List.mem_cons.1 hy with rfl|hy
   ·exact h
   exact h1 y hy
  refine .inr ⟨x::p,q,rfl,fun y hy=>?_⟩
  rcases List.mem_cons.1 hy with rfl|hy
  ·exact h
  exact h2 y hy
theorem iP {c:UInt8}:∀(n:Nat) (s:List UInt8),s.length<=n->∀p∈zH c s,∀x∈p,x≠c
 |n,s,hn,p,hp=>by
  rcases jI c s with h|⟨q,r,rfl,h⟩
  ·rw[xF h] at hp
   rw[List.mem_singleton.1 hp];exact h
  rw[yN r h] at hp
  rcases List.mem_cons.1 hp with rfl|hp
  ·exact h
  cases n with
  |zero=>simp at hn
  |succ n=>exact iP n r (by simp at hn;omega) p hp
def dZ (c:UInt8):List (List UInt8)->List UInt8
 |[]=>[]
 |[x]=>x
 |x::y::r=>x++c::dZ c (y::r)
theorem vZ (c:UInt8):∀(n:Nat) (s:List UInt8),s.length<=n->dZ c (zH c s)=s
 |n,s,hn=>by
  rcases jI c s with h|⟨q,r,rfl,h⟩
  ·rw[xF h];rfl
  rw[yN r h]
  cases n with
  |zero=>simp at hn
  |succ n=>
   have d:=vZ c n r (by simp at hn;omega)
   cases h2:zH c r with
   |nil=>exact absurd h2 (uF c r)
   |cons y l=>rw[h2] at d;show q++c::dZ c (y::l)=_;rw[d]
def tV (b:UInt8):Bool:=decide (48<=b.toNat)&&decide (b.toNat<=57)
def iD (acc:Nat):List UInt8->Nat
 |[]=>acc
 |b::r=>iD (10*acc+(b.toNat-48)) r
theorem uX:∀(l m:List UInt8) (d:Nat),iD d (l++m)=iD (iD d l) m
 |[],_,_=>rfl
 |b::r,m,d=>uX r m _
theorem lJ {d:Nat} (h:d<10):(UInt8.ofNat (48+d)).toNat=48+d:=by rw[UInt8.toNat_ofNat'];omega
theorem wV (n:Nat):(decDigits n).all tV=true:=by
 induction n using Nat.strongRecOn with
 |_ n ih=>
  rw[decDigits]
  split
  ·rename_i h
   simp only[List.all_cons,List.all_nil,tV,lJ h]
   simp
   omega
  rw[List.all_append,ih (n/10) (by omega)]
  simp only[List.all_cons,List.all_nil,tV,lJ (show n%10<10 by omega)]
  simp
  omega
theorem pY (n:Nat):iD 0 (decDigits n)=n:=by
 induction n using Nat.strongRecOn with
 |_ n ih=>
  rw[decDigits]
  split
  ·rename_i h
   show 10*0+((UInt8.ofNat (48+n)).toNat-48)=n;rw[lJ h];omega
  rw[uX,ih (n/10) (by omega)]
  show 10*(n/10)+((UInt8.ofNat (48+n%10)).toNat-48)=n;rw[lJ (by omega)];omega
theorem tQ (n:Nat):1<=(decDigits n).length:=by rw[decDigits_length];exact nDigits_pos n
theorem xC {n:Nat} (h:n<=999999):(decDigits n).length<=6:=by
 rw[decDigits_length]
 rcases Nat.lt_or_ge (nDigits n) 7 with h1|h1
 ·omega
 exfalso
 have e:∀(k u:Nat),k+1<=nDigits u->10^k<=u\/k=0:=by
  intro k
  induction k with
  |zero=>intro u _;exact .inr rfl
  |succ k ih=>
   intro u d
   by_cases h3:u<10
   ·rw[nDigits_small h3] at d;omega
   rw[nDigits_big h3] at d
   rcases ih (u/10) (by omega) with h4|h4
   ·left;rw[Nat.pow_succ];omega
   subst h4;left;simp;omega
 rcases e 6 n h1 with h3|h3
 ·have:(10:Nat)^6=1000000:=by decide
  omega
 omega
theorem zBq:∀(l:List UInt8) (d:Nat),l.all tV=true->iD d l<(d+1)*10^l.length
 |[],d,_=>by
  show d<(d+1)*10^0;rw[Nat.pow_zero];omega
 |b::r,d,h=>by
  simp only[List.all_cons,Bool.and_eq_true] at h;have e:=h.1;unfold tV at e;simp only[Bool.and_eq_true,decide_eq_true_eq] at e;have i:=zBq r (10*d+(b.toNat-48)) h.2
  have g:(10*d+(b.toNat-48)+1)*10^r.length<=((d+1)*10)*10^r.length:=Nat.mul_le_mul_right _ (by omega)
  show iD (10*d+(b.toNat-48)) r<_;rw[List.length_cons,Nat.pow_succ,Nat.mul_comm (10^r.length) 10,<-Nat.mul_assoc];omega
def und (x:List UInt8):Option Int:=if(decide (1<=x.length)&&decide (x.length<=6)&&x.all tV&&decide (decDigits (iD 0 x)=x))=true then some (iD 0 x:Nat) else none
theorem mR {x:List UInt8} {n:Int}:und x=some n↔0<=n/\n<=999999/\x=decDigits n.toNat:=by
 unfold und
 constructor
 ·intro h
  split at h
  ·rename_i hc
   simp only[Bool.and_eq_true,decide_eq_true_eq] at hc;obtain⟨⟨⟨e,d⟩,g⟩,i⟩:=hc;have j:=Option.some.inj h;have u:=zBq x 0 g;have m:10^x.length<=10^6:=Nat.pow_le_pow_right (by decide) d
   have s:(10:Nat)^6=1000000:=by decide
   refine⟨by omega,by omega,?_⟩
   rw[<-j,Int.toNat_natCast,i]
  cases h
 rintro⟨e,d,rfl⟩;have:=tQ n.toNat;have:=xC (n:=n.toNat) (by omega)
 rw[pY,if_pos (by simp only[Bool.and_eq_true,decide_eq_true_eq];exact⟨⟨⟨by assumption,by assumption⟩,wV _⟩,trivial⟩)]
 congr 1
 omega
theorem zBn {n:Int} (d:0<=n) (e:n<=999999):und (decDigits n.toNat)=some n:=mR.2 ⟨d,e,rfl⟩
theorem eW:∀(l:List UInt8) (d:Nat),l.all tV=true->(d+1)*10^l.length<=1000000000000000000->parseUint10 d l=.ok (iD d l)
 |[],d,_,_=>rfl
 |b::r,d,h,hl=>by
  simp only[List.all_cons,Bool.and_eq_true] at h;have e:=h.1;unfold tV at e;simp only[Bool.and_eq_true,decide_eq_true_eq] at e;rw[List.length_cons,Nat.pow_succ] at hl
  have g:1<=10^r.length:=Nat.one_le_pow _ _ (by decide)
  have i:(d+1)*10<=1000000000000000000:=by
   refine Nat.le_trans ?_ hl;rw[Nat.mul_comm (10^r.length) 10,<-Nat.mul_assoc];exact Nat.le_mul_of_pos_right _ g
  unfold parseUint10 iD;rw[if_pos e,if_neg (by omega),if_neg (by omega),show d*10+(b.toNat-48)=10*d+(b.toNat-48) by omega]
  refine eW r _ h.2 (Nat.le_trans (Nat.mul_le_mul_right (10^r.length) (show 10*d+(b.toNat-48)+1<=(d+1)*10 by omega)) ?_)
  rw[Nat.mul_assoc,Nat.mul_comm 10];exact hl
def zFj (x:List UInt8):Option Int:=match atoiAll x with
 | .ok n=>if(decide (x.length<=6)&&decide (itoa n=x)&&decide (0<=n))=true then some n else none
 |_=>none
theorem zCT (x:List UInt8):zFj x=und x:=by
 have i:∀n,zFj x=some n↔und x=some n:=by
  intro n;rw[mR];unfold zFj
  constructor
  ·intro h
   split at h
   ·rename_i m hm
    split at h
    ·rename_i hc
     obtain rfl:=Option.some.inj h;simp only[Bool.and_eq_true,decide_eq_true_eq] at hc;have e:x=decDigits m.toNat:=by rw[<-hc.1.2];unfold itoa;rw[if_neg (by omega)]
     have u:=zBq x 0 (by rw[e];exact wV _)
     rw[e,pY,<-e] at u;have U:10^x.length<=10^6:=Nat.pow_le_pow_right (by decide) hc.1.1
     have h6:(10:Nat)^6=1000000:=by decide
     exact⟨hc.2,by omega,e⟩
    cases h
   cases h
  rintro⟨O,J,rfl⟩;have N:=tQ n.toNat;have s:=xC (n:=n.toNat) (by omega)
  have j:=wV n.toNat;have u:=pY n.toNat
  have d:=eW (decDigits n.toNat) 0 j (by
   have U:10^(decDigits n.toNat).length<=10^6:=Nat.pow_le_pow_right (by decide) s
   have h6:(10:Nat)^6=1000000:=by decide
   omega)
  rw[u] at d;have g:itoa n=decDigits n.toNat:=by unfold itoa;rw[if_neg (by omega)]
  cases e:decDigits n.toNat with
  |nil=>rw[e] at N;simp at N
  |cons c r=>
   rw[e] at j d s g;simp only[List.all_cons,Bool.and_eq_true] at j;have K:=j.1;unfold tV at K;simp only[Bool.and_eq_true,decide_eq_true_eq] at K
   have ha:atoiAll (c::r)=.ok n:=by
    unfold atoiAll;simp only;rw[if_neg (show ¬(c.toNat=43\/c.toNat=45) by omega)]
    unfold parseMag;rw[if_neg (by simp),d]
    simp only;rw[if_neg (by omega),if_neg (by omega),if_neg (by omega)]
    congr 1
    omega
   rw[ha];simp only;rw[if_pos (by simp only[Bool.and_eq_true,decide_eq_true_eq];exact⟨⟨s,g⟩,O⟩)]
 cases h:und x with
 |some n=>exact(i n).2 h
 |none=>
  cases J:zFj x with
  |none=>rfl
  |some n=>rw[(i n).1 J] at h;cases h
def jR:List (List UInt8)->Option (List Int)
 |[]=>some []
 |x::r=>match und x,jR r with
  |some n,some l=>some (n::l)
  |_,_=>none
theorem vQ (x:List UInt8) (r:List (List UInt8)):jR (x::r)=match und x,jR r with
  |some n,some l=>some (n::l)
  |_,_=>none:=rfl
theorem mI:∀(l m:List (List UInt8)),jR (l++m)=match jR l,jR m with
  |some a,some b=>some (a++b)
  |_,_=>none
 |[],m=>by
  show jR m=_
  cases jR m<;>rfl
 |x::l,m=>by
  rw[List.cons_append,vQ,mI l m,vQ]
  cases und x<;>cases jR l<;>cases jR m<;>rfl
theorem tA:∀{l:List (List UInt8)} {d:List Int},jR l=some d->l=d.map (fun n=>decDigits n.toNat)/\∀n∈d,0<=n/\n<=999999
 |[],d,h=>by
  obtain rfl:=Option.some.inj h;exact⟨rfl,by simp⟩
 |x::l,d,h=>by
  rw[vQ] at h
  cases h1:und x with
  |none=>rw[h1] at h;cases h
  |some n=>
   cases h2:jR l with
   |none=>rw[h1,h2] at h;cases h
   |some m=>
    rw[h1,h2] at h;obtain rfl:=Option.some.inj h;obtain⟨e,g,i⟩:=mR.1 h1;obtain⟨j,s⟩:=tA h2;refine⟨by rw[List.map_cons,<-i,<-j],fun k hk=>?_⟩
    rcases List.mem_cons.1 hk with rfl|hk
    ·exact⟨e,g⟩
    exact s k hk
theorem tB:∀(d:List Int),(∀ n∈d,0<=n/\n<=999999)->jR (d.map fun n=>decDigits n.toNat)=some d
 |[],_=>rfl
 |n::d,h=>by
  rw[List.map_cons,vQ,zBn (h n (by simp)).1 (h n (by simp)).2,tB d fun m e=>h m (List.mem_cons_of_mem _ e)]
theorem zFR {l:List (List UInt8)} {d:List Int} (h:jR l=some d):d.length=l.length:=by rw[(tA h).1];simp
def pR:List UInt8:=[115,116,97,116,101,115]
def gI:List UInt8:=[108,101,116,116,101,114,115]
def kZ:List UInt8:=[102,105,114,115,116]
def vP:List UInt8:=[103,111,111,100]
def dn (n:Int):List UInt8:=decDigits n.toNat
def sp (ns:List Int):List UInt8:=ns.flatMap fun n=>32::dn n
def qP (gs:List Bool):List Int:=((List.range gs.length).filter fun i=>gs.getD i false).map fun(i:Nat)=>(i:Int)
def kD (a:Au):List UInt8:=pR++32::(dn a.st++32::(gI++32::dn a.le))
def fW (a:Au):List UInt8:=kZ++sp a.fs
def dX (a:Au):List UInt8:=vP++sp (qP a.gs)
def pD (s:Stp):List UInt8:=dn s.f++32::(dn s.l++32::dn s.t)
def kC (ss:List Stp):List UInt8:=ss.flatMap fun s=>pD s++[10]
def fS (a:Au):List UInt8:=kD a++10::(fW a++10::(dX a++10::kC a.ss))
def gG (x:List UInt8):Option Au:=match zH 32 x with
 |[p,q,r,s]=>if p=pR/\r=gI then(match und q,und s with
  |some n,some m=>if 1<=n/\n<=300 then some ⟨n,m,[],List.replicate n.toNat false,[]⟩ else none
  |_,_=>none) else none
 |_=>none
def xP (w x:List UInt8):Option (List Int):=match zH 32 x with
 |[]=>none
 |h::r=>if h=w then jR r else none
def yV (st:Int):List Bool->Int->List Int->Option (List Bool)
 |gs,_,[]=>some gs
 |gs,last,n::r=>if last<n/\n<st then yV st (gs.set n.toNat true) n r else none
def xW (a:Au):Nat->List UInt8->Option Au
 |0,x=>gG x
 |1,x=>(xP kZ x).map fun l=>{a with fs:=l}
 |2,x=>match xP vP x with
  |none=>none
  |some l=>(yV a.st a.gs (-1) l).map fun g=>{a with gs:=g}
 |_+3,x=>match jR (zH 32 x) with
  |some [f,l,t]=>some {a with ss:=a.ss++[⟨f,l,t⟩]}
  |_=>none
def tH:Au->Nat->List (List UInt8)->Nat ⊕ Au
 |_,_,[]=>.inl 0
 |a,i,[x]=>if 3<=i/\x=[] then .inr a else .inl (i+1)
 |a,i,x::y::r=>match xW a i x with
  |none=>.inl (i+1)
  |some a'=>tH a' (i+1) (y::r)
def qR:Au:=⟨0,0,[],[],[]⟩
def gZ (s:List UInt8):Au×Nat×Int:=
 if 100000<s.length then(qR,0,2)
 else match tH qR 0 (zH 10 s) with
  | .inl n=>(qR,n,1)
  | .inr a=>if ckA a=0 then(a,0,0) else(qR,0,ckA a)
theorem dP {a a':Au} {i:Nat} {x:List UInt8} {l:List (List UInt8)} (h:xW a i x=some a') (d:l≠[]):tH a i (x::l)=tH a' (i+1) l:=by
 cases l with
 |nil=>exact absurd rfl d
 |cons y r=>show(match xW a i x with|none=>_|some a'=>_)=_;rw[h]
theorem zFk {a:Au} {i:Nat} {x:List UInt8} {l:List (List UInt8)} (h:xW a i x=none) (d:l≠[]):tH a i (x::l)=.inl (i+1):=by
 cases l with
 |nil=>exact absurd rfl d
 |cons y r=>show(match xW a i x with|none=>_|some a'=>_)=_;rw[h]
theorem zKl (n:Int):∀x∈dn n,48<=x.toNat:=by
 intro x d;have:=List.all_eq_true.1 (wV n.toNat) x d;unfold tV at this
 simp at this
 exact this.1
theorem bZ (n:Int) {c:UInt8} (g:c.toNat<48):∀x∈dn n,x≠c:=fun x e d=>by have:=zKl n x e;rw[d] at this;omega
theorem zJb (e:List Int):∀x∈sp e,x≠10:=by
 intro x d;obtain⟨n,_,h⟩:=List.mem_flatMap.1 d
 rcases List.mem_cons.1 h with rfl|h
 ·decide
 exact bZ n (by decide) x h
theorem rV {c:UInt8} {a b:List UInt8} (d:∀x∈a,x≠c) (e:∀x∈b,x≠c):∀x∈a++b,x≠c:=fun x g=>(List.mem_append.1 g).elim (d x) (e x)
theorem cV {c d:UInt8} {b:List UInt8} (h:d≠c) (g:∀x∈b,x≠c):∀x∈d::b,x≠c:=fun x i=>(List.mem_cons.1 i).elim (fun e=>e▸h) (g x)
theorem zHq (a:Au):∀x∈kD a,x≠10:=rV (by decide) (cV (by decide) (rV (bZ _ (by decide)) (cV (by decide) (rV (by decide) (cV (by decide) (bZ _ (by decide)))))))
theorem zHd (a:Au):∀x∈fW a,x≠10:=rV (by decide) (zJb _)
theorem zGQ (a:Au):∀x∈dX a,x≠10:=rV (by decide) (zJb _)
theorem zF1 (s:Stp):∀x∈pD s,x≠10:=rV (bZ _ (by decide)) (cV (by decide) (rV (bZ _ (by decide)) (cV (by decide) (bZ _ (by decide)))))
theorem iW:∀(d:List Int) (w:List UInt8),(∀ x∈w,x≠32)->zH 32 (w++sp d)=w::d.map dn
 |[],w,h=>by
  show zH 32 (w++[])=_;rw[List.append_nil,xF h];rfl
 |n::d,w,h=>by
  show zH 32 (w++(32::dn n++sp d))=_;rw[List.cons_append,yN _ h,iW d (dn n) (bZ n (by decide))]
  rfl
theorem zB7 (s:Stp):zH 32 (pD s)=[dn s.f,dn s.l,dn s.t]:=by
 unfold pD;rw[yN _ (bZ _ (by decide)),yN _ (bZ _ (by decide)),xF (bZ _ (by decide))]
theorem zCu (a:Au):zH 32 (kD a)=[pR,dn a.st,gI,dn a.le]:=by
 unfold kD;rw[yN _ (by decide),yN _ (bZ _ (by decide)),yN _ (by decide),xF (bZ _ (by decide))]
theorem uV:∀(ss:List Stp),zH 10 (kC ss)=ss.map pD++[[]]
 |[]=>rfl
 |s::ss=>by
  show zH 10 (pD s++[10]++kC ss)=_;rw[List.append_assoc,List.singleton_append,yN _ (zF1 s),uV ss];rfl
theorem zA1 (a:Au):zH 10 (fS a)=kD a::fW a::dX a::(a.ss.map pD++[[]]):=by
 unfold fS;rw[yN _ (zHq a),yN _ (zHd a),yN _ (zGQ a),uV]
theorem aW:∀{l m:List Int},l.Pairwise (·<·)->m.Pairwise (·<·)->(∀ x,x∈l↔x∈m)->l=m
 |[],[],_,_,_=>rfl
 |[],y::m,_,_,h=>absurd ((h y).2 (by simp)) (by simp)
 |x::l,[],_,_,h=>absurd ((h x).1 (by simp)) (by simp)
 |x::l,y::m,hl,hm,h=>by
  have g:=List.pairwise_cons.1 hl;have i:=List.pairwise_cons.1 hm
  have e:x=y:=by
   rcases List.mem_cons.1 ((h x).1 (by simp)) with h1|h1
   ·exact h1
   rcases List.mem_cons.1 ((h y).2 (by simp)) with h2|h2
   ·exact h2.symm
   have:=g.1 y h2;have:=i.1 x h1;omega
  subst e;rw[aW g.2 i.2 fun z=>?_]
  constructor
  ·intro d
   rcases List.mem_cons.1 ((h z).1 (List.mem_cons_of_mem _ d)) with h1|h1
   ·have:=g.1 z d;omega
   exact h1
  intro d
  rcases List.mem_cons.1 ((h z).2 (List.mem_cons_of_mem _ d)) with h1|h1
  ·have:=i.1 z d;omega
  exact h1
theorem nR (gs:List Bool):(qP gs).Pairwise (·<·):=by
 unfold qP;refine List.pairwise_map.2 ((List.pairwise_lt_range.filter _).imp ?_);intro a b h;omega
theorem wZ {gs:List Bool} {n:Int}:n∈qP gs↔0<=n/\n<gs.length/\gs.getD n.toNat false=true:=by
 unfold qP;simp only[List.mem_map,List.mem_filter,List.mem_range]
 constructor
 ·rintro⟨i,⟨e,d⟩,rfl⟩
  exact⟨by omega,by omega,by simpa using d⟩
 rintro⟨e,d,g⟩;exact⟨n.toNat,⟨by omega,g⟩,by omega⟩
theorem bS {st:Int}:∀{l:List Int} {gs d:List Bool} {last:Int},yV st gs last l=some d->-1<=last->(gs.length:Int)=st->
  (last::l).Pairwise (·<·)/\(∀ n∈l,n<st)/\d.length=gs.length/\∀i:Nat,d.getD i false=(gs.getD i false||decide ((i:Int)∈l))
 |[],gs,d,last,h,_,_=>by
  obtain rfl:=Option.some.inj h;exact⟨by simp,by simp,rfl,by simp⟩
 |n::r,gs,d,last,h,hl,hs=>by
  unfold yV at h
  split at h
  ·rename_i hc
   obtain⟨e,g,j,s⟩:=bS h (by omega) (by simpa using hs)
   refine⟨?_,?_,by rw[j];simp,fun i=>?_⟩
   ·refine List.pairwise_cons.2 ⟨fun m hm=>?_,e⟩
    rcases List.mem_cons.1 hm with rfl|hm
    ·exact hc.1
    have:=(List.pairwise_cons.1 e).1 m hm;omega
   ·intro m hm
    rcases List.mem_cons.1 hm with rfl|hm
    ·exact hc.2
    exact g m hm
   rw[s i,List.getD_eq_getElem?_getD,List.getD_eq_getElem?_getD,List.getElem?_set]
   by_cases hi:n.toNat=i
   ·rw[if_pos hi,if_pos (by omega)]
    have:(i:Int)∈n::r:=by rw[show(i:Int)=n by omega];simp
    simp[this]
   rw[if_neg hi]
   have:((i:Int)∈n::r)↔((i:Int)∈r):=by
    rw[List.mem_cons];exact⟨fun h=>h.elim (fun h=>absurd h (by omega)) id,.inr⟩
   rw[decide_eq_decide.2 this]
  cases h
theorem iR {st:Int}:∀(l:List Int) (gs:List Bool) (last:Int),(last::l).Pairwise (·<·)->(∀ n∈l,n<st)->∃d,yV st gs last l=some d
 |[],gs,_,_,_=>⟨gs,rfl⟩
 |n::r,gs,last,h,hs=>by
  unfold yV;have e:=List.pairwise_cons.1 h;rw[if_pos ⟨e.1 n (by simp),hs n (by simp)⟩]
  exact iR r _ n e.2 fun m g=>hs m (List.mem_cons_of_mem _ g)
theorem kL (n i:Nat):(List.replicate n false).getD i false=false:=by
 rw[List.getD_eq_getElem?_getD,List.getElem?_replicate]
 split<;>rfl
theorem zDk {st:Int} {l:List Int} {g:List Bool} (N:0<=st) (u:∀n∈l,0<=n) (h:yV st (List.replicate st.toNat false) (-1) l=some g):qP g=l:=by
 obtain⟨i,j,m,s⟩:=bS h (by omega) (by simp;omega)
 refine aW (nR g) (List.pairwise_cons.1 i).2 fun n=>?_
 rw[wZ,s,kL,m];simp only[Bool.false_or,decide_eq_true_eq,List.length_replicate]
 constructor
 ·rintro⟨J,K,e⟩
  rwa[show((n.toNat:Nat):Int)=n by omega] at e
 intro d;have:=u n d;have:=j n d;exact⟨by omega,by omega,by rwa[show((n.toNat:Nat):Int)=n by omega]⟩
theorem zBN {st:Int} {gs:List Bool} (u:(gs.length:Int)=st):yV st (List.replicate st.toNat false) (-1) (qP gs)=some gs:=by
 obtain⟨g,h⟩:=iR (st:=st) (qP gs) (List.replicate st.toNat false) (-1) (List.pairwise_cons.2 ⟨fun n d=>by have:=(wZ.1 d).1;omega,nR gs⟩) (fun n d=>by have:=(wZ.1 d).2.1;omega)
 obtain⟨_,_,e,j⟩:=bS h (by omega) (by simp;omega)
 rw[h]
 congr 1
 refine List.ext_getElem (by rw[e];simp;omega) fun i m s=>?_
 have:=j i;rw[kL,Bool.false_or,List.getD_eq_getElem?_getD,List.getElem?_eq_getElem m] at this
 rw[show g[i]=decide ((i:Int)∈qP gs) from this,Bool.eq_iff_iff,decide_eq_true_eq,wZ,Int.toNat_natCast,List.getD_eq_getElem?_getD,List.getElem?_eq_getElem s]
 simp
 omega
theorem zBV:∀(l:List Stp) (a:Au) (i:Nat),(∀ s∈l,(0<=s.f/\s.f<=999999)/\(0<=s.l/\s.l<=999999)/\(0<=s.t/\s.t<=999999))->tH a (i+3) (l.map pD++[[]])=.inr {a with ss:=a.ss++l}
 |[],a,i,_=>by
  show(if 3<=i+3/\([]:List UInt8)=[] then _ else _)=_
  rw[if_pos ⟨by omega,rfl⟩];simp
 |s::l,a,i,h=>by
  have e:=h s (by simp)
  rw[List.map_cons,List.cons_append,dP (a':={a with ss:=a.ss++[s]}) ?_ (by simp),show i+3+1=i+1+3 by omega,zBV l _ (i+1) fun t d=>h t (List.mem_cons_of_mem _ d)]
  ·simp
  show(match jR (zH 32 (pD s)) with|some [f,l,t]=>_|_=>_)=_
  rw[zB7,show[dn s.f,dn s.l,dn s.t]=[s.f,s.l,s.t].map fun n=>decDigits n.toNat from rfl,tB _ (by simp;omega)]
theorem zDC {a:Au} (h:ckA a=0) (K:(fS a).length<=100000):gZ (fS a)=(a,0,0):=by
 obtain⟨d,_⟩:=yP.1 h;have j:=d.st1;have m:=d.st2;have u:=d.le1;have J:=d.le2
 have i:tH qR 0 (zH 10 (fS a))=.inr a:=by
  rw[zA1,dP (a':=⟨a.st,a.le,[],List.replicate a.st.toNat false,[]⟩) ?g0 (by simp),dP (a':=⟨a.st,a.le,a.fs,List.replicate a.st.toNat false,[]⟩) ?g1 (by simp),
   dP (a':=⟨a.st,a.le,a.fs,a.gs,[]⟩) ?g2 (by simp),zBV a.ss _ 0 fun s g=>by have:=d.sr s g;omega]
  ·rfl
  case g0=>
   show gG (kD a)=_;unfold gG;rw[zCu];simp only;rw[if_pos ⟨trivial,trivial⟩,show und (dn a.st)=some a.st from zBn (by omega) (by omega),show und (dn a.le)=some a.le from zBn (by omega) (by omega)]
   simp only;rw[if_pos ⟨by omega,by omega⟩]
  case g1=>
   show(xP kZ (fW a)).map _=_;unfold xP fW;rw[iW _ _ (by decide)]
   simp only;rw[if_pos trivial,show a.fs.map dn=a.fs.map (fun n=>decDigits n.toNat) from rfl,tB _ fun n e=>by have:=d.fr n e;omega]
   rfl
  case g2=>
   show(match xP vP (dX a) with|none=>_|some l=>_)=_
   have:xP vP (dX a)=some (qP a.gs):=by
    unfold xP dX;rw[iW _ _ (by decide)]
    simp only;rw[if_pos trivial,show(qP a.gs).map dn=(qP a.gs).map (fun n=>decDigits n.toNat) from rfl,tB _ fun n e=>by have:=wZ.1 e;have:=d.gl;omega]
   rw[this];simp only;rw[zBN d.gl];rfl
 unfold gZ;rw[if_neg (by omega),i]
 simp only;rw[if_pos h]
def pr (a:Au):Nat->List UInt8
 |0=>[]
 |1=>kD a++[10]
 |2=>kD a++10::(fW a++[10])
 |_+3=>fS a
def Inv (a:Au):Nat->Prop
 |0=>a=qR
 |1=>1<=a.st/\a.gs=List.replicate a.st.toNat false/\a.ss=[]
 |2=>1<=a.st/\a.gs=List.replicate a.st.toNat false/\a.ss=[]
 |_+3=>True
theorem oV:∀(d:List Int) (w:List UInt8),dZ 32 (w::d.map dn)=w++sp d
 |[],w=>by simp[dZ,sp]
 |n::d,w=>by
  show w++32::dZ 32 (dn n::d.map dn)=_;rw[oV d (dn n)];rfl
theorem rJ {w x:List UInt8} {l:List Int} (h:xP w x=some l):x=w++sp l/\∀n∈l,0<=n/\n<=999999:=by
 unfold xP at h;have d:=vZ 32 _ x nLe
 split at h
 ·cases h
 rename_i p r hs
 split at h
 ·rename_i hp
  obtain⟨e,g⟩:=tA h;rw[hs,hp,e] at d;exact⟨d.symm.trans (oV l w),g⟩
 cases h
theorem zIL {a a':Au} {i:Nat} {x:List UInt8} (e:Inv a i) (h:xW a i x=some a'):Inv a' (i+1)/\pr a' (i+1)=pr a i++x++[10]:=by
 match i,e,h with
 |0,e,h=>
  have d:=vZ 32 _ x nLe;change gG x=some a' at h;unfold gG at h
  split at h
  ·rename_i p q r s hs
   split at h
   ·rename_i hp
    cases hq:und q with
    |none=>rw[hq] at h;cases h
    |some n=>
     cases hm:und s with
     |none=>rw[hq,hm] at h;cases h
     |some m=>
      rw[hq,hm] at h;simp only at h
      split at h
      ·rename_i j
       obtain rfl:=Option.some.inj h;obtain⟨_,_,rfl⟩:=mR.1 hq;obtain⟨_,_,rfl⟩:=mR.1 hm;rw[hs,hp.1,hp.2] at d;refine⟨⟨j.1,rfl,rfl⟩,?_⟩;show kD _++[10]=[]++x++[10];rw[<-d];rfl
      cases h
   cases h
  cases h
 |1,e,h=>
  change(xP kZ x).map _=some a' at h
  cases hw:xP kZ x with
  |none=>rw[hw] at h;cases h
  |some l=>
   rw[hw] at h;obtain rfl:=Option.some.inj h;obtain⟨rfl,_⟩:=rJ hw;refine⟨e,?_⟩;show kD a++10::(kZ++sp l++[10])=kD a++[10]++(kZ++sp l)++[10]
   simp
 |2,e,h=>
  change(match xP vP x with|none=>none|some l=>_)=some a' at h
  cases hw:xP vP x with
  |none=>rw[hw] at h;cases h
  |some l=>
   rw[hw] at h;simp only at h
   cases d:yV a.st a.gs (-1) l with
   |none=>rw[d] at h;cases h
   |some g=>
    rw[d] at h;obtain rfl:=Option.some.inj h;obtain⟨rfl,N⟩:=rJ hw;obtain⟨O,u,J⟩:=e;rw[u] at d;have K:=zDk (by omega) (fun n j=>(N n j).1) d
    refine⟨trivial,?_⟩;show kD a++10::(fW a++10::(vP++sp (qP g)++10::kC a.ss))=kD a++10::(fW a++[10])++(vP++sp l)++[10];rw[K,J]
    simp[kC]
 |i+3,e,h=>
  change(match jR (zH 32 x) with|some [f,l,t]=>_|_=>_)=some a' at h
  split at h
  ·rename_i f l t hu
   obtain rfl:=Option.some.inj h;have d:=vZ 32 _ x nLe;rw[(tA hu).1] at d;refine⟨trivial,?_⟩
   show kD a++10::(fW a++10::(dX a++10::kC (a.ss++[⟨f,l,t⟩])))=kD a++10::(fW a++10::(dX a++10::kC a.ss))++x++[10];rw[<-d]
   simp[kC,pD,dZ,dn]
  cases h
end
section
open Classical in
noncomputable def zKC (a:Au):List Bool:=if h:∃k,nK a k then h.choose else[]
theorem zIF {a:Au} {k:List Bool} (h:nK a k):zKC a=k:=by
 have d:∃k,nK a k:=⟨k,h⟩
 unfold zKC;rw[dif_pos d];exact nK.unique d.choose_spec h
noncomputable def yW (a:Au):Au:=if ckA a=0 then qD a (zKC a) else qR
theorem zA8 {a:Au} {k:List Bool} (h:ckA a=0) (d:nK a k):yW a=qD a k:=by
 unfold yW;rw[if_pos h,zIF d]
theorem zBp {a:Au} (h:ckA a≠0):yW a=qR:=by
 unfold yW;rw[if_neg h]
end
section
open Go Go.RowKit Go.Sort
structure RaM (a b:Au) (l:La) (f:List Nd) (p q t:Ad) (V X Y Z TR:Nat) (W:World):Prop where
 e:RaE a b l f p V W
 ax:yG W X a q.A q.B q.C q.ca q.cb q.cc
 ay:yG W Y b q.D q.E q.F q.cd q.ce q.cf
 az:W.heap[Z]?=some (.cells #[.slice q.G l.h.length q.cg,.slice q.K l.l.length q.ck] 27 (0,0))
 xa:zM W 0 a q.A q.B q.C q.ca q.cb q.cc
 xb:zM W 0 b q.D q.E q.F q.cd q.ce q.cf
 wh:zE W 0 q.G q.cg l.h
 wl:zE W 0 q.K q.ck l.l
 gf:Nds W 0 q.FA q.fc f
 tr:yG W TR (yW a) t.A t.B t.C t.ca t.cb t.cc
 rt:zM W 0 (yW a) t.A t.B t.C t.ca t.cb t.cc
section
variable {a b:Au} {l:La} {f:List Nd} {p q t:Ad} {V X Y Z TR:Nat} {W W':World}
theorem RaM.on (h:RaM a b l f p q t V X Y Z TR W) (d:Below W W W'):RaM a b l f p q t V X Y Z TR W':=
 ⟨h.e.on d,h.ax.below d h.ax.lt,h.ay.below d h.ay.lt,(d.block _ (gLt h.az)).trans h.az,h.xa.below d,h.xb.below d,h.wh.below d,h.wl.below d,h.gf.below d,h.tr.below d h.tr.lt,h.rt.below d⟩
end
structure AuS (L:Nat) (W:World) (X:Nat):Prop where
 is:∃(st le:Int) (A B C:Option Addr) (na nb nc ca cb cc:Nat),W.cell? ⟨X,0,none⟩=some (.int .i64 st)/\W.cell? ⟨X,1,none⟩=some (.int .i64 le)/\W.cell? ⟨X,2,none⟩=some (.slice A na ca)/\W.cell? ⟨X,3,none⟩=some (.slice B nb cb)/\W.cell? ⟨X,4,none⟩=some (.slice C nc cc)/\
  Wr IsI W L A na/\Wr tE W L B nb/\Wr IsI W L C (nc*3)/\na<=ca/\nb<=cb/\nc<=cc/\ca<=9223372036854775807/\cb<=9223372036854775807/\cc<=9223372036854775807/\nc<=1000000000000000
structure LaS (L:Nat) (W:World) (X:Nat):Prop where
 is:∃(A B:Option Addr) (na nb ca cb:Nat),W.cell? ⟨X,0,none⟩=some (.slice A na ca)/\W.cell? ⟨X,1,none⟩=some (.slice B nb cb)/\Wr IsI W L A na/\Wr IsI W L B nb/\na<=ca/\nb<=cb/\ca<=9223372036854775807/\cb<=9223372036854775807
structure NdS (L:Nat) (W:World) (v:Value):Prop where
 is:∃(A:Option Addr) (n c:Nat),v=.slice A n c/\Wr IsI W L A (n*4)/\n<=c/\c<=9223372036854775807/\n<=1000000000000000
structure TbS (L:Nat) (W:World) (v:Value):Prop where
 is:∃(A:Option Addr) (n c:Nat),v=.slice A n c/\n<=c/\c<=9223372036854775807/\∀i,i<n->∃b off A' m c',A=some ⟨b,off,none⟩/\W.cell? ⟨b,off+i,none⟩=some (.slice A' m c')/\Wr tE W L A' m/\m<=c'/\c'<=9223372036854775807
section
variable {L:Nat} {W W':World} {X:Nat} {v:Value}
theorem Spl.slice (k:Spl L W W') {b o:Nat} {A:Option Addr} {n c:Nat} (h:W.cell? ⟨b,o,none⟩=some (.slice A n c)):W'.cell? ⟨b,o,none⟩=some (.slice A n c):=by
 obtain⟨v',d,e⟩:=k.kin _ _ _ h;rw[e.slice] at d;exact d
theorem Spl.int (k:Spl L W W') {b o:Nat} {n:Int} (h:W.cell? ⟨b,o,none⟩=some (.int .i64 n)):∃m,W'.cell? ⟨b,o,none⟩=some (.int .i64 m):=by
 obtain⟨v',d,e⟩:=k.kin _ _ _ h;obtain⟨m,rfl⟩:=IsI.kin ⟨n,rfl⟩ e;exact⟨m,d⟩
theorem AuS.spl (h:AuS L W X) (k:Spl L W W'):AuS L W' X:=by
 obtain⟨st,le,A,B,C,K,N,O,ca,cb,cc,j,m,s,u,J,U,w2,w3,r⟩:=h.is;obtain⟨e,g⟩:=k.int j;obtain⟨d,i⟩:=k.int m
 exact⟨e,d,A,B,C,K,N,O,ca,cb,cc,g,i,k.slice s,k.slice u,k.slice J,U.spl IsI.kin k,w2.spl tE.kin k,w3.spl IsI.kin k,r⟩
theorem LaS.spl (h:LaS L W X) (k:Spl L W W'):LaS L W' X:=by
 obtain⟨A,B,g,i,ca,cb,d,e,j,m,r⟩:=h.is;exact⟨A,B,g,i,ca,cb,k.slice d,k.slice e,j.spl IsI.kin k,m.spl IsI.kin k,r⟩
theorem NdS.spl (h:NdS L W v) (k:Spl L W W'):NdS L W' v:=by
 obtain⟨A,n,c,e,d,r⟩:=h.is;exact⟨A,n,c,e,d.spl IsI.kin k,r⟩
theorem TbS.spl (h:TbS L W v) (k:Spl L W W'):TbS L W' v:=by
 obtain⟨A,n,c,e,J,K,N⟩:=h.is;refine⟨A,n,c,e,J,K,fun i O=>?_⟩
 obtain⟨b,off,d,m,g,j,s,g3,u⟩:=N i O;exact⟨b,off,d,m,g,j,k.slice s,g3.spl tE.kin k,u⟩
theorem zAD {r:Au} {A B C:Option Addr} {ca cb cc lo:Nat} (e:yG W X r A B C ca cb cc) (d:zM W lo r A B C ca cb cc) (g:0<lo) (h:L<=lo):AuS L W X:=
 ⟨r.st,r.le,A,B,C,r.fs.length,r.gs.length,r.ss.length,ca,cb,cc,e.c0,e.c1,e.c2,e.c3,e.c4,zE.wr d.fs g h,xG.wr d.gs g h,jZ.wr d.ss g h,d.fs.le,d.gs.le,d.ss.le,d.fs.cap,d.gs.cap,d.ss.cap,by have:=d.ss.max;omega⟩
theorem zHC {h l:List Int} {A B:Option Addr} {ca cb lo:Nat} (s:W.heap[X]?=some (.cells #[.slice A h.length ca,.slice B l.length cb] 27 (0,0))) (d:zE W lo A ca h) (e:zE W lo B cb l) (g:0<lo) (i:L<=lo):LaS L W X:=by
 obtain⟨j,m,_⟩:=vK s;exact⟨A,B,h.length,l.length,ca,cb,j,m,zE.wr d g i,zE.wr e g i,d.le,e.le,d.cap,e.cap⟩
theorem zKx {o:List Nd} {A:Option Addr} {c lo:Nat} (h:Nds W lo A c o) (d:0<lo) (e:L<=lo):NdS L W (.slice A o.length c):=
 ⟨A,o.length,c,rfl,Nds.wr h d e,h.le,h.cap,by have:=h.max;omega⟩
end
def raG (V X Y Z TR nf:Nat) (p q:Ad) (ue it:Int) (u:Nat->Value):Array Value:=#[u 0,u 1,u 2,.slice p.FA nf p.fc,.pointer (some ⟨V,0,none⟩),.pointer (some ⟨V+1,0,none⟩),.pointer (some ⟨V+2,0,none⟩),u 7,.bool false,.pointer (some ⟨X,0,none⟩),.pointer (some ⟨Y,0,none⟩),.pointer (some ⟨Z,0,none⟩),.slice q.FA nf q.fc,.int .i64 ue,.pointer (some ⟨TR,0,none⟩),.int .i64 it,u 16,u 17,u 18,u 19,u 20,u 21,u 22,u 23,u 24,u 25,u 26,u 27,u 28,u 29,u 30,u 31,u 32,u 33,u 34,u 35,u 36,u 37,u 38,u 39,u 40,u 41,u 42,u 43,u 44,u 45,u 46,u 47,u 48,u 49,u 50,u 51,u 52,u 53,u 54,u 55,u 56,u 57,u 58,u 59,u 60,u 61,u 62,u 63,u 64,u 65,u 66,u 67,u 68,u 69,u 70,u 71,u 72,u 73,u 74,u 75,u 76,u 77,u 78,u 79,u 80,u 81,u 82,u 83,u 84,u 85,u 86,u 87,u 88,u 89,u 90,u 91,u 92,u 93,u 94,u 95,u 96,u 97,u 98,u 99,u 100,u 101,u 102,u 103,u 104,u 105,u 106,u 107,u 108,u 109,u 110,u 111,u 112,u 113,u 114,u 115,u 116,u 117,u 118,u 119,u 120,u 121,u 122,u 123,u 124,u 125,u 126,u 127,u 128,u 129,u 130,u 131,u 132,u 133,u 134,u 135,u 136,u 137,u 138,u 139,u 140,u 141,u 142,u 143,u 144,u 145,u 146,u 147,u 148,u 149,u 150,u 151,u 152,u 153,u 154,u 155,u 156,u 157,u 158,u 159,u 160,u 161,u 162,u 163,u 164,u 165,u 166,u 167,u 168,u 169,u 170,u 171,u 172,u 173,u 174,u 175,u 176,u 177,u 178,u 179,u 180,u 181,u 182,u 183,u 184,u 185,u 186,u 187,u 188,u 189,u 190,u 191,u 192,u 193,u 194,u 195,u 196,u 197,u 198,u 199,u 200,u 201,u 202,u 203,u 204,u 205,u 206,u 207,u 208,u 209,u 210,u 211,u 212,u 213,u 214,u 215,u 216]
def RaG (V X Y Z TR nf:Nat) (p q:Ad) (ue it:Int) (a:Act):Prop:=∃u:Nat->Value,a={tmps:=raG V X Y Z TR nf p q ue it u,defers:=[]}
theorem RaG.mk {V X Y Z TR d:Nat} {p q:Ad} {ue it:Int} {a:Act} (h:a={tmps:=raG V X Y Z TR d p q ue it (fun i=>a.tmps.getD i undef),defers:=[]}):RaG V X Y Z TR d p q ue it a:=⟨_,h⟩
def raQ (V X Y Z TR nf:Nat) (p q:Ad) (ue it:Int) (v16 v17 v18 v20 v22 v25 v27 v29 v31 v33 v34 v35:Value) (u:Nat->Value):Array Value:=#[u 0,u 1,u 2,.slice p.FA nf p.fc,.pointer (some ⟨V,0,none⟩),.pointer (some ⟨V+1,0,none⟩),.pointer (some ⟨V+2,0,none⟩),u 7,.bool false,.pointer (some ⟨X,0,none⟩),.pointer (some ⟨Y,0,none⟩),.pointer (some ⟨Z,0,none⟩),.slice q.FA nf q.fc,.int .i64 ue,.pointer (some ⟨TR,0,none⟩),.int .i64 it,v16,v17,v18,u 19,v20,u 21,v22,u 23,u 24,v25,u 26,v27,u 28,v29,u 30,v31,u 32,v33,v34,v35,u 36,u 37,u 38,u 39,u 40,u 41,u 42,u 43,u 44,u 45,u 46,u 47,u 48,u 49,u 50,u 51,u 52,u 53,u 54,u 55,u 56,u 57,u 58,u 59,u 60,u 61,u 62,u 63,u 64,u 65,u 66,u 67,u 68,u 69,u 70,u 71,u 72,u 73,u 74,u 75,u 76,u 77,u 78,u 79,u 80,u 81,u 82,u 83,u 84,u 85,u 86,u 87,u 88,u 89,u 90,u 91,u 92,u 93,u 94,u 95,u 96,u 97,u 98,u 99,u 100,u 101,u 102,u 103,u 104,u 105,u 106,u 107,u 108,u 109,u 110,u 111,u 112,u 113,u 114,u 115,u 116,u 117,u 118,u 119,u 120,u 121,u 122,u 123,u 124,u 125,u 126,u 127,u 128,u 129,u 130,u 131,u 132,u 133,u 134,u 135,u 136,u 137,u 138,u 139,u 140,u 141,u 142,u 143,u 144,u 145,u 146,u 147,u 148,u 149,u 150,u 151,u 152,u 153,u 154,u 155,u 156,u 157,u 158,u 159,u 160,u 161,u 162,u 163,u 164,u 165,u 166,u 167,u 168,u 169,u 170,u 171,u 172,u 173,u 174,u 175,u 176,u 177,u 178,u 179,u 180,u 181,u 182,u 183,u 184,u 185,u 186,u 187,u 188,u 189,u 190,u 191,u 192,u 193,u 194,u 195,u 196,u 197,u 198,u 199,u 200,u 201,u 202,u 203,u 204,u 205,u 206,u 207,u 208,u 209,u 210,u 211,u 212,u 213,u 214,u 215,u 216]
def RaQ (V X Y Z TR nf:Nat) (p q:Ad) (ue it:Int) (v16 v17 v18 v20 v22 v25 v27 v29 v31 v33 v34 v35:Value) (a:Act):Prop:=∃u:Nat->Value,a={tmps:=raQ V X Y Z TR nf p q ue it v16 v17 v18 v20 v22 v25 v27 v29 v31 v33 v34 v35 u,defers:=[]}
theorem RaQ.mk {V X Y Z TR d:Nat} {p q:Ad} {ue it:Int} {v16 v17 v18 v20 v22 v25 v27 v29 v31 v33 v34 v35:Value} {a:Act} (h:a={tmps:=raQ V X Y Z TR d p q ue it v16 v17 v18 v20 v22 v25 v27 v29 v31 v33 v34 v35 (fun i=>a.tmps.getD i undef),defers:=[]}):RaQ V X Y Z TR d p q ue it v16 v17 v18 v20 v22 v25 v27 v29 v31 v33 v34 v35 a:=⟨_,h⟩
theorem RaG.q {V X Y Z TR d:Nat} {p q:Ad} {ue it:Int} {a:Act} (h:RaG V X Y Z TR d p q ue it a):∃v16 v17 v18 v20 v22 v25 v27 v29 v31 v33 v34 v35,RaQ V X Y Z TR d p q ue it v16 v17 v18 v20 v22 v25 v27 v29 v31 v33 v34 v35 a:=by
 obtain⟨u,rfl⟩:=h;exact⟨u 16,u 17,u 18,u 20,u 22,u 25,u 27,u 29,u 31,u 33,u 34,u 35,u,rfl⟩
theorem RaQ.g {V X Y Z TR d:Nat} {p q:Ad} {ue it:Int} {v16 v17 v18 v20 v22 v25 v27 v29 v31 v33 v34 v35:Value} {a:Act} (h:RaQ V X Y Z TR d p q ue it v16 v17 v18 v20 v22 v25 v27 v29 v31 v33 v34 v35 a):RaG V X Y Z TR d p q ue it a:=by
 obtain⟨u,rfl⟩:=h;exact RaG.mk rfl
def zJu:Code->Code
 | .seq _ (.block _ (.loop (.seq _ (.seq (.block _ b) _))))=>b
 |c=>c
noncomputable def raB:Code:=zJu (zL (raC 8))
noncomputable def yU (n:Nat):Code:=raDrop n raB
def okR (a:Au):Prop:=(!btw a.st 1 300||!btw a.le 1 8)=false
theorem zEu {a:Au} (h:(!btw a.st 1 300||!btw a.le 1 8)=true):ckA a=3:=by unfold ckA;rw[if_pos h]
theorem zJa {a:Au} (h:okR a) (d:(a.gs.length:Int)≠a.st):ckA a=1:=by unfold ckA;rw[if_neg (by rw[h];decide),if_pos d]
theorem zJc {a:Au} (h:okR a) (e:(a.gs.length:Int)=a.st) (d:6000<(a.ss.length:Int)):ckA a=2:=by unfold ckA;rw[if_neg (by rw[h];decide),if_neg (by omega),if_pos d]
theorem zJm {a:Au} (h:okR a) (g:(a.gs.length:Int)=a.st) (d:¬6000<(a.ss.length:Int)) (e:nJ a.st a.fs=true):ckA a=5:=by unfold ckA;rw[if_neg (by rw[h];decide),if_neg (by omega),if_neg d,if_pos e]
theorem zJh {a:Au} (h:okR a) (i:(a.gs.length:Int)=a.st) (d:¬6000<(a.ss.length:Int)) (e:nJ a.st a.fs=false) (g:gP a.fs (a.fs.length-1) 1=true):ckA a=4:=by unfold ckA;rw[if_neg (by rw[h];decide),if_neg (by omega),if_neg d,if_neg (by rw[e];decide),if_pos g]
theorem zJn {a:Au} (h:okR a) (i:(a.gs.length:Int)=a.st) (d:¬6000<(a.ss.length:Int)) (e:nJ a.st a.fs=false) (g:gP a.fs (a.fs.length-1) 1=false):ckA a=ckS a a.ss.length 0:=by unfold ckA;rw[if_neg (by rw[h];decide),if_neg (by omega),if_neg d,if_neg (by rw[e];decide),if_neg (by rw[g];decide)]
theorem zHz {st:Int} {fs:List Int} {k:Nat} (d:k<fs.length) (h:btw fs[k] 0 (st-1)=false):nJ st fs=true:=List.any_eq_true.2 ⟨_,List.getElem_mem d,by rw[h];rfl⟩
theorem zDy {st:Int} {fs:List Int} (h:∀j,(g:j<fs.length)->btw fs[j] 0 (st-1)=true):nJ st fs=false:=by
 cases e:nJ st fs with
 |false=>rfl
 |true=>
  obtain⟨x,i,d⟩:=List.any_eq_true.1 e;obtain⟨j,g,rfl⟩:=List.getElem_of_mem i;rw[h j g] at d;cases d
def stW (w:World) (s:Stp):World:=w.alloc (.cells #[s.f,s.l,s.t] 80)
structure StW (w W:World) (s:Stp) (G:Nat):Prop where
 below:Below w w W
 size:W.heap.size=G+1
 c0:W.cell? ⟨G,0,none⟩=some (.int .i64 s.f)
 c1:W.cell? ⟨G,1,none⟩=some (.int .i64 s.l)
 c2:W.cell? ⟨G,2,none⟩=some (.int .i64 s.t)
theorem zD0 (w:World) (s:Stp):StW w (stW w s) s w.heap.size:=by
 unfold stW;refine⟨by go_grown,by simp,?_,?_,?_⟩<;>go_simp
def uI (w:World) (n:Int) (e:Ending) (w':World):Prop:=e=.returned n/\Below w w w'
theorem zCW (a:Au) (A B C:Option Addr) (ca cb cc:Nat) (w:World) (hr:zM w 0 a A B C ca cb cc):
  Calls Tryz.prog 10 #[.agg #[a.st,a.le,.slice A a.fs.length ca,.slice B a.gs.length cb,.slice C a.ss.length cc]] w (uI w (ckA a)):=by
 have HW:=hId (jN w a A B C ca cb cc);have HR:=hId (hr.below HW.o.below);have l1:=hr.fs.le;have l2:=hr.fs.max;have l3:=hr.gs.le;have l4:=hr.gs.max;have l5:=hr.ss.le;have l6:=hr.ss.max;clear hr
 go_enter Tryz.func10,Tryz.ntmps10
 obtain⟨b1,hb1⟩:∃b,b=btw a.st 1 300:=⟨_,rfl⟩;obtain⟨b2,hb2⟩:∃b,b=btw a.le 1 8:=⟨_,rfl⟩;have K1:=hId (fun W=>fL a.st 1 300 W)
 have K2:=hId (fun W=>fL a.le 1 8 W)
 rw[<-hb1] at K1;rw[<-hb2] at K2;obtain⟨K,hck⟩:∃c,c=ckA a:=⟨_,rfl⟩;rw[<-hck];have h7:=hId hck;have H1:=hId hb1;have H2:=hId hb2;clear hck hb1 hb2
 go_wp2_with fail
 change Calls _ _ _ (auW w a A B C ca cb cc) _;generalize auW w a A B C ca cb cc=W0 at *;have HA:=hId HW.o.at;obtain⟨V,hV⟩:∃V,V=w.heap.size:=⟨_,rfl⟩;rw[<-hV] at HA ⊢;have d:Hid (Below w w W0):=HW.o.below
 have HVV:=hId hV;have h0:=HA.o.lt;clear hV HW;refine(K1.o _).mono ?_;rintro e w1 ⟨rfl,hx1⟩;have HB1:=hId hx1;obtain⟨_,c0,c1,c2,c3,c4⟩:=HA.o.below hx1 h0;clear hx1
 cases b1 with
 |false=>
  have N:Hid (K=3):=by show K=3;rw[h7.o];exact zEu (by rw[<-H1.o];rfl)
  go_wp2_with fail
  go_ret
  exact⟨zJ N.o.symm,zA d.o HB1.o d.o.size⟩
 |true=>
  go_wp2_with fail
  refine(K2.o _).mono ?_;rintro e w2 ⟨rfl,hx2⟩;clear c0 c1 c2 c3 c4;have HB2:Hid (Below W0 W0 w2):=zA HB1.o hx2 HB1.o.size;obtain⟨_,c0,c1,c2,c3,c4⟩:=HA.o.below HB2.o h0;clear hx2
  cases b2 with
  |false=>
   have N:Hid (K=3):=by show K=3;rw[h7.o];exact zEu (by rw[<-H1.o,<-H2.o];rfl)
   go_wp2_with fail
   go_ret
   exact⟨zJ N.o.symm,zA d.o HB2.o d.o.size⟩
  |true=>
   have HOK:Hid (okR a):=by show(_||_)=false;rw[<-H1.o,<-H2.o];rfl
   have hst:1<=a.st/\a.st<=300:=(xH _ _ _).1 H1.o.symm
   have hle:1<=a.le/\a.le<=8:=(xH _ _ _).1 H2.o.symm
   obtain⟨hst1,hst2⟩:=hst;obtain⟨hle1,hle2⟩:=hle;clear K1 K2 H1 H2
   by_cases hg:(a.gs.length:Int)=a.st
   ·have hg1:((a.gs.length:Int) !=a.st)=false:=by simp[hg]
    have HG:=hId hg;clear hg
    by_cases h6:6000<(a.ss.length:Int)
    ·have N:Hid (K=2):=by show K=2;rw[h7.o];exact zJc HOK.o HG.o h6
     go_wp2_with fail
     go_ret
     exact⟨zJ N.o.symm,zA d.o HB2.o d.o.size⟩
    have hns:a.ss.length<=6000:=by omega
    have HNS:=hId h6;clear h6
    go_wp2_with fail
    go_loopw [3] (fun i wr=>∃k:Nat,k<=a.fs.length/\i=.int .i64 k/\Below W0 W0 wr/\Hid (∀ j,(hj:j<a.fs.length)->j<k->btw a.fs[j] 0 (a.st-1)=true)) (fun i _=>a.fs.length-(intOf i).toNat)
    case atStart=>exact⟨0,Nat.zero_le _,rfl,HB2.o,fun j hj h=>absurd h (by omega)⟩
    obtain⟨k,hk,rfl,hx,g⟩:=hrel;have HB3:=hId hx;clear c0 c1 c2 c3 c4;obtain⟨_,c0,c1,c2,c3,c4⟩:=HA.o.below hx h0;clear hx
    by_cases hkl:k<a.fs.length
    ·obtain⟨b,o,hAA,_,_,q⟩:=zE.at_ (HR.o.fs.below HB3.o) hkl
     subst hAA;obtain⟨x,hxx⟩:∃x,x=a.fs[k]:=⟨_,rfl⟩;rw[<-hxx] at q;obtain⟨bb,hbb⟩:∃bb,bb=btw x 0 (a.st-1):=⟨_,rfl⟩;have C1:=hId (jM (w:=wr) fun W _=>fL x 0 (a.st-1) W)
     rw[<-hbb] at C1;have e0:=cell_regrown c0;have e2:=cell_regrown c2;have eq:=cell_regrown q;have HX:=hId hxx;have HBB:=hId hbb;clear hxx hbb
     go_wp2_with fail
     refine wp_region_quiet_below (by kernel_rfl) (by kernel_rfl) ?_
     repeat(go_big_quiet_step (with_reducible exact C1.o _ _))
     refine wpQuiet_nil ?_;intro _ hw';obtain⟨⟨dq,h5⟩,h4⟩:=hw';subst h4;have HB4:=hId (wS HB3.o HB3.o.size dq h5);clear e0 e2 eq;generalize grow (redrawn wr dq) h5=w4 at *
     cases bb with
     |false=>
      have N:Hid (K=5):=by show K=5;rw[h7.o];exact zJm HOK.o HG.o (by omega) (zHz hkl (by rw[<-HX.o];exact HBB.o.symm))
      go_wp2_with fail
      go_ret
      exact⟨zJ N.o.symm,zA d.o HB4.o d.o.size⟩
     |true=>
      go_wp2_with fail
      go_roundw
      case rel=>
       refine⟨k+1,by omega,by go_num,HB4.o,fun j hj h=>?_⟩
       rcases Nat.lt_or_ge j k with h1|h1
       ·exact g.o j hj h1
       obtain rfl:j=k:=by omega
       rw[<-HX.o];exact HBB.o.symm
      case measure=>simp[intOf];omega
    have HFB:Hid (nJ a.st a.fs=false):=zDy fun j hj=>g.o j hj (by omega)
    clear g
    go_wp2_with fail
    obtain⟨w5,rfl⟩:∃w5:World,w5=wr:=⟨_,rfl⟩
    go_loopw [4] (fun i wr=>∃k:Nat,1<=k/\i=.int .i64 k/\Below W0 W0 wr/\Hid (k<=a.fs.length\/k=1)/\Hid (∀ j,1<=j->j<k->fT a.fs j=false)) (fun i _=>a.fs.length-(intOf i).toNat)
    case atStart=>exact⟨1,nLe,rfl,HB3.o,.inr rfl,fun j h1 h2=>absurd h2 (by omega)⟩
    obtain⟨k2,hk2,rfl,hx,HK2,g⟩:=hrel;have HB5:=hId hx;clear c0 c1 c2 c3 c4;obtain⟨_,c0,c1,c2,c3,c4⟩:=HA.o.below hx h0;clear hx
    by_cases hkl2:k2<a.fs.length
    ·have hk9:k2<=1000000000000000000:=by omega
     obtain⟨b,o,hAA,_,_,q⟩:=zE.at_ (HR.o.fs.below HB5.o) hkl2;obtain⟨b',o',hAA',_,_,q'⟩:=zE.at_ (HR.o.fs.below HB5.o) (k:=k2-1) (by omega)
     obtain⟨rfl,rfl⟩:b=b'/\o=o':=by rw[hAA] at hAA';simpa using hAA'
     subst hAA;clear hAA';obtain⟨x,hxx⟩:∃x,x=a.fs[k2]:=⟨_,rfl⟩;obtain⟨y,hyy⟩:∃y,y=a.fs[k2-1]:=⟨_,rfl⟩;rw[<-hxx] at q;rw[<-hyy] at q'
     have HE:Hid (fT a.fs k2=decide (x<=y)):=by
      show fT _ _=_;unfold fT;rw[zX hkl2,zX (by omega),hxx,hyy]
     clear hxx hyy
     by_cases hxy:x<=y
     ·have N:Hid (K=4):=by
       show K=4;rw[h7.o];exact zJh HOK.o HG.o (by omega) HFB.o (oX (k:=k2) (by omega) (by omega) (by rw[HE.o];exact decide_eq_true hxy))
      go_wp2_with fail
      go_quiet (fail)
      have HB6:Hid (Below W0 W0 (wr.drewN nq)):=zC HB5.o nq
      generalize wr.drewN nq=w6 at *
      go_wp2_with fail
      go_ret
      exact⟨zJ N.o.symm,zA d.o HB6.o d.o.size⟩
     have HEF:Hid (fT a.fs k2=false):=by show _=_;rw[HE.o];exact decide_eq_false hxy
     go_wp2_with fail
     go_quiet (fail)
     have HB6:Hid (Below W0 W0 (wr.drewN nq)):=zC HB5.o nq
     generalize wr.drewN nq=w6 at *
     go_wp2_with fail
     go_roundw
     case rel=>
      refine⟨k2+1,by omega,by go_num,HB6.o,.inl (by omega),fun j h1 h2=>?_⟩
      rcases Nat.lt_or_ge j k2 with h3|h3
      ·exact g.o j h1 h3
      obtain rfl:j=k2:=by omega
      exact HEF.o
     case measure=>simp[intOf];omega
    have HFD:Hid (gP a.fs (a.fs.length-1) 1=false):=(kS _ _).2 fun j h1 h2=>g.o j h1 (by rcases HK2.o with h|h<;>omega)
    clear g HK2;have HCS:Hid (K=ckS a a.ss.length 0):=by show K=_;rw[h7.o];exact zJn HOK.o HG.o (by omega) HFB.o HFD.o
    go_wp2_with fail
    obtain⟨w7,rfl⟩:∃w7:World,w7=wr:=⟨_,rfl⟩
    go_loopw [5,6] (fun i s6 wr=>∃k:Nat,k<=a.ss.length/\i=.int .i64 k/\Below W0 W0 wr/\Hid (∀ j,j<k->qB a j=0)) (fun i _ _=>a.ss.length-(intOf i).toNat)
    case atStart=>exact⟨0,Nat.zero_le _,rfl,HB5.o,fun j h=>absurd h (by omega)⟩
    obtain⟨O,hk3,rfl,hx,g⟩:=hrel;have HB7:=hId hx;clear c0 c1 c2 c3 c4;obtain⟨_,c0,c1,c2,c3,c4⟩:=HA.o.below hx h0;clear hx
    by_cases hkl3:O<a.ss.length
    ·obtain⟨b,o,hCC,_,hbl,q1,q2,q3⟩:=jZ.at_ (HR.o.ss.below HB7.o) hkl3
     subst hCC;obtain⟨s,hs⟩:∃s,s=a.ss[O]:=⟨_,rfl⟩;rw[<-hs] at q1 q2 q3;have hs0:a.ss.getD O dQ=s:=by rw[zX hkl3,hs]
     have HS0:=hId hs0;have HS:=hId hs;clear hs hs0;obtain⟨bf,hbf⟩:∃b,b=btw s.f 0 (a.st-1):=⟨_,rfl⟩;obtain⟨bt,hbt⟩:∃b,b=btw s.t 0 (a.st-1):=⟨_,rfl⟩
     obtain⟨bl,hbl⟩:∃b,b=btw s.l 0 (a.le-1):=⟨_,rfl⟩;have K1:=hId (fun W=>fL s.f 0 (a.st-1) W)
     have K2:=hId (fun W=>fL s.t 0 (a.st-1) W)
     have K3:=hId (fun W=>fL s.l 0 (a.le-1) W)
     rw[<-hbf] at K1;rw[<-hbt] at K2;rw[<-hbl] at K3;have U:Hid (gJ a s=(!bf||!bt||!bl)):=by show gJ a s=_;rw[hbf,hbt,hbl];rfl
     clear hbf hbt hbl;have u:=hId (zD0 wr s)
     go_wp2_with fail
     change Calls _ _ _ (stW wr s) _;have HB8:Hid (Below W0 W0 (stW wr s)):=zA HB7.o u.o.below HB7.o.size;obtain⟨G,hG⟩:∃G,G=wr.heap.size:=⟨_,rfl⟩;rw[<-hG] at u ⊢
     have hGW:W0.heap.size<=G:=by rw[hG];exact HB7.o.size
     generalize stW wr s=W8 at *;have HGG:=hId hG;clear c0 c1 c2 c3 c4 q1 q2 q3 hG;refine(K1.o _).mono ?_;rintro e w9 ⟨rfl,hx9⟩;have HB9:Hid (Below W0 W0 w9):=zA HB8.o hx9 HB8.o.size;have HX9:=hId hx9
     clear hx9
     have m:Hid (gJ a s=true->K=5):=by
      intro hb;have he:qB a O=5:=by unfold qB;rw[HS0.o,if_pos hb]
      rw[HCS.o,eP (k:=O) _ _ (Nat.zero_le _) (by omega) (fun j _ h=>g.o j h) (by rw[he];decide),he]
     cases bf with
     |false=>
      have N:Hid (K=5):=m.o (by rw[U.o];rfl)
      clear m
      go_wp2_with fail
      go_ret
      exact⟨zJ N.o.symm,zA d.o HB9.o d.o.size⟩
     |true=>
      have g1:=(zT HX9.o (b:=G) (o:=2) (by rw[u.o.size];omega)).trans u.o.c2
      obtain⟨_,c0,c1,c2,c3,c4⟩:=HA.o.below HB9.o h0
      go_wp2_with fail
      refine(K2.o _).mono ?_;rintro e w10 ⟨rfl,hx10⟩;have HX10:Hid (Below W8 W8 w10):=zA HX9.o hx10 HX9.o.size;have HB10:Hid (Below W0 W0 w10):=zA HB9.o hx10 HB9.o.size;clear hx10 g1 c0 c1 c2 c3 c4
      cases bt with
      |false=>
       have N:Hid (K=5):=m.o (by rw[U.o];rfl)
       clear m
       go_wp2_with fail
       go_ret
       exact⟨zJ N.o.symm,zA d.o HB10.o d.o.size⟩
      |true=>
       have g1:=(zT HX10.o (b:=G) (o:=1) (by rw[u.o.size];omega)).trans u.o.c1
       obtain⟨_,c0,c1,c2,c3,c4⟩:=HA.o.below HB10.o h0
       go_wp2_with fail
       refine(K3.o _).mono ?_;rintro e w11 ⟨rfl,hx11⟩;have HX11:Hid (Below W8 W8 w11):=zA HX10.o hx11 HX10.o.size;have J:Hid (Below W0 W0 w11):=zA HB10.o hx11 HB10.o.size;clear hx11 g1 c0 c1 c2 c3 c4
       cases bl with
       |false=>
        have N:Hid (K=5):=m.o (by rw[U.o];rfl)
        clear m
        go_wp2_with fail
        go_ret
        exact⟨zJ N.o.symm,zA d.o J.o d.o.size⟩
       |true=>
        have HGOOD:Hid (gJ a s=false):=by show _=_;rw[U.o];rfl
        clear m U K1 K2 K3;have g0:=(zT HX11.o (b:=G) (o:=0) (by rw[u.o.size];omega)).trans u.o.c0
        have g1:=(zT HX11.o (b:=G) (o:=1) (by rw[u.o.size];omega)).trans u.o.c1
        have g2:=(zT HX11.o (b:=G) (o:=2) (by rw[u.o.size];omega)).trans u.o.c2
        obtain⟨_,c0,c1,c2,c3,c4⟩:=HA.o.below J.o h0;have e0:=cell_regrown g0;have e1:=cell_regrown g1;have e2:=cell_regrown g2;have e4:=cell_regrown c4
        by_cases hk0:0<O
        ·obtain⟨b',o',hCC',_,_,q1,q2,q3⟩:=jZ.at_ (HR.o.ss.below J.o) (k:=O-1) (by omega)
         obtain⟨rfl,rfl⟩:b=b'/\o=o':=by simpa using hCC'
         clear hCC';obtain⟨t,ht⟩:∃t,t=a.ss[O-1]:=⟨_,rfl⟩;rw[<-ht] at q1 q2 q3;have ht0:a.ss.getD (O-1) dQ=t:=by rw[zX (by omega),ht]
         obtain⟨lt2,hlt2⟩:∃b,b=qF t s:=⟨_,rfl⟩
         have HE:Hid (qB a O=if lt2=true then 0 else 4):=by
          show _=_;unfold qB;rw[HS0.o,ht0,if_neg (by rw[HGOOD.o];decide),<-hlt2]
          cases lt2<;>simp[hk0]
         have C1:=hId (jM (w:=w11) fun W _=>zKR t s W)
         rw[<-hlt2] at C1;have f1:=cell_regrown q1;have f2:=cell_regrown q2;have f3:=cell_regrown q3;clear ht ht0 hlt2
         go_wp2_with fail
         refine wp_region_quiet_below (by kernel_rfl) (by kernel_rfl) ?_
         repeat(go_big_quiet_step (with_reducible exact C1.o _ _))
         refine wpQuiet_nil ?_;intro _ hw';obtain⟨⟨dq,h5⟩,h4⟩:=hw';subst h4;have HB12:=hId (wS J.o J.o.size dq h5);clear e0 e1 e2 e4 f1 f2 f3 q1 q2 q3;generalize grow (redrawn w11 dq) h5=w12 at *
         cases lt2 with
         |false=>
          have N:Hid (K=4):=by
           have he:qB a O=4:=HE.o
           show K=4;rw[HCS.o,eP (k:=O) _ _ (Nat.zero_le _) (by omega) (fun j _ h=>g.o j h) (by rw[he];decide),he]
          go_wp2_with fail
          go_ret
          exact⟨zJ N.o.symm,zA d.o HB12.o d.o.size⟩
         |true=>
          go_wp2_with fail
          go_roundw
          case rel=>
           refine⟨O+1,by omega,by go_num,HB12.o,fun j h=>?_⟩
           rcases Nat.lt_or_ge j O with h1|h1
           ·exact g.o j h1
           obtain rfl:j=O:=by omega
           exact HE.o
          case measure=>simp[intOf];omega
        have HE:Hid (qB a O=0):=by
         show _=_;unfold qB;rw[HS0.o,if_neg (by rw[HGOOD.o];decide),if_neg (by simp[hk0])]
        have hk02:decide (0<O)=false:=decide_eq_false hk0
        go_wp2_with fail
        refine wp_region_quiet_below (by kernel_rfl) (by kernel_rfl) ?_
        repeat(go_big_quiet_step (fail))
        refine wpQuiet_nil ?_;intro _ hw';obtain⟨⟨dq,h5⟩,h4⟩:=hw';subst h4;have HB12:=hId (wS J.o J.o.size dq h5);clear e0 e1 e2 e4;generalize grow (redrawn w11 dq) h5=w12 at *
        go_wp2_with fail
        go_roundw
        case rel=>
         refine⟨O+1,by omega,by go_num,HB12.o,fun j h=>?_⟩
         rcases Nat.lt_or_ge j O with h1|h1
         ·exact g.o j h1
         obtain rfl:j=O:=by omega
         exact HE.o
        case measure=>simp[intOf];omega
    have N:Hid (K=0):=by
     show K=0;rw[HCS.o,nW];intro j h1 h2;exact g.o j (by omega)
    go_wp2_with fail
    go_ret
    exact⟨zJ N.o.symm,zA d.o HB7.o d.o.size⟩
   have hg1:((a.gs.length:Int) !=a.st)=true:=by simpa using hg
   have N:Hid (K=1):=by show K=1;rw[h7.o];exact zJa HOK.o hg
   clear hg
   go_wp2_with fail
   go_ret
   exact⟨zJ N.o.symm,zA d.o HB2.o d.o.size⟩
end
section
open Go Go.RowKit Go.Sort Go.Shelf
def fE (x y:Int):Int:=if x<y then -1 else if y<x then 1 else 0
def orV:List Int->Int
 |[]=>0
 |x::r=>if x=0 then orV r else x
def nX (s t:Stp):Int:=orV [fE s.f t.f,fE s.l t.l,fE s.t t.t]
theorem zF8 {xs:List Int} {k:Nat} (d:k<xs.length):orV (xs.drop k)=if xs[k]=0 then orV (xs.drop (k+1)) else xs[k]:=by
 rw[List.drop_eq_getElem_cons d];rfl
theorem zEH (s t:Stp):nX s t<0↔qF s t=true:=by
 rw[jX];unfold nX fE;simp only[orV]
 split<;>split<;>(try split)<;>(try split)<;>(try split)<;>(try split)<;>omega
theorem zC5 (x:Int) (w:World):Calls Tryz.prog 130 #[x] w fun e w'=>e=.returned (.bool false)/\w=w':=by
 have h:(x !=x)=false:=by simp
 go_enter Tryz.func130,Tryz.ntmps130
 go_wp2_with fail
 go_ret
 exact⟨rfl,rfl⟩
theorem iT (x y:Int) (w:World):Calls Tryz.prog 92 #[x,y] w fun e w'=>e=.returned (fE x y)/\w=w':=by
 have g:=hId (show fE x y=if x<y then -1 else if y<x then 1 else 0 from rfl)
 generalize fE x y=v at *
 go_enter Tryz.func92,Tryz.ntmps92
 by_cases h1:x<y
 ·have d:Hid (v=-1):=by show v=_;rw[g.o,if_pos h1]
  go_wp2_with (go_at_call 130;refine(zC5 _ _).mono ?_;rintro e w' ⟨rfl,rfl⟩)
  go_ret
  exact⟨zJ d.o.symm,rfl⟩
 by_cases h2:y<x
 ·have d:Hid (v=1):=by show v=_;rw[g.o,if_neg h1,if_pos h2]
  go_wp2_with (go_at_call 130;refine(zC5 _ _).mono ?_;rintro e w' ⟨rfl,rfl⟩)
  go_ret
  exact⟨zJ d.o.symm,rfl⟩
 have d:Hid (v=0):=by show v=_;rw[g.o,if_neg h1,if_neg h2]
 go_wp2_with (go_at_call 130;refine(zC5 _ _).mono ?_;rintro e w' ⟨rfl,rfl⟩)
 go_ret
 exact⟨zJ d.o.symm,rfl⟩
theorem zLd (A:Option Addr) (c:Nat) (xs:List Int) (w:World) (g:zE w 0 A c xs):Calls Tryz.prog 128 #[.slice A xs.length c] w fun e w'=>e=.returned (orV xs)/\w=w':=by
 have N:=g.le;have O:=g.max;have K:=hId g;clear g;obtain⟨v,j⟩:∃v,v=orV xs:=⟨_,rfl⟩;rw[<-j];have J:=hId j;clear j
 go_enter Tryz.func128,Tryz.ntmps128
 go_wp2_with fail
 go_loop [5,8] (fun s i=>∃k:Nat,k<=xs.length/\i=.int .i64 k/\Hid (v=orV (xs.drop k))) (fun _ i=>xs.length-(intOf i).toNat)
 case atStart=>exact⟨0,Nat.zero_le _,rfl,J.o⟩
 obtain⟨k,U,rfl,h⟩:=hrel
 by_cases hlt:k<xs.length
 ·obtain⟨b,o,rfl,_,_,q⟩:=zE.at_ K.o hlt
  have u:=hId (zF8 hlt);generalize xs[k]=x at *
  by_cases hx0:x=0
  ·have m:(x !=0)=false:=by simp[hx0]
   have d:Hid (v=orV (xs.drop (k+1))):=by show v=_;rw[h.o,u.o,if_pos hx0]
   clear hx0
   go_wp2_with fail
   go_round
   case rel=>exact⟨k+1,by omega,by go_num,d⟩
   case measure=>simp[intOf];omega
  have m:(x !=0)=true:=by simpa using hx0
  have d:Hid (v=x):=by show v=_;rw[h.o,u.o,if_neg hx0]
  clear hx0
  go_wp2_with fail
  go_ret
  exact⟨zJ d.o.symm,rfl⟩
 have d:Hid (v=0):=by show v=_;rw[h.o,List.drop_of_length_le (by omega)];rfl
 go_wp2_with fail
 go_ret
 exact⟨zJ d.o.symm,rfl⟩
theorem zED (n a b:Int) (w:World):Calls Tryz.prog 86 #[n,a,b] w fun e w'=>e=.returned (.bool (btw n a b))/\w=w':=by
 go_enter Tryz.func86,Tryz.ntmps86
 go_wp2
 all_goals(go_ret;refine⟨yJ ?_,rfl⟩;unfold btw;simp[*])
 all_goals omega
def zB6 (w:World) (s t:Stp):World:=(w.alloc (.cells #[s.f,s.l,s.t] 80)).alloc (.cells #[t.f,t.l,t.t] 80)
structure zLT (w W:World) (s t:Stp):Prop where
 below:Below w w W
 size:W.heap.size=w.heap.size+1+1
 s0:W.cell? ⟨w,0,none⟩=some (.int .i64 s.f)
 s1:W.cell? ⟨w.heap.size,1,none⟩=some (.int .i64 s.l)
 s2:W.cell? ⟨w.heap.size,2,none⟩=some (.int .i64 s.t)
 t0:W.cell? ⟨w.heap.size+1,0,none⟩=some (.int .i64 t.f)
 t1:W.cell? ⟨w.heap.size+1,1,none⟩=some (.int .i64 t.l)
 t2:W.cell? ⟨w.heap.size+1,2,none⟩=some (.int .i64 t.t)
theorem zEf (w:World) (s t:Stp):zLT w (zB6 w s t) s t:=by
 unfold zB6;refine⟨by go_grown,by simp,?_,?_,?_,?_,?_,?_⟩<;>go_simp
theorem zJe (w:World) (e:TypeId) (x y z:Int):zE (w.alloc (.cells #[x,y,z] e)) 0 (some ⟨w,0,none⟩) 3 [x,y,z]:=
 ⟨nLe,by decide,by simp,Rd.new w #[x,y,z] e,Fz.zero⟩
theorem zJF (s t:Stp) (w:World):Calls Tryz.prog 80 #[.agg #[s.f,s.l,s.t],.agg #[t.f,t.l,t.t]] w fun e w'=>e=.returned (nX s t)/\Below w w w':=by
 have d:=hId (zEf w s t);have h:Hid (nX s t=orV [fE s.f t.f,fE s.l t.l,fE s.t t.t]):=rfl;generalize nX s t=v at *
 go_enter Tryz.func80,Tryz.ntmps80
 go_wp2_with fail
 change Code.wp _ _ _ _ (zB6 w s t);generalize zB6 w s t=W at *;obtain⟨X,g⟩:∃X,X=w.heap.size:=⟨_,rfl⟩;have i:=d.o.s0;have j:=d.o.s1;have m:=d.o.s2;have u:=d.o.t0;have J:=d.o.t1;have K:=d.o.t2
 rw[<-g] at i j m u J K ⊢;have N:=hId g;clear g
 go_region_held3 (fun w'=>w'.cell? ⟨X,0,none⟩=some (.int .i64 s.f)/\w'.cell? ⟨X,1,none⟩=some (.int .i64 s.l)/\w'.cell? ⟨X,2,none⟩=some (.int .i64 s.t)/\w'.cell? ⟨X+1,0,none⟩=some (.int .i64 t.f)/\w'.cell? ⟨X+1,1,none⟩=some (.int .i64 t.l)/\w'.cell? ⟨X+1,2,none⟩=some (.int .i64 t.t))
  (go_keep)
  (first
   |(go_at_call 92;refine(iT _ _ _).mono ?_;rintro e w' ⟨rfl,rfl⟩)
   |(go_at_call 128;refine(zLd _ 3 [fE s.f t.f,fE s.l t.l,fE s.t t.t] _ ((zJe W 3 _ _ _).below bRf.drew)).mono ?_;rintro e w' ⟨rfl,rfl⟩))
 all_goals
  go_wp2_with fail
  go_ret
  refine⟨zJ h.o.symm,?_⟩;exact zA d.o.below (((Below.refl _ W).alloc nLe _).drew) d.o.below.size
end
section
open Go Go.RowKit Go.Shelf
def zEB (P:Program) (g:FuncId) (caps:Array Value) (p:Int->Bool) (w:World):Prop:=
 ∀(n:Int) (W:World),Below w w W->Calls P g (#[.int .i64 n]++caps) W fun e W'=>e=.returned (.bool (p n))/\Below W W W'
def nN (p:Int->Bool) (xs:List Int):Bool:=xs.any p
def wW (p:Int->Bool):List Int->Nat->Int
 |[],_=>-1
 |x::r,i=>if p x=true then i else wW p r (i+1)
theorem zAx {p:Int->Bool} {xs:List Int} {k:Nat} (d:k<xs.length):wW p (xs.drop k) k=if p xs[k]=true then(k:Int) else wW p (xs.drop (k+1)) (k+1):=by
 rw[List.drop_eq_getElem_cons d];rfl
theorem zB5 {p:Int->Bool} {xs:List Int} {k:Nat} (d:xs.length<=k):wW p (xs.drop k) k=-1:=by
 rw[List.drop_of_length_le d];rfl
theorem zCG (p:Int->Bool) (xs:List Int):∀i,decide (0<=wW p xs i)=nN p xs:=by
 unfold nN
 induction xs with
 |nil=>intro i;rfl
 |cons x r ih=>
  intro i
  by_cases h:p x=true
  ·simp[wW,h]
  simp[wW,h,ih]
theorem zCj (A:Option Addr) (c:Nat) (xs:List Int) (g:FuncId) (d:Array Value) (p:Int->Bool) (w:World) (u:zE w 0 A c xs) (N:Enters Tryz.prog g) (O:zEB Tryz.prog g d p w):
  Calls Tryz.prog 84 #[.slice A xs.length c,.func (.func g) #[] d] w fun e w'=>e=.returned (wW p xs 0)/\Below w w w':=by
 have h1:=u.le;have h2:=u.max;have H:=hId O;clear O;have h4:∀(args:Array Value) (w:World),(callFunc g args).run Tryz.prog w=.ok (.enter g args) w:=N;clear N
 go_enter Tryz.func84,Tryz.ntmps84
 go_wp2
 go_loopw [8] (fun i wr=>∃k:Nat,k<=xs.length/\i=.int .i64 k/\wW p xs 0=wW p (xs.drop k) k/\Below w w wr) (fun i _=>xs.length-(intOf i).toNat)
 case atStart=>exact⟨0,Nat.zero_le _,rfl,rfl,bRf⟩
 obtain⟨k,hk,rfl,K,h⟩:=hrel;have m:=hId K;clear K
 by_cases hlt:k<xs.length
 ·obtain⟨b,o,rfl,_,h0,h3⟩:=zE.at_ (u.below h) hlt
  have U:=zAx (p:=p) hlt;have J:=hId U;clear U
  go_wp2_with fail
  refine(H.o _ _ h).mono ?_;rintro e w1 ⟨rfl,j⟩
  go_wp2
  ·have s:p xs[k]=true:=by assumption
   go_ret
   exact⟨zJ (by rw[m.o,J.o,if_pos s]),zA h j h.size⟩
  have s:p xs[k]=false:=by assumption
  go_roundw
  case rel=>exact⟨k+1,by omega,by go_num,by rw[m.o,J.o,if_neg (by simp[s])],zA h j h.size⟩
  case measure=>simp[intOf];omega
 go_wp2
 go_ret
 exact⟨zJ (by rw[m.o,zB5 (by omega)]),h⟩
theorem pH (A:Option Addr) (c:Nat) (xs:List Int) (g:FuncId) (d:Array Value) (p:Int->Bool) (w:World) (m:zE w 0 A c xs) (i:Enters Tryz.prog g) (j:zEB Tryz.prog g d p w):
  Calls Tryz.prog 45 #[.slice A xs.length c,.func (.func g) #[] d] w fun e w'=>e=.returned (.bool (nN p xs))/\Below w w w':=by
 have H:=hId (zCj A c xs g d p w m i j);have s:=hId (zCG p xs 0);clear m j i
 go_enter Tryz.func45,Tryz.ntmps45
 go_wp2_with fail
 refine H.o.mono ?_;rintro e u ⟨rfl,h⟩
 go_wp2
 go_ret
 exact⟨yJ s.o,h⟩
end
end Go.Proofs.YtoglgeaiiipchaaGreatDoor
