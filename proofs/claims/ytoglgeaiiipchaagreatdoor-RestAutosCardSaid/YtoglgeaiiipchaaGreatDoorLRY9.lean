import Derived.Test.YtoglgeaiiipchaaGreatDoorLRY8
set_option linter.unusedSimpArgs false
set_option linter.unusedVariables false
set_option maxRecDepth 100000
set_option maxHeartbeats 8000000
namespace Go.Proofs.YtoglgeaiiipchaaGreatDoor
section
open Go Go.RowKit
def yL (ops:Array Oper) (vs:Nat->Value):List Nat->Act->Act
 |[],a=>a
 |i::l,a=>yL ops vs l (a.put ((ops[i]?).bind (·.dst)) (vs i))
def rF (vs:Nat->Value) (i:Nat) (v:Value):Nat->Value:=fun j=>if j=i then v else vs j
def xO (md:Region.Mode) (ops:Array Oper) (i:Nat):List Nat:=match ops[i]? with|some o=>(o.after.toList.filter fun e=>Region.binds md e).map (·.on)|none=>[]
def iC (md:Region.Mode) (ops:Array Oper) (todo:List Nat):Nat->Nat->List Nat
 |0,_=>[]
 |n+1,i=>(xO md ops i).filter (fun j=>todo.contains j)++((xO md ops i).filter fun j=>todo.contains j).flatMap (iC md ops todo n)
def vO (ops:Array Oper) (i:Nat):Option Tmp:=(ops[i]?).bind (·.dst)
def zEl (ops:Array Oper) (i:Nat):List Tmp:=match ops[i]? with|some o=>o.looksAt ops|none=>[]
def jY (ops:Array Oper) (i j:Nat):Bool:=match vO ops j with|some d=>(zEl ops i).contains d|none=>false
def pS (ops:Array Oper) (i j:Nat):Bool:=match vO ops j with|some d=>vO ops i==some d|none=>false
def cI (md:Region.Mode) (ops:Array Oper) (listed:Array Bool):List Nat->List Nat->Bool
 |_,[]=>true
 |seen,i::l=>((xO md ops i).all fun j=>listed.getD j false||seen.contains j)&&!seen.contains i&&
   (seen.all fun j=>!jY ops i j||(xO md ops i).contains j)&&(seen.all fun j=>!jY ops j i&&!pS ops i j&&!pS ops j i)&&!jY ops i i&&cI md ops listed (seen++[i]) l
def zGM (md:Region.Mode) (ops:Array Oper) (listed:Array Bool) (todo:List Nat):Bool:=
 Region.noSelect ops&&(listed.size==ops.size)&&((List.range ops.size).all fun i=>listed.getD i false||todo.contains i)&&(todo.all fun i=>decide (i<ops.size)&&!listed.getD i true)&&cI md ops listed [] todo
section
variable {P:Program} {ops:Array Oper} {md:Region.Mode} {Q:Exit->Act->World->Prop} {S:World->Prop}
def zJl (P:Program) (ops:Array Oper) (md:Region.Mode) (Q:Exit->Act->World->Prop) (S:World->Prop) (G:Nat->World->World->Prop) (R:Nat->(Nat->Value)->World->Prop) (todo:List Nat) (vs:Nat->Value) (i:Nat) (o:Oper) (a:Act):Prop:=
 ∀w,S w->(∀ j,j∈todo->j∈xO md ops i->R j vs w)->∀K:Act->World->Prop,(∀ v w',S w'->G i w w'->R i (rF vs i v) w'->K (a.put o.dst v) w')->
  if Region.wanted o (yielded ops a.tmps)=true then o.wp P a w K (NoPanic Q) else K (a.put o.dst undef) w
theorem dD (d:Nat->Value):∀(l m:List Nat) (a:Act),yL ops d (l++m) a=yL ops d m (yL ops d l a)
 |[],_,_=>rfl
 |i::l,m,a=>dD d l m _
theorem sD (e:Nat->Value) {d:Option Tmp} {v:Value}:∀(l:List Nat) (a:Act),(∀ j∈l,∀t,d=some t->vO ops j≠some t)->yL ops e l (a.put d v)=(yL ops e l a).put d v
 |[],_,_=>rfl
 |i::l,a,h=>by
  unfold yL;rw[Act.put_comm a (x:=d) (y:=(ops[i]?).bind (·.dst)) v (e i) (fun t m=>h i (by simp) t m)]
  exact sD e l _ (fun j g=>h j (List.mem_cons_of_mem _ g))
theorem lC {e d:Nat->Value}:∀(l:List Nat) (a:Act),(∀ j∈l,e j=d j)->yL ops e l a=yL ops d l a
 |[],_,_=>rfl
 |i::l,a,h=>by
  unfold yL;rw[h i (by simp)]
  exact lC l _ (fun j g=>h j (List.mem_cons_of_mem _ g))
theorem mM (d:Nat->Value):∀(l:List Nat) (a:Act),(yL ops d l a).tmps.size=a.tmps.size/\(yL ops d l a).defers=a.defers
 |[],_=>⟨rfl,rfl⟩
 |i::l,a=>by
  unfold yL;have:=mM d l (a.put ((ops[i]?).bind (·.dst)) (d i))
  rw[this.1,this.2];unfold Act.put
  split<;>simp
theorem uD {o:Oper} (u:∀cs b,o.op≠.select cs b) (d:Nat->Value) (p:Nat->Bool):∀(l:List Nat) (a:Act),
  (∀ j∈l,p j=false->∀t,vO ops j=some t->t∉o.looksAt ops)->(∀ j∈l,p j=false->∀k∈l,k≠j->∀t,vO ops j=some t->vO ops k≠some t)->l.Nodup->
  execOp (yL ops d l a).eval o=execOp (yL ops d (l.filter p) a).eval o/\Region.wanted o (yielded ops (yL ops d l a).tmps)=Region.wanted o (yielded ops (yL ops d (l.filter p) a).tmps)
 |[],_,_,_,_=>⟨rfl,rfl⟩
 |i::l,a,h1,h2,hn=>by
  have m:=List.nodup_cons.1 hn;have J:=fun a=>uD u d p l a (fun j h=>h1 j (List.mem_cons_of_mem _ h)) (fun j h s k N=>h2 j (List.mem_cons_of_mem _ h) s k (List.mem_cons_of_mem _ N)) m.2
  by_cases s:p i=true
  ·rw[List.filter_cons,if_pos s]
   exact J _
  have g:p i=false:=by simpa using s
  rw[List.filter_cons,if_neg s]
  have e:yL ops d (i::l) a=(yL ops d l a).put (vO ops i) (d i):=by
   show yL ops d l (a.put (vO ops i) (d i))=_;exact sD d l a (fun j h t O=>h2 i (by simp) g j (List.mem_cons_of_mem _ h) (fun K=>m.1 (K▸h)) t O)
  rw[e,execOp_put o u _ _ _ (h1 i (by simp) g),wanted_put o _ _ _ (h1 i (by simp) g)]
  exact J a
theorem sS {i j:Nat} {o:Oper} (d:ops[i]?=some o) (h:jY ops i j=false):∀t,vO ops j=some t->t∉o.looksAt ops:=by
 intro t e;unfold jY zEl at h;rw[e,d] at h
 simpa using h
theorem tO {i j:Nat} (h:pS ops i j=false):∀t,vO ops j=some t->vO ops i≠some t:=by
 intro t d;unfold pS at h;rw[d] at h
 simpa using h
structure zLJ (md:Region.Mode) (ops:Array Oper) (listed:Array Bool) (todo:List Nat):Prop where
 nosel:Region.noSelect ops=true
 size:listed.size=ops.size
 all:∀i,i<ops.size->listed.getD i false=true\/i∈todo
 lt:∀i∈todo,i<ops.size/\listed.getD i true=false
 wait:∀l i r,todo=l++i::r->(∀ j∈xO md ops i,listed.getD j false=true\/j∈l)/\(∀ j∈l,jY ops i j=true->j∈xO md ops i)/\(∀ j∈l,jY ops j i=false/\pS ops i j=false/\pS ops j i=false)/\jY ops i i=false
 nodup:todo.Nodup
theorem tM {e:Array Bool}:∀(d seen:List Nat),cI md ops e seen d=true->(∀ l i r,d=l++i::r->(∀ j∈xO md ops i,e.getD j false=true\/j∈seen++l)/\(∀ j∈seen++l,jY ops i j=true->j∈xO md ops i)/\(∀ j∈seen++l,jY ops j i=false/\pS ops i j=false/\pS ops j i=false)/\jY ops i i=false)/\d.Nodup/\∀i∈d,i∉seen
 |[],seen,_=>⟨fun l i r h=>by simp at h,.nil,fun i h=>by simp at h⟩
 |k::d,seen,h=>by
  unfold cI at h;simp only[Bool.and_eq_true,List.all_eq_true,Bool.or_eq_true,List.contains_iff_mem,Bool.not_eq_true',Bool.not_eq_eq_eq_not,Bool.not_true] at h;obtain⟨⟨⟨⟨⟨K,s⟩,N⟩,u⟩,O⟩,U⟩:=h
  have s:k∉seen:=by simpa using s
  obtain⟨i1,i2,J⟩:=tM d (seen++[k]) U;refine⟨fun l i r m=>?_,List.nodup_cons.2 ⟨fun hm=>J k hm (by simp),i2⟩,fun i hi=>?_⟩
  ·cases l with
   |nil=>
    simp only[List.nil_append,List.cons.injEq] at m;obtain⟨rfl,rfl⟩:=m;rw[List.append_nil];exact⟨K,fun j g hl=>(N j g).resolve_left (by simp[hl]),fun j g=>⟨(u j g).1.1,(u j g).1.2,(u j g).2⟩,O⟩
   |cons q l=>
    simp only[List.cons_append,List.cons.injEq] at m;obtain⟨rfl,rfl⟩:=m;have:=i1 l i r rfl
    simpa only[List.append_assoc,List.singleton_append] using this
  rcases List.mem_cons.1 hi with rfl|hi
  ·exact s
  exact fun hs=>J i hi (List.mem_append_left _ hs)
theorem free_spec {d:Array Bool} {e:List Nat} (h:zGM md ops d e=true):zLJ md ops d e:=by
 unfold zGM at h;simp only[Bool.and_eq_true,List.all_eq_true,Bool.or_eq_true,List.contains_iff_mem,beq_iff_eq,List.mem_range,decide_eq_true_eq,Bool.not_eq_true',Bool.not_eq_eq_eq_not,Bool.not_true] at h
 obtain⟨⟨⟨⟨g,j⟩,m⟩,s⟩,u⟩:=h;obtain⟨K,N,_⟩:=tM _ _ u;exact⟨g,j,m,s,fun l i r J=>by simpa using K l i r J,N⟩
def qC (P:Program) (ops:Array Oper) (md:Region.Mode) (Q:Exit->Act->World->Prop) (S:World->Prop) (G:Nat->World->World->Prop) (R:Nat->(Nat->Value)->World->Prop) (todo:List Nat) (vs:Nat->Value):List Nat->Act->Prop
 |[],a=>∀w,S w->(∀ i∈todo,R i vs w)->Q .normal a w
 |i::l,a=>(∀ o,ops[i]?=some o->zJl P ops md Q S G R todo vs i o a)/\qC P ops md Q S G R todo vs l (a.put (vO ops i) (vs i))
theorem qC.cons {G:Nat->World->World->Prop} {R:Nat->(Nat->Value)->World->Prop} {d:List Nat} {m:Nat->Value} {i:Nat} {l:List Nat} {a:Act} {o:Oper} (s:ops[i]?=some o)
  (h:∀w,S w->(∀ j,d.contains j=true->(xO md ops i).contains j=true->R j m w)->∀K:Act->World->Prop,Shut (∀ v w',S w'->G i w w'->R i (rF m i v) w'->K (a.put o.dst v) w')->
   if Region.wanted o (yielded ops a.tmps)=true then o.wp P a w K (NoPanic Q) else K (a.put o.dst undef) w)
  (hr:qC P ops md Q S G R d m l (a.put o.dst (m i))):qC P ops md Q S G R d m (i::l) a:=
 ⟨fun o' g=>by
  rw[s] at g;obtain rfl:=Option.some.inj g;exact fun w O U K N=>h w O (fun j u J=>U j (by simpa using u) (by simpa using J)) K N,by
  have e:vO ops i=o.dst:=by unfold vO;rw[s];rfl
  rw[e];exact hr⟩
theorem qC.at {G:Nat->World->World->Prop} {R:Nat->(Nat->Value)->World->Prop} {d:List Nat} {e:Nat->Value}:∀{l:List Nat} {i:Nat} {r:List Nat} {a:Act},qC P ops md Q S G R d e (l++i::r) a->∀o,ops[i]?=some o->zJl P ops md Q S G R d e i o (yL ops e l a)
 |[],_,_,_,h=>h.1
 |_::l,_,_,_,h=>qC.at (l:=l) h.2
theorem qC.last {G:Nat->World->World->Prop} {R:Nat->(Nat->Value)->World->Prop} {d:List Nat} {e:Nat->Value}:∀{l:List Nat} {a:Act},qC P ops md Q S G R d e l a->∀w,S w->(∀ i∈d,R i e w)->Q .normal (yL ops e l a) w
 |[],_,h=>h
 |_::l,_,h=>qC.last (l:=l) h.2
theorem zAp {a b:Act} {d:Option Tmp} {v v':Value} (i:a.tmps.size=b.tmps.size) (h:a.put d v=a.put d v'):b.put d v=b.put d v':=by
 cases d with
 |none=>rfl
 |some d=>
  simp only[Act.put] at h ⊢;have j:=congrArg Act.tmps h;simp only at j
  by_cases hd:d<b.tmps.size
  ·have g:d<a.tmps.size:=by rw[i];exact hd
   have:=congrArg (fun t:Array Value=>t[d]?) j
   simp[g] at this
   rw[this]
  have e:∀u,b.tmps.setIfInBounds d u=b.tmps:=fun u=>by simp[Array.setIfInBounds,hd]
  rw[e,e]
theorem zIz {o:Oper} {a b:Act} {w:World} {Z:Value->World->Prop} {K:Act->World->Prop} (j:execOp b.eval o=execOp a.eval o) (s:a.tmps.size=b.tmps.size) (J:∀v w',Z v w'->K (b.put o.dst v) w')
  (h:o.wp P a w (fun a' w'=>∃v,a'=a.put o.dst v/\Z v w') (NoPanic Q)):o.wp P b w K Q:=by
 unfold Oper.wp at *;rw[j];generalize (execOp a.eval o).run P w=r at *
 have m:∀v w',(∃ v',a.put o.dst v=a.put o.dst v'/\Z v' w')->K (b.put o.dst v) w':=fun v w' ⟨v',e,O⟩=>by
  rw[zAp s e];exact J v' w' O
 cases r with
 |ok n w'=>
  cases n<;>simp only[Oper.upon] at h ⊢
  case value v=>exact m v w' h
  case skip=>exact m _ w' h
  case defer d=>
   obtain⟨v,e,_⟩:=h
   exfalso
   have u:=congrArg Act.defers e;have g:∀(a:Act) (d:Option Tmp) (v:Value),(a.put d v).defers=a.defers:=fun a d v=>by cases d<;>rfl
   rw[g,g] at u;have:=congrArg List.length u
   simp at this
  case enter f args=>
   refine h.mono fun e i j=>?_
   cases e with
   |returned v=>exact m v i j
   |panicked c=>exact(j:False).elim
   |outgrown=>exact j
  case row r args=>
   exact h.mono fun v i N=>m v i N
 |halt x w'=>
  cases x<;>simp only[Oper.upon] at h ⊢
  case panic v=>exact(h:False).elim
theorem zCP {G:Nat->World->World->Prop} (R:Nat->(Nat->Value)->World->Prop) (d:List Nat) {u:Nat} {s:Array Bool} {a:Act} {w:World}
  (hB:zGM md ops s d=true) (hfuel:d.length<=u)
  (hRc:∀j∈d,∀g vs' w,g j=vs' j->(∀ k∈d,k∈xO md ops j->g k=vs' k)->R j g w->R j vs' w) (hRg:∀j∈d,∀i∈d,i≠j->i∉iC md ops d d.length j->∀g w w',G i w w'->R j g w->R j g w')
  (hS:S w) (h:∀g,qC P ops md Q S G R d g d a):wpAnyH P md ops Q S u s a w:=by
 have hF:=free_spec hB;have hsel:=fun i o (ho:ops[i]?=some o) (cs:Array SelectCase) (b:Bool)=>Region.noSelect_spec hF.nosel i o cs b ho
 have split:∀i∈d,∃l r,d=l++i::r:=fun i hi=>List.append_of_mem hi
 have dist:∀j∈d,∀k∈d,k≠j->∀t,vO ops j=some t->vO ops k≠some t:=by
  intro j hj k hk hne t ht;obtain⟨l,r,e⟩:=split j hj;rw[e] at hk
  rcases List.mem_append.1 hk with hk|hk
  ·exact tO ((hF.wait l j r e).2.2.1 k hk).2.2 t ht
  rcases List.mem_cons.1 hk with rfl|hk
  ·exact absurd rfl hne
  obtain⟨l2,r2,e2⟩:=List.append_of_mem hk;have e3:d=(l++j::l2)++k::r2:=by rw[e,e2];simp
  exact tO ((hF.wait _ k r2 e3).2.2.1 j (by simp)).2.1 t ht
 suffices H:∀u (L:Array Bool) (g:Nat->Value) (w:World),L.size=ops.size->(∀ i,s.getD i false=true->L.getD i false=true)->
   (d.filter fun i=>!L.getD i false).length<=u->S w->(∀ i∈d,L.getD i false=true->R i g w)->(∀ j∈d,L.getD j false=true->∀k∈xO md ops j,L.getD k false=true)->wpAnyH P md ops Q S u L (yL ops g (d.filter fun i=>L.getD i false) a) w by
  have lf:∀i∈d,s.getD i false=false:=fun i hi=>by
   have h1:=(hF.lt i hi).2;have h2:=(hF.lt i hi).1;rw[<-hF.size] at h2
   simp[h2] at h1 ⊢
   exact h1
  have e:d.filter (fun i=>s.getD i false)=[]:=by
   rw[List.filter_eq_nil_iff];intro i hi;rw[lf i hi];simp
  have:=H u s (fun _=>undef) w hF.size (fun i hi=>hi) (Nat.le_trans (List.length_filter_le _ _) hfuel) hS (fun i hi hl=>by rw[lf i hi] at hl;cases hl) (fun i hi hl=>by rw[lf i hi] at hl;cases hl)
  rwa[e] at this
 have done:∀(L:Array Bool),L.size=ops.size->(∀ i,s.getD i false=true->L.getD i false=true)->Region.ready md ops L=[]->∀i∈d,L.getD i false=true:=by
  intro L hsz hL hr
  have key:∀(n:Nat) (l r:List Nat),l.length=n->d=l++r->∀i∈l,L.getD i false=true:=by
   intro n
   induction n with
   |zero=>intro l r hl _ i hi;rw[List.eq_nil_of_length_eq_zero hl] at hi;simp at hi
   |succ n ih=>
    intro l r hl he
    rcases List.eq_nil_or_concat l with rfl|⟨l',k,rfl⟩
    ·simp at hl
    rw[List.concat_eq_append] at hl he ⊢;have ih':=ih l' (k::r) (by simpa using hl) (by rw[he];simp)
    intro i hi
    rcases List.mem_append.1 hi with hi|hi
    ·exact ih' i hi
    simp only[List.mem_singleton] at hi;subst hi;have e:d=l'++i::r:=by rw[he];simp
    have hw:=(hF.wait l' i r e).1;have hlt:=(hF.lt i (by rw[e];simp)).1
    cases hc:L.getD i false with
    |true=>rfl
    |false=>
     exfalso
     obtain⟨o,ho⟩:∃o,ops[i]?=some o:=⟨ops[i],by simp[hlt]⟩
     have:i∈Region.ready md ops L:=by
      rw[mem_ready];have O:i<L.size:=by omega
      refine⟨by simp[O] at hc ⊢;exact hc,o,ho,fun e he hb=>?_⟩
      have hm:e.on∈xO md ops i:=by
       unfold xO;rw[ho];exact List.mem_map.2 ⟨e,List.mem_filter.2 ⟨by simpa using he,hb⟩,rfl⟩
      rcases hw _ hm with h1|h1
      ·exact hL _ h1
      exact ih' _ h1
     rw[hr] at this;cases this
  intro i hi;exact key _ d [] rfl (by simp) i hi
 have fin:∀(L:Array Bool) (g:Nat->Value) (w:World),(∀ i∈d,L.getD i false=true)->S w->(∀ i∈d,L.getD i false=true->R i g w)->Q .normal (yL ops g (d.filter fun i=>L.getD i false) a) w:=by
  intro L g w hall hS hR;have e:d.filter (fun i=>L.getD i false)=d:=List.filter_eq_self.2 fun i hi=>hall i hi
  rw[e];exact(h g).last w hS fun i hi=>hR i hi (hall i hi)
 have closed:∀(L:Array Bool),(∀ j∈d,L.getD j false=true->∀k∈xO md ops j,L.getD k false=true)->∀n,∀j∈d,L.getD j false=true->∀k∈d,k∈iC md ops d n j->L.getD k false=true:=by
  intro L hcl n
  induction n with
  |zero=>intro j _ _ k _ hm;simp[iC] at hm
  |succ n ih=>
   intro j hj hl k hk hm;unfold iC at hm
   rcases List.mem_append.1 hm with hm|hm
   ·exact hcl j hj hl k (List.mem_filter.1 hm).1
   obtain⟨q,hq,hm⟩:=List.mem_flatMap.1 hm;obtain⟨hq1,hq2⟩:=List.mem_filter.1 hq;exact ih q (by simpa using hq2) (hcl j hj hl q hq1) k hk hm
 intro u
 induction u with
 |zero=>
  intro L g w hsz hL hf hS hR hcl
  have hall:∀i∈d,L.getD i false=true:=by
   intro i hi;have e:=List.eq_nil_of_length_eq_zero (Nat.le_zero.1 hf);rw[List.filter_eq_nil_iff] at e;have:=e i hi
   simpa using this
  refine⟨?_,fin L g w hall hS hR⟩
  cases hr:Region.ready md ops L with
  |nil=>rfl
  |cons i is=>
   exfalso
   have hi:i∈Region.ready md ops L:=by rw[hr];simp
   obtain⟨h0,o,ho,_⟩:=mem_ready.1 hi;have hlt:i<ops.size:=(gLt ho);have O:i<L.size:=by omega
   have K:L.getD i false=false:=by simp[O] at h0 ⊢;exact h0
   rcases hF.all i hlt with h1|h1
   ·rw[hL i h1] at K;cases K
   rw[hall i h1] at K;cases K
 |succ u ih=>
  intro L g w hsz hL hf hS hR hcl;refine⟨fun hr=>fin L g w (done L hsz hL hr) hS hR,fun i hi=>?_⟩
  obtain⟨h0,o,ho,hwait⟩:=mem_ready.1 hi;have hlt:i<ops.size:=(gLt ho);have O:i<L.size:=by omega
  have K:L.getD i false=false:=by simp[O] at h0 ⊢;exact h0
  have U:i∈d:=by
   rcases hF.all i hlt with h1|h1
   ·rw[hL i h1] at K;cases K
   exact h1
  obtain⟨l,r,e⟩:=split i U;have hl:=hF.wait l i r e
  have hwl:∀j∈xO md ops i,L.getD j false=true:=by
   intro j hj;unfold xO at hj;rw[ho] at hj;obtain⟨x,hx,rfl⟩:=List.mem_map.1 hj;obtain⟨hx1,hx2⟩:=List.mem_filter.1 hx;exact hwait x (by simpa using hx1) hx2
  have hno:∀cs b,o.op≠.select cs b:=hsel i o ho
  have looks:∀j∈d,jY ops i j=true->j∈l/\L.getD j false=true:=by
   intro j hj hlk;rw[e] at hj
   rcases List.mem_append.1 hj with hj|hj
   ·exact⟨hj,hwl j (hl.2.1 j hj hlk)⟩
   rcases List.mem_cons.1 hj with rfl|hj
   ·rw[hl.2.2.2] at hlk;cases hlk
   obtain⟨l2,r2,e2⟩:=List.append_of_mem hj;have e3:d=(l++i::l2)++j::r2:=by rw[e,e2];simp
   have:=((hF.wait _ j r2 e3).2.2.1 i (by simp)).1
   rw[this] at hlk;cases hlk
  have d1:=uD (ops:=ops) hno g (fun j=>jY ops i j) (d.filter fun i=>L.getD i false) a
   (fun j hj hp=>sS ho hp) (fun j hj hp k hk hne=>dist j (List.mem_filter.1 hj).1 k (List.mem_filter.1 hk).1 hne) (hF.nodup.filter _)
  have d2:=uD (ops:=ops) hno g (fun j=>jY ops i j) l a
   (fun j hj hp=>sS ho hp) (fun j hj hp k hk hne=>dist j (by rw[e];exact List.mem_append_left _ hj) k (by rw[e];exact List.mem_append_left _ hk) hne)
   (by have:=hF.nodup;rw[e] at this;exact(List.nodup_append.1 this).1)
  have ef:(d.filter fun i=>L.getD i false).filter (fun j=>jY ops i j)=l.filter fun j=>jY ops i j:=by
   rw[List.filter_filter,e,List.filter_append]
   have e1:List.filter (fun j=>jY ops i j&&L.getD j false) (i::r)=[]:=by
    rw[List.filter_eq_nil_iff];intro j hj hc;rw[Bool.and_eq_true] at hc;have:=(looks j (by rw[e];exact List.mem_append_right _ hj) hc.1).1
    have nd:=hF.nodup;rw[e,List.nodup_append] at nd;exact nd.2.2 j this j hj rfl
   rw[e1,List.append_nil];refine List.filter_congr fun j hj=>?_
   cases hlk:jY ops i j with
   |false=>rfl
   |true=>rw[(looks j (by rw[e];exact List.mem_append_left _ hj) hlk).2];rfl
  rw[ef] at d1;have hex:execOp (yL ops g (d.filter fun i=>L.getD i false) a).eval o=execOp (yL ops g l a).eval o:=d1.1.trans d2.1.symm
  have hwt:Region.wanted o (yielded ops (yL ops g (d.filter fun i=>L.getD i false) a).tmps)=Region.wanted o (yielded ops (yL ops g l a).tmps):=d1.2.trans d2.2.symm
  have J:=(qC.at (l:=l) (r:=r) (by have:=h g;rw[show qC P ops md Q S G R d g d a=qC P ops md Q S G R d g (l++i::r) a from by rw[<-e]] at this;exact this)) o ho w hS
   (fun j hj hw=>hR j hj (hwl j hw))
  have next:∀v w',S w'->G i w w'->R i (rF g i v) w'->S w'/\wpAnyH P md ops Q S u (L.setIfInBounds i true) ((yL ops g (d.filter fun i=>L.getD i false) a).put o.dst v) w':=by
   intro v w' hS' hG hRi;refine⟨hS',?_⟩
   have N:∀j,(L.setIfInBounds i true).getD j false=true↔j=i\/L.getD j false=true:=by
    intro j
    by_cases hj:i=j
    ·subst hj;simp[O]
    rw[getD_set_ne false hj]
    constructor
    ·exact .inr
    rintro(h|h)
    ·exact absurd h.symm hj
    exact h
   have hfr:(yL ops g (d.filter fun i=>L.getD i false) a).put o.dst v=yL ops (rF g i v) (d.filter fun j=>(L.setIfInBounds i true).getD j false) a:=by
    have nd:=hF.nodup;rw[e,List.nodup_append] at nd;have nil:=(List.nodup_cons.1 nd.2.1).1;have il:i∉l:=fun hm=>nd.2.2 i hm i (by simp) rfl
    have fl:∀m:List Nat,i∉m->m.filter (fun j=>(L.setIfInBounds i true).getD j false)=m.filter (fun j=>L.getD j false):=fun m hm=>List.filter_congr fun j hj=>by
     rw[getD_set_ne false (fun he=>hm (by rw[he];exact hj))]
    have same:∀m:List Nat,i∉m->∀b,yL ops g m b=yL ops (rF g i v) m b:=fun m hm b=>lC m b fun j hj=>by
     show g j=if j=i then v else g j
     rw[if_neg (fun he:j=i=>hm (by rw[<-he];exact hj))]
    rw[e,List.filter_append,List.filter_append,List.filter_cons,List.filter_cons,if_neg (by rw[K];simp),if_pos ((N i).2 (.inl rfl)),fl l il,fl r nil,dD,dD]
    show _=yL ops (rF g i v) (r.filter _) ((yL ops (rF g i v) (l.filter _) a).put (vO ops i) (rF g i v i));rw[sD]
    ·rw[same _ (fun hm=>il (List.mem_filter.1 hm).1),same _ (fun hm=>nil (List.mem_filter.1 hm).1)]
     have:vO ops i=o.dst:=by unfold vO;rw[ho];rfl
     rw[this];unfold rF;rw[if_pos rfl]
    intro j hj t ht;have hjr:=(List.mem_filter.1 hj).1;exact dist i U j (by rw[e];exact List.mem_append_right _ (List.mem_cons_of_mem _ hjr)) (fun he=>nil (he▸hjr)) t ht
   rw[hfr];refine ih _ _ _ (by simp[hsz]) (fun j hj=>(N j).2 (.inr (hL j hj))) ?_ hS' (fun j hj hjl=>?_) (fun j hj hjl k hk=>?_)
   ·have lt:(d.filter fun j=>!(L.setIfInBounds i true).getD j false).length<(d.filter fun j=>!L.getD j false).length:=by
     have nd:=hF.nodup;rw[e,List.nodup_append] at nd;have nil:=(List.nodup_cons.1 nd.2.1).1;have il:i∉l:=fun hm=>nd.2.2 i hm i (by simp) rfl
     have fl:∀m:List Nat,i∉m->m.filter (fun j=>!(L.setIfInBounds i true).getD j false)=m.filter (fun j=>!L.getD j false):=fun m hm=>List.filter_congr fun j hj=>by
      rw[getD_set_ne false (fun he=>hm (by rw[he];exact hj))]
     rw[e,List.filter_append,List.filter_append,List.filter_cons,List.filter_cons,if_neg (by rw[(N i).2 (.inl rfl)];simp),if_pos (by rw[K];rfl),fl l il,fl r nil]
     simp
    omega
   ·rcases(N j).1 hjl with rfl|hjl2
    ·exact hRi
    by_cases hji:j=i
    ·subst hji;exact hRi
    refine hRc j hj g (rF g i v) w' (by unfold rF;rw[if_neg hji]) (fun k hk hkw=>?_) (hRg j hj i U (fun he=>hji he.symm) (fun hm=>by rw[closed _ hcl _ j hj hjl2 i U hm] at K;cases K) g w w' hG (hR j hj hjl2))
    unfold rF
    by_cases hki:k=i
    ·
     subst hki;have:=hcl j hj hjl2 k hkw;rw[K] at this;cases this
    rw[if_neg hki]
   rcases(N j).1 hjl with rfl|hjl
   ·exact(N k).2 (.inr (hwl k hk))
   exact(N k).2 (.inr (hcl j hj hjl k hk))
  unfold wpOp;rw[ho];simp only;rw[hwt];have J:=J (fun a' w'=>∃v,a'=(yL ops g l a).put o.dst v/\S w'/\G i w w'/\R i (rF g i v) w') (fun v w' s1 s2 s3=>⟨v,rfl,s1,s2,s3⟩)
  have hsz2:(yL ops g l a).tmps.size=(yL ops g (d.filter fun i=>L.getD i false) a).tmps.size:=by rw[(mM g _ _).1,(mM g _ _).1]
  by_cases hwnt:Region.wanted o (yielded ops (yL ops g l a).tmps)=true
  ·rw[if_pos hwnt] at J ⊢
   exact .inl (zIz (Z:=fun v w'=>S w'/\G i w w'/\R i (rF g i v) w') hex hsz2 (fun v w' hz=>next v w' hz.1 hz.2.1 hz.2.2) J)
  rw[if_neg hwnt] at J ⊢;obtain⟨v,ev,s1,s2,s3⟩:=J;rw[zAp hsz2 ev];exact next v w s1 s2 s3
theorem uY {l:List Oper} {i:Nat} {o:Oper} {d:List Oper} (h:l.drop i=o::d):l.toArray[i]?=some o:=by
 have:=congrArg (fun m:List Oper=>m[0]?) h
 simpa using this
theorem yO {l g:List Oper} {i:Nat} {j:Oper} {v:Value} {e:Nat} {d:Array Bool} {a:Act} {w:World} (J:l.drop i=j::g)
  (N:Region.noSelect l.toArray=true) (u:Region.free md l.toArray d i=true) (K:(Region.ready md l.toArray d).contains i=true)
  (m:∀c a w,Q (.panic c) (a.put j.dst v) w->Q (.panic c) a w) (O:YieldsIf P l.toArray S j v a) (s:S w)
  (h:wpAnyH P md l.toArray Q S e (d.setIfInBounds i true) (a.put j.dst v) w):wpAnyH P md l.toArray Q S (e+1) d a w:=
 wpAnyH_take (uY J) N u K m O s h
theorem qC.cons1 {l e:List Oper} {G:Nat->World->World->Prop} {R:Nat->(Nat->Value)->World->Prop} {d:List Nat} {g:Nat->Value} {i:Nat} {m:List Nat} {a:Act} {o:Oper} (s:l.drop i=o::e)
  (h:∀w,S w->(∀ j,d.contains j=true->(xO md l.toArray i).contains j=true->R j g w)->∀K:Act->World->Prop,Shut (∀ v w',S w'->G i w w'->R i (rF g i v) w'->K (a.put o.dst v) w')->
   if Region.wanted o (yielded l.toArray a.tmps)=true then o.wp P a w K (NoPanic Q) else K (a.put o.dst undef) w)
  (u:qC P l.toArray md Q S G R d g m (a.put o.dst (g i))):qC P l.toArray md Q S G R d g (i::m) a:=
 qC.cons (uY s) h u
end
end
section
def Stp.up (d:Int) (s:Stp):Stp:=⟨s.f+d,s.l,s.t+d⟩
def jG (a b:Au):Au:=⟨a.st+b.st,a.le,a.fs++b.fs.map (·+a.st),a.gs++b.gs,a.ss++b.ss.map (Stp.up a.st)⟩
theorem pT {a b:Au} (g:vG a) (s:vG b) {q:Int}:(jG a b).good q↔(a.good q/\q<a.st)\/(b.good (q-a.st)/\a.st<=q):=by
 have j:=g.gl;have m:=g.st1;unfold Au.good jG;simp only[List.getD_eq_getElem?_getD]
 rcases Int.lt_or_le q a.st with h|h
 ·constructor
  ·rintro⟨e,d⟩
   rw[List.getElem?_append_left (by omega)] at d
   exact .inl ⟨⟨e,d⟩,h⟩
  rintro(⟨⟨e,d⟩,_⟩|⟨_,i⟩)
  ·exact⟨e,by rw[List.getElem?_append_left (by omega)];exact d⟩
  omega
 constructor
 ·rintro⟨e,d⟩
  rw[List.getElem?_append_right (by omega),show q.toNat-a.gs.length=(q-a.st).toNat by omega] at d
  exact .inr ⟨⟨by omega,d⟩,h⟩
 rintro(⟨_,i⟩|⟨⟨e,d⟩,_⟩)
 ·omega
 exact⟨by omega,by rw[List.getElem?_append_right (by omega),show q.toNat-a.gs.length=(q-a.st).toNat by omega];exact d⟩
theorem vC {a b:Au} {s:Stp}:s∈(jG a b).ss↔s∈a.ss\/(⟨s.f-a.st,s.l,s.t-a.st⟩:Stp)∈b.ss:=by
 unfold jG;simp only[List.mem_append,List.mem_map]
 constructor
 ·rintro(h|⟨t,h,rfl⟩)
  ·exact .inl h
  refine .inr ?_;have:(⟨t.f+a.st-a.st,t.l,t.t+a.st-a.st⟩:Stp)=t:=by cases t;simp
  simp only[Stp.up];rw[this];exact h
 rintro(h|h)
 ·exact .inl h
 exact .inr ⟨_,h,by cases s;simp[Stp.up]⟩
theorem zBi {a b:Au} (g:vG a) (s:vG b) (u:Nat->Int):xJ (jG a b) u↔xJ a u\/xJ b u:=by
 have U:=g.st1
 constructor
 ·rintro⟨r,e,j,N⟩
  rcases Int.lt_or_le (r 0) a.st with hr|hr
  ·left
   have O:∀i,r i<a.st:=by
    intro i
    induction i with
    |zero=>exact hr
    |succ i ih=>
     rcases vC.1 (j i) with h|h
     ·exact(g.sr _ h).2.1.2
     have:=(s.sr _ h).1.1;simp only at this;omega
   refine⟨r,?_,fun i=>?_,fun n=>?_⟩
   ·simp only[jG,List.mem_append,List.mem_map] at e
    rcases e with e|⟨f,hf,he⟩
    ·exact e
    have:=s.fr f hf;omega
   ·rcases vC.1 (j i) with h|h
    ·exact h
    have:=(s.sr _ h).1.1;simp only at this;have:=O i;omega
   obtain⟨m,K,d⟩:=N n
   rcases(pT g s).1 d with⟨h,_⟩|⟨_,h⟩
   ·exact⟨m,K,h⟩
   have:=O m;omega
  right
  have J:∀i,a.st<=r i:=by
   intro i
   induction i with
   |zero=>exact hr
   |succ i ih=>
    rcases vC.1 (j i) with h|h
    ·have:=(g.sr _ h).1.2
     simp only at this;omega
    have:=(s.sr _ h).2.1.1;simp only at this;omega
  refine⟨fun i=>r i-a.st,?_,fun i=>?_,fun n=>?_⟩
  ·simp only[jG,List.mem_append,List.mem_map] at e
   rcases e with e|⟨f,hf,he⟩
   ·have:=g.fr _ e
    omega
   show r 0-a.st∈b.fs;rw[<-he,show f+a.st-a.st=f by omega]
   exact hf
  ·rcases vC.1 (j i) with h|h
   ·have:=(g.sr _ h).1.2
    simp only at this;have:=J i;omega
   exact h
  obtain⟨m,K,d⟩:=N n
  rcases(pT g s).1 d with⟨_,h⟩|⟨h,_⟩
  ·have:=J m
   omega
  exact⟨m,K,h⟩
 rintro(⟨r,e,j,N⟩|⟨r,e,j,N⟩)
 ·refine⟨r,?_,fun i=>vC.2 (.inl (j i)),fun n=>?_⟩
  ·exact List.mem_append.2 (.inl e)
  obtain⟨m,K,d⟩:=N n;have:=(g.sr _ (j m)).1;exact⟨m,K,(pT g s).2 (.inl ⟨d,this.2⟩)⟩
 have J:∀i,0<=r i:=fun i=>(s.sr _ (j i)).1.1
 refine⟨fun i=>r i+a.st,?_,fun i=>?_,fun n=>?_⟩
 ·exact List.mem_append.2 (.inr (List.mem_map.2 ⟨r 0,e,rfl⟩))
 ·refine vC.2 (.inr ?_)
  simp only[show r i+a.st-a.st=r i by omega,show r (i+1)+a.st-a.st=r (i+1) by omega]
  exact j i
 obtain⟨m,K,d⟩:=N n;refine⟨m,K,(pT g s).2 (.inr ?_)⟩;show b.good (r m+a.st-a.st)/\a.st<=r m+a.st;rw[show r m+a.st-a.st=r m by omega]
 exact⟨d,by have:=J m;omega⟩
theorem zFc {a b:Au} (J:ckA a=0) (K:ckA b=0) (j:a.st+b.st<=300) (h0:a.ss.length+b.ss.length<=6000) (O:a.le=b.le):ckA (jG a b)=0:=by
 obtain⟨d,sa⟩:=yP.1 J;obtain⟨e,sb⟩:=yP.1 K;have a1:=d.st1;have a2:=d.gl;have b1:=e.st1;have b2:=e.gl;refine yP.2 ⟨⟨?_,j,d.le1,d.le2,?_,?_,?_,?_,?_⟩,?_⟩
 ·show 1<=a.st+b.st;omega
 ·show((a.gs++b.gs).length:Int)=a.st+b.st
  simp;omega
 ·show(a.ss++b.ss.map _).length<=6000
  simp;omega
 ·intro f N
  show 0<=f/\f<a.st+b.st
  rcases List.mem_append.1 N with h|h
  ·have:=d.fr f h;omega
  obtain⟨g,i,rfl⟩:=List.mem_map.1 h;have:=e.fr g i;omega
 ·refine List.pairwise_append.2 ⟨d.fo,?_,?_⟩
  ·rw[List.pairwise_map]
   exact e.fo.imp (fun h=>by omega)
  intro x m y u;obtain⟨g,i,rfl⟩:=List.mem_map.1 u;have:=d.fr x m;have:=e.fr g i;omega
 ·intro s U
  show(0<=s.f/\s.f<a.st+b.st)/\(0<=s.t/\s.t<a.st+b.st)/\0<=s.l/\s.l<a.le
  rcases vC.1 U with h|h
  ·have:=d.sr s h;omega
  have:=e.sr _ h;simp only at this;omega
 refine List.pairwise_append.2 ⟨sa,?_,?_⟩
 ·rw[List.pairwise_map]
  refine sb.imp (fun{s t} h=>?_)
  rw[jX] at *;simp only[Stp.up];omega
 intro x m y u;obtain⟨g,i,rfl⟩:=List.mem_map.1 u;have:=d.sr x m;have:=e.sr g i;rw[jX];simp only[Stp.up];omega
def qK (b:Au) (x y w:Int):Int:=(x*b.st+y)*3+w
open Classical in
noncomputable def qO (a b:Au) (x y w:Int):Int:=
 let w0:=if w=2 then 0 else w
 let w1:=if w0=0/\a.good x then 1 else w0
 if w1=1/\b.good y then 2 else w1
structure zHi (a b p:Au):Prop where
 st:p.st=3*a.st*b.st
 fs:∀q,q∈p.fs↔∃x∈a.fs,∃y∈b.fs,q=qK b x y 0
 gs:∀x y w:Int,0<=x->x<a.st->0<=y->y<b.st->0<=w->w<3->(p.good (qK b x y w)↔w=2)
 ss:∀s,s∈p.ss↔∃t∈a.ss,∃t'∈b.ss,t.l=t'.l/\∃w:Int,0<=w/\w<3/\s=⟨qK b t.f t'.f w,t.l,qK b t.t t'.t (qO a b t.f t'.f w)⟩
open Classical in
theorem cU (a b:Au) (x y w:Int) (h:0<=w/\w<3):0<=qO a b x y w/\qO a b x y w<3:=by
 unfold qO
 dsimp only
 have d:0<=(if w=2 then 0 else w)/\(if w=2 then 0 else w)<3:=by split<;>omega
 generalize (if w=2 then 0 else w)=w0 at *
 have e:0<=(if w0=0/\a.good x then 1 else w0)/\(if w0=0/\a.good x then 1 else w0)<3:=by split<;>omega
 generalize (if w0=0/\a.good x then 1 else w0)=w1 at *
 split<;>omega
theorem iQ {b:Au} {x y w d e w':Int} (h:qK b x y w=qK b d e w') (i:0<=y/\y<b.st) (g:0<=e/\e<b.st) (O:0<=w/\w<3) (K:0<=w'/\w'<3):x=d/\y=e/\w=w':=by
 unfold qK at h;have s:x*b.st+y=d*b.st+e:=by omega
 have u:w=w':=by omega
 have N:0<b.st:=by omega
 have j:(x*b.st+y)/b.st=x:=by rw[Int.add_comm,Int.add_mul_ediv_right _ _ (by omega),Int.ediv_eq_zero_of_lt i.1 i.2];omega
 have m:(d*b.st+e)/b.st=d:=by rw[Int.add_comm,Int.add_mul_ediv_right _ _ (by omega),Int.ediv_eq_zero_of_lt g.1 g.2];omega
 have J:x=d:=by rw[<-j,s,m]
 subst J;exact⟨rfl,by omega,u⟩
noncomputable def iU (a b:Au) (r r':Nat->Int):Nat->Int
 |0=>0
 |i+1=>qO a b (r i) (r' i) (iU a b r r' i)
theorem cB (a b:Au) (r r':Nat->Int):∀i,0<=iU a b r r' i/\iU a b r r' i<3
 |0=>by simp[iU]
 |i+1=>cU _ _ _ _ _ (cB a b r r' i)
theorem rU {P:Nat->Prop} {n m:Nat} (J:n<=m) (h:P m):∃k,n<=k/\P k/\∀i,n<=i->i<k->¬P i:=by
 have:∀d m,m=n+d->P m->∃k,n<=k/\P k/\∀i,n<=i->i<k->¬P i:=by
  intro d
  induction d using Nat.strongRecOn with
  |_ d ih=>
   intro m u s
   by_cases h:∃i,n<=i/\i<m/\P i
   ·obtain⟨i,g,j,e⟩:=h
    exact ih (i-n) (by omega) i (by omega) e
   exact⟨m,by omega,s,fun i g j e=>h ⟨i,g,j,e⟩⟩
 exact this (m-n) m (by omega) h
section
variable {a b:Au} {r r':Nat->Int} {W:Nat->Int}
theorem zEW (s:∀i,W (i+1)=qO a b (r i) (r' i) (W i)) (N:∀i,0<=W i/\W i<3) (hg:∀n,∃m,n<=m/\a.good (r m)) (J:∀n,∃m,n<=m/\b.good (r' m)) (n:Nat):∃m,n<=m/\W m=2:=by
 have one:∀n,W n=1->∃m,n<=m/\W m=2:=by
  intro n O;obtain⟨m0,j,h⟩:=J n;obtain⟨m,j,h,u⟩:=rU (P:=fun i=>b.good (r' i)) j h
  have g:∀d,n+d<=m->W (n+d)=1:=by
   intro d
   induction d with
   |zero=>intro _;exact O
   |succ d ih=>
    intro U;have e:=ih (by omega)
    rw[<-Nat.add_assoc,s,e];have:=u (n+d) (by omega) (by omega)
    simp[qO,this]
  have e:=g (m-n) (by omega)
  rw[show n+(m-n)=m by omega] at e
  exact⟨m+1,by omega,by rw[s,e];simp[qO,h]⟩
 have zero:∀n,W n=0->∃m,n<=m/\W m=2:=by
  intro n O;obtain⟨m0,j,h⟩:=hg n;obtain⟨m,j,h,u⟩:=rU (P:=fun i=>a.good (r i)) j h
  have g:∀d,n+d<=m->W (n+d)=0:=by
   intro d
   induction d with
   |zero=>intro _;exact O
   |succ d ih=>
    intro U;have e:=ih (by omega)
    rw[<-Nat.add_assoc,s,e];have:=u (n+d) (by omega) (by omega)
    simp[qO,this]
  have e:=g (m-n) (by omega)
  rw[show n+(m-n)=m by omega] at e
  by_cases hb:b.good (r' m)
  ·exact⟨m+1,by omega,by rw[s,e];simp[qO,h,hb]⟩
  obtain⟨k,hk,K⟩:=one (m+1) (by rw[s,e];simp[qO,h,hb])
  exact⟨k,by omega,K⟩
 have:=N n
 by_cases h:W n=2
 ·exact⟨n,nLe,h⟩
 by_cases j:W n=1
 ·exact one n j
 exact zero n (by omega)
theorem zDR (j:∀i,W (i+1)=qO a b (r i) (r' i) (W i)) {n m:Nat} (K:W n=2) (N:n<m) (J:W m=2):(∃ i,n<=i/\a.good (r i))/\∃i,n<=i/\b.good (r' i):=by
 constructor
 ·apply Classical.byContradiction
  intro g;have e:∀i,n<=i->¬a.good (r i):=fun i s u=>g ⟨i,s,u⟩
  have:∀d,W (n+d+1)=0:=by
   intro d
   induction d with
   |zero=>rw[Nat.add_zero,j,K];simp[qO,e n nLe]
   |succ d ih=>
    rw[show n+(d+1)+1=(n+d+1)+1 by omega,j,ih]
    simp[qO,e (n+d+1) (by omega)]
  have:=this (m-n-1);rw[show n+(m-n-1)+1=m by omega,J] at this
  cases this
 apply Classical.byContradiction
 intro g;have e:∀i,n<=i->¬b.good (r' i):=fun i s u=>g ⟨i,s,u⟩
 have:∀d,W (n+d+1)=0\/W (n+d+1)=1:=by
  intro d
  induction d with
  |zero=>rw[Nat.add_zero,j,K];by_cases h:a.good (r n)<;>simp[qO,e n nLe,h]
  |succ d ih=>
   rw[show n+(d+1)+1=(n+d+1)+1 by omega,j]
   rcases ih with ih|ih
   ·rw[ih];by_cases h:a.good (r (n+d+1))<;>simp[qO,e (n+d+1) (by omega),h]
   rw[ih];simp[qO,e (n+d+1) (by omega)]
 have:=this (m-n-1);rw[show n+(m-n-1)+1=m by omega,J] at this
 rcases this with h|h<;>cases h
end
theorem zD4 {a b p:Au} (ha:vG a) (hb:vG b) (O:zHi a b p) (u:Nat->Int):xJ p u↔xJ a u/\xJ b u:=by
 constructor
 ·rintro⟨r,h0,hs,hg⟩
  have step:∀i,∃t∈a.ss,∃J∈b.ss,t.l=u i/\J.l=u i/\∃w:Int,(0<=w/\w<3)/\r i=qK b t.f J.f w/\r (i+1)=qK b t.t J.t (qO a b t.f J.f w):=fun i=>by
   obtain⟨t,U,J,d,hl,w,w1,w2,he⟩:=(O.ss _).1 (hs i);have e1:=congrArg Stp.f he;have e2:=congrArg Stp.l he;have e3:=congrArg Stp.t he;exact⟨t,U,J,d,e2.symm,by rw[<-hl];exact e2.symm,w,⟨w1,w2⟩,e1,e3⟩
  have N:∃X Y W:Nat->Int,∀i,r i=qK b (X i) (Y i) (W i)/\(0<=X i/\X i<a.st)/\(0<=Y i/\Y i<b.st)/\(0<=W i/\W i<3)/\(⟨X i,u i,X (i+1)⟩:Stp)∈a.ss/\(⟨Y i,u i,Y (i+1)⟩:Stp)∈b.ss/\W (i+1)=qO a b (X i) (Y i) (W i):=by
   have g:∀i,∃x y w:Int,r i=qK b x y w/\(0<=x/\x<a.st)/\(0<=y/\y<b.st)/\(0<=w/\w<3):=fun i=>by
    obtain⟨t,U,J,d,_,_,w,hw,e1,_⟩:=step i;exact⟨t.f,J.f,w,e1,(ha.sr _ U).1,(hb.sr _ d).1,hw⟩
   refine⟨fun i=>Classical.choose (g i),fun i=>Classical.choose (Classical.choose_spec (g i)),fun i=>Classical.choose (Classical.choose_spec (Classical.choose_spec (g i))),fun i=>?_⟩
   dsimp only
   have s0:=Classical.choose_spec (Classical.choose_spec (Classical.choose_spec (g i)));have s1:=Classical.choose_spec (Classical.choose_spec (Classical.choose_spec (g (i+1))))
   generalize Classical.choose (Classical.choose_spec (Classical.choose_spec (g i)))=w at *;generalize Classical.choose (Classical.choose_spec (Classical.choose_spec (g (i+1))))=w' at *
   generalize Classical.choose (Classical.choose_spec (g i))=y at *;generalize Classical.choose (Classical.choose_spec (g (i+1)))=y' at *;generalize Classical.choose (g i)=x at *
   generalize Classical.choose (g (i+1))=x' at *;obtain⟨e0,x0,y0,w0⟩:=s0;obtain⟨e1,x1,y1,w1⟩:=s1;refine⟨e0,x0,y0,w0,?_⟩;obtain⟨t,U,J,d,l1,l2,v,hv,f1,f2⟩:=step i;have st:=ha.sr _ U
   have st':=hb.sr _ d;obtain⟨rfl,rfl,rfl⟩:=iQ (e0.symm.trans f1) y0 st'.1 w0 hv;obtain⟨rfl,rfl,rfl⟩:=iQ (e1.symm.trans f2) y1 st'.2.1 w1 (cU _ _ _ _ _ hv);refine⟨?_,?_,rfl⟩
   ·rw[<-l1];exact U
   rw[<-l2];exact d
  obtain⟨X,Y,W,h⟩:=N;have hf:=(O.fs _).1 h0;obtain⟨x,hx,y,hy,e⟩:=hf;obtain⟨rfl,rfl,hw0⟩:=iQ ((h 0).1.symm.trans e) (h 0).2.2.1 (hb.fr _ hy) (h 0).2.2.2.1 (by decide)
  have two:∀n,∃m,n<=m/\W m=2:=fun n=>by
   obtain⟨m,hm,hgm⟩:=hg n;rw[(h m).1] at hgm;exact⟨m,hm,(O.gs _ _ _ (h m).2.1.1 (h m).2.1.2 (h m).2.2.1.1 (h m).2.2.1.2 (h m).2.2.2.1.1 (h m).2.2.2.1.2).1 hgm⟩
  have K:∀n,(∃ i,n<=i/\a.good (X i))/\∃i,n<=i/\b.good (Y i):=fun n=>by
   obtain⟨m,hm,h2⟩:=two n;obtain⟨m',hm',h2'⟩:=two (m+1);have:=zDR (fun i=>(h i).2.2.2.2.2.2) h2 hm' h2'
   obtain⟨⟨i,hi,gi⟩,⟨j,hj,gj⟩⟩:=this;exact⟨⟨i,by omega,gi⟩,⟨j,by omega,gj⟩⟩
  exact⟨⟨X,hx,fun i=>(h i).2.2.2.2.1,fun n=>(K n).1⟩,⟨Y,hy,fun i=>(h i).2.2.2.2.2.1,fun n=>(K n).2⟩⟩
 rintro⟨⟨r,h0,hs,hg⟩,⟨r',h0',hs',hg'⟩⟩;refine⟨fun i=>qK b (r i) (r' i) (iU a b r r' i),?_,fun i=>?_,fun n=>?_⟩
 ·exact(O.fs _).2 ⟨r 0,h0,r' 0,h0',rfl⟩
 ·have:=cB a b r r' i
  exact(O.ss _).2 ⟨_,hs i,_,hs' i,rfl,iU a b r r' i,this.1,this.2,rfl⟩
 obtain⟨m,hm,h2⟩:=zEW (fun i=>rfl) (cB a b r r') hg hg' n
 have w:=cB a b r r' m;have s:=(ha.sr _ (hs m)).1;have s':=(hb.sr _ (hs' m)).1;exact⟨m,hm,(O.gs _ _ _ s.1 s.2 s'.1 s'.2 w.1 w.2).2 h2⟩
end
section
open Go Go.RowKit Go.Sort
def dC (w:World) (r:Au) (n:Int) (e:Ending) (w':World):Prop:=∃A B C ca cb cc,e=.returned (.tuple #[.agg #[r.st,r.le,.slice A r.fs.length ca,.slice B r.gs.length cb,.slice C r.ss.length cc],n])/\zM w' w.heap.size r A B C ca cb cc/\Below w w w'
def zAf:Au:=⟨0,0,[],[],[]⟩
theorem zCM (w:World) (lo:Nat):zM w lo zAf none none none 0 0 0:=⟨⟨nLe,by omega,by simp[zAf],Rd.nil,Fz.no⟩,⟨nLe,by omega,by simp[zAf],Rd.nil,Fz.no⟩,⟨nLe,by omega,by simp[zAf],Rd.nil,Fz.no⟩⟩
def fC (a b:Au):Int:=if jE a b=0 then(if 300<a.st+b.st\/6000<(a.ss.length:Int)+b.ss.length then 2 else 0) else jE a b
def qH (a b:Au):Au:=if fC a b=0 then jG a b else zAf
theorem bH {a b:Au}:jE a b=0↔ckA a=0/\ckA b=0/\a.le=b.le:=by
 unfold jE
 by_cases h1:ckA a=0<;>by_cases h2:ckA b=0<;>by_cases h3:a.le=b.le<;>simp[h1,h2,h3]
structure zLP (w W:World) (V:Nat) (a b:Au) (A B C D E F:Option Addr) (ca cb cc cd ce cf:Nat):Prop where
 below:Below w w W
 size:W.heap.size=V+3
 at1:yG W V a A B C ca cb cc
 at2:yG W (V+1) b D E F cd ce cf
 obj:W.heap[V+2]?=some (.cells #[(0:Int),(0:Int),(),(),()] 31 (0,0))
theorem zEz (w:World) (a b:Au) (A B C D E F:Option Addr) (ca cb cc cd ce cf:Nat):zLP w ((bT w a b A B C D E F ca cb cc cd ce cf).alloc (.cells #[(0:Int),(0:Int),(),(),()] 31)) w.heap.size a b A B C D E F ca cb cc cd ce cf:=by
 have h:=cJ w a b A B C D E F ca cb cc cd ce cf
 have d:Below (bT w a b A B C D E F ca cb cc cd ce cf).heap.size (bT w a b A B C D E F ca cb cc cd ce cf) ((bT w a b A B C D E F ca cb cc cd ce cf).alloc (.cells #[(0:Int),(0:Int),(),(),()] 31)):=bLa
 refine⟨zA h.below d h.below.size,by simp[h.size],h.at1.below d h.at1.lt,h.at2.below d h.at2.lt,?_⟩
 rw[<-h.size];show((bT w a b A B C D E F ca cb cc cd ce cf).heap.push _)[(bT w a b A B C D E F ca cb cc cd ce cf).heap.size]?=_
 simp
def upF (a b:Au) (k:Nat):List Int:=a.fs++(b.fs.take k).map (·+a.st)
def upS (a b:Au) (k:Nat):List Stp:=a.ss++(b.ss.take k).map (Stp.up a.st)
theorem zHf (a b:Au) {k:Nat} (h:k<b.fs.length):upF a b (k+1)=upF a b k++[b.fs[k]+a.st]:=by
 unfold upF;rw[List.take_succ_eq_append_getElem h,List.map_append,<-List.append_assoc];rfl
theorem zFM (a b:Au) {k:Nat} (h:k<b.ss.length):upS a b (k+1)=upS a b k++[⟨b.ss[k].f+a.st,b.ss[k].l,b.ss[k].t+a.st⟩]:=by
 unfold upS;rw[List.take_succ_eq_append_getElem h,List.map_append,<-List.append_assoc];rfl
theorem zBg (a b:Au) {k:Nat} (h:k<=b.fs.length):(upF a b k).length=a.fs.length+k:=by simp[upF,h]
theorem zEo (a b:Au) {k:Nat} (h:k<=b.ss.length):(upS a b k).length=a.ss.length+k:=by simp[upS,h]
def StA (w w':World):Prop:=∃g u0 u1 u2 u3 u4 v0 v1 v2 v3 v4,w.heap[g]?=some (.cells #[u0,u1,u2,u3,u4] 31 (0,0))/\w.grownBy w' (some g)/\w'.heap[g]?=some (.cells #[v0,v1,v2,v3,v4] 31 (0,0))
theorem StA.own {w w':World} {B:Nat} {e:TypeId} {sz n:Nat} {v:Value} {xs:List Value} (h:StA w w') (d:w.ownsRow B e sz v n xs) (m:31≠e):w'.ownsRow B e sz v n xs:=by
 obtain⟨g,_,_,_,_,_,_,_,_,_,_,i,j,_⟩:=h;exact World.ownsRow.kept d j (.inr (wG d i m))
theorem StA.block {w w':World} {k:Nat} {cs:Array Value} {t:TypeId} {m:Nat×Nat} (h:StA w w') (i:w.heap[k]?=some (.cells cs t m)) (s:t≠31):w'.heap[k]?=some (.cells cs t m):=by
 obtain⟨g,_,_,_,_,_,_,_,_,_,_,d,j,_⟩:=h;refine(j.block k (gLt i) fun e=>?_).trans i
 obtain rfl:k=g:=by simpa using e
 rw[i] at d
 simp at d
 exact s d.2.1
theorem StA.obj {w w':World} {k:Nat} {d i j m s:Value} (h:StA w w') (u:w.heap[k]?=some (.cells #[d,i,j,m,s] 31 (0,0))):∃d i j m s,w'.heap[k]?=some (.cells #[d,i,j,m,s] 31 (0,0)):=by
 obtain⟨g,_,_,_,_,_,d,i,j,m,s,N,J,K⟩:=h
 by_cases e:k=g
 ·subst e;exact⟨d,i,j,m,s,K⟩
 exact⟨_,_,_,_,_,(J.block k (gLt u) (by simpa using e)).trans u⟩
theorem StA.set {w:World} {g:Nat} {s u J K N:Value} (h:w.heap[g]?=some (.cells #[s,u,J,K,N] 31 (0,0))) (d e i j m:Value):StA w (set5 w g d e i j m):=
 ⟨g,_,_,_,_,_,d,e,i,j,m,h,zO (zO (zO (zO (yQ _ _ _ _) (yQ _ _ _ _)) (yQ _ _ _ _)) (yQ _ _ _ _)) (yQ _ _ _ _),zW h _ _ _ _ _⟩
theorem zEA (w:World) (o:Obj):(w.alloc o).heap[w.heap.size]?=some o:=by
 show(w.heap.push _)[w.heap.size]?=_
 simp
theorem Below.at_blk {w w':World} (h:Below w w w') {k:Nat} {o:Obj} (d:w.heap[k]?=some o):w'.heap[k]?=some o:=(h.block k (gLt d)).trans d
theorem zEF (a b:Au) (A B C D E F:Option Addr) (ca cb cc cd ce cf:Nat) (w:World) (ha:zM w 0 a A B C ca cb cc) (hb:zM w 0 b D E F cd ce cf):
  Calls Tryz.prog 21 #[.agg #[a.st,a.le,.slice A a.fs.length ca,.slice B a.gs.length cb,.slice C a.ss.length cc],.agg #[b.st,b.le,.slice D b.fs.length cd,.slice E b.gs.length ce,.slice F b.ss.length cf]] w (dC w (qH a b) (fC a b)):=by
 have HZ:=zEz w a b A B C D E F ca cb cc cd ce cf;unfold bT auW at HZ
 go_enter Tryz.func21,Tryz.ntmps21
 go_upto_region 1 with fail
 obtain⟨V,hV⟩:∃V,V=w.heap.size:=⟨_,rfl⟩;rw[<-hV] at HZ;rw[show w.heap.size+1+1=V+2 by omega,show w.heap.size+1=V+1 by omega,<-hV]
 generalize ((w.alloc (.cells #[a.st,a.le,.slice A a.fs.length ca,.slice B a.gs.length cb,.slice C a.ss.length cc] 31)).alloc (.cells #[b.st,b.le,.slice D b.fs.length cd,.slice E b.gs.length ce,.slice F b.ss.length cf] 31)).alloc (.cells #[(0:Int),(0:Int),(),(),()] 31)=W0 at *
 have HB0:=hId HZ.below;have HSZ:=hId HZ.size;have HV1:Hid (∀ W,Below W0 W0 W->yG W V a A B C ca cb cc):=fun W h=>HZ.at1.below h HZ.at1.lt
 have HV2:Hid (∀ W,Below W0 W0 W->yG W (V+1) b D E F cd ce cf):=fun W h=>HZ.at2.below h HZ.at2.lt
 have HOB:=hId HZ.obj;have HA0:Hid (∀ W,Below W0 W0 W->zM W 0 a A B C ca cb cc):=fun W h=>(ha.below HZ.below).below h
 have HBR:Hid (∀ W,Below W0 W0 W->zM W 0 b D E F cd ce cf):=fun W h=>(hb.below HZ.below).below h
 have HVV:=hId hV
 have HRW:Hid (∀ W,Below W0 W0 W->W.heap[V+2]?=some (.cells #[(0:Int),(0:Int),(),(),()] 31 (0,0))):=fun W h=>(h.block _ (by have:=HZ.size;omega)).trans HZ.obj
 have HBF:Hid (∀ W,Below W0 W0 W->∀u0 u1 u2 u3 u4,Below w w (set5 W (V+2) u0 u1 u2 u3 u4)):=fun W h u0 u1 u2 u3 u4=>
  zS (zA HB0.o h HB0.o.size) (by rw[<-hV];omega) _ _ _ _ _
 have HNUL:Hid (∀ W,Below W0 W0 W->∀n,fC a b=n->n≠0->dC w (qH a b) (fC a b) (.returned (.tuple #[.agg #[(0:Int),(0:Int),(),(),()],n])) (set5 W (V+2) (.int .i64 0) (.int .i64 0) () () ())):=fun W h n hn h0=>by
  unfold qH;rw[if_neg (by rw[hn];exact h0),hn]
  exact⟨none,none,none,0,0,0,rfl,zCM _ _,HBF.o _ h _ _ _ _ _⟩
 have HOO:Hid (∀ W,Below W0 W0 W->∀v0 v1 v2 v3 v4,(set5 W (V+2) v0 v1 v2 v3 v4).heap[V+2]?=some (.cells #[v0,v1,v2,v3,v4] 31 (0,0))):=fun W h v0 v1 v2 v3 v4=>zW (HRW.o W h) _ _ _ _ _
 obtain⟨_,c0,c1,u,U,c4⟩:=HZ.at1;obtain⟨_,d0,d1,d2,d3,d4⟩:=HZ.at2;have HRY:=hId (zHt a b A B C D E F ca cb cc cd ce cf W0 (HA0.o _ bRf) (HBR.o _ bRf));clear HZ ha hb hV
 go_wp2_with fail
 refine HRY.o.mono ?_;rintro e w1 ⟨rfl,hb1⟩;have m:=hId hb1;clear hb1 HRY c0 c1 u U c4 d0 d1 d2 d3 d4;obtain⟨r0,r1,r2,r3,r4,rf0,rf1,rf2,rf3,rf4⟩:=zZ (HRW.o _ m.o)
 by_cases hr0:jE a b=0
 ·have hr1:(jE a b !=0)=false:=by simp[hr0]
  obtain⟨hka,hkb,hle⟩:=bH.1 hr0;have HOA:=hId (yP.1 hka).1;have HOB2:=hId (yP.1 hkb).1;have HR0:=hId hr0;have sa1:=HOA.o.st1;have sa2:=HOA.o.st2;have sb1:=HOB2.o.st1;have sb2:=HOB2.o.st2;have la:=HOA.o.sl
  have lb:=HOB2.o.sl;obtain⟨_,c0,c1,u,U,c4⟩:=HV1.o _ m.o;obtain⟨_,d0,d1,d2,d3,d4⟩:=HV2.o _ m.o
  have HNO:Hid (∀ W,Below W0 W0 W->(300<a.st+b.st\/6000<(a.ss.length:Int)+b.ss.length)->dC w (qH a b) (fC a b) (.returned (.tuple #[.agg #[(0:Int),(0:Int),(),(),()],(2:Int)])) (set5 W (V+2) (.int .i64 0) (.int .i64 0) () () ())):=fun W h hc=>HNUL.o W h 2 (by unfold fC;rw[if_pos HR0.o,if_pos hc]) (by decide)
  have HYE:Hid (¬ (300<a.st+b.st\/6000<(a.ss.length:Int)+b.ss.length)->fC a b=0/\qH a b=jG a b):=fun hc=>by
   have h1:fC a b=0:=by unfold fC;rw[if_pos HR0.o,if_neg hc]
   exact⟨h1,by unfold qH;rw[if_pos h1]⟩
  clear hr0 hka hkb hle HNUL
  by_cases h3:300<a.st+b.st
  ·have HP:=hId (HNO.o _ m.o (.inl h3))
   have HO1:=hId (HOO.o _ m.o (.int .i64 0) (.int .i64 0) () () ())
   go_wp2_with fail
   exact bodyPost_ret (pX Tryz.results21 _ _ (V+2) rfl rfl HO1.o) rfl HP.o
  by_cases h6:6000<(a.ss.length:Int)+b.ss.length
  ·have HP:=hId (HNO.o _ m.o (.inr h6))
   have HO1:=hId (HOO.o _ m.o (.int .i64 0) (.int .i64 0) () () ())
   go_wp2_with fail
   exact bodyPost_ret (pX Tryz.results21 _ _ (V+2) rfl rfl HO1.o) rfl HP.o
  obtain⟨hz,hv⟩:=HYE.o (by omega)
  have HZV:=hId (And.intro hz hv);clear hz hv HNO HYE
  go_upto_region 6 with fail
  clear c0 c1 u U c4 d0 d1 d2 d3 d4 r0 r1 r2 r3 r4 rf0 rf1 rf2 rf3 rf4 h3 h6;have J:Hid (∀ W,Below w1 w1 W->yG W V a A B C ca cb cc):=fun W h=>HV1.o W (zA m.o h m.o.size)
  have O:Hid (∀ W,Below w1 w1 W->yG W (V+1) b D E F cd ce cf):=fun W h=>HV2.o W (zA m.o h m.o.size)
  have HRA:Hid (∀ W,Below w1 w1 W->zM W 0 a A B C ca cb cc):=fun W h=>HA0.o W (zA m.o h m.o.size)
  have HRB:Hid (∀ W,Below w1 w1 W->zM W 0 b D E F cd ce cf):=fun W h=>HBR.o W (zA m.o h m.o.size)
  have HGL:Hid (a.gs.length+b.gs.length<=100000000):=by have:=HOA.o.gl;have:=HOB2.o.gl;show _<=_;omega
  have hs1:IntKind.i64.wrap (a.st+b.st)=a.st+b.st:=IntWalk.i64_in _ (by omega)
  refine wp_region_held_drew (S:=fun w'=>Below w1 w1 w') (by kernel_rfl) (bRf.drew) (fun N=>?_)
  refine yO (i:=0) (v:=?_) rfl (by kernel_rfl) (by kernel_rfl) (by kernel_rfl) (fun _ _ _ h=>h) (Or.inl ⟨by rfl,?_⟩) N ?_
  rotate_left
  ·intro w d;obtain⟨_,c0,c1,u,U,c4⟩:=J.o w d;obtain⟨_,d0,d1,d2,d3,d4⟩:=O.o w d;go_simp;(try with_reducible rfl)
  (try simp only[lAy])
  refine yO (i:=1) (v:=?_) rfl (by kernel_rfl) (by kernel_rfl) (by kernel_rfl) (fun _ _ _ h=>h) (Or.inl ⟨by rfl,?_⟩) N ?_
  rotate_left
  ·intro w d;obtain⟨_,c0,c1,u,U,c4⟩:=J.o w d;obtain⟨_,d0,d1,d2,d3,d4⟩:=O.o w d;go_simp;(try with_reducible rfl)
  (try simp only[lAy])
  refine yO (i:=2) (v:=?_) rfl (by kernel_rfl) (by kernel_rfl) (by kernel_rfl) (fun _ _ _ h=>h) (Or.inl ⟨by rfl,?_⟩) N ?_
  rotate_left
  ·intro w d;obtain⟨_,c0,c1,u,U,c4⟩:=J.o w d;obtain⟨_,d0,d1,d2,d3,d4⟩:=O.o w d;go_simp;(try with_reducible rfl)
  (try simp only[lAy])
  refine yO (i:=3) (v:=?_) rfl (by kernel_rfl) (by kernel_rfl) (by kernel_rfl) (fun _ _ _ h=>h) (Or.inl ⟨by rfl,?_⟩) N ?_
  rotate_left
  ·intro w d;obtain⟨_,c0,c1,u,U,c4⟩:=J.o w d;obtain⟨_,d0,d1,d2,d3,d4⟩:=O.o w d;go_simp;(try with_reducible rfl)
  (try simp only[lAy])
  refine yO (i:=4) (v:=?_) rfl (by kernel_rfl) (by kernel_rfl) (by kernel_rfl) (fun _ _ _ h=>h) (Or.inl ⟨by rfl,?_⟩) N ?_
  rotate_left
  ·intro w d;obtain⟨_,c0,c1,u,U,c4⟩:=J.o w d;obtain⟨_,d0,d1,d2,d3,d4⟩:=O.o w d;go_simp;(try with_reducible rfl)
  (try simp only[lAy])
  refine yO (i:=5) (v:=?_) rfl (by kernel_rfl) (by kernel_rfl) (by kernel_rfl) (fun _ _ _ h=>h) (Or.inl ⟨by rfl,?_⟩) N ?_
  rotate_left
  ·intro w d;obtain⟨_,c0,c1,u,U,c4⟩:=J.o w d;obtain⟨_,d0,d1,d2,d3,d4⟩:=O.o w d;go_simp;(try with_reducible rfl)
  (try simp only[lAy])
  refine yO (i:=6) (v:=?_) rfl (by kernel_rfl) (by kernel_rfl) (by kernel_rfl) (fun _ _ _ h=>h) (Or.inl ⟨by rfl,?_⟩) N ?_
  rotate_left
  ·intro w d;obtain⟨_,c0,c1,u,U,c4⟩:=J.o w d;obtain⟨_,d0,d1,d2,d3,d4⟩:=O.o w d;go_simp;(try with_reducible rfl)
  (try simp only[lAy])
  refine yO (i:=7) (v:=?_) rfl (by kernel_rfl) (by kernel_rfl) (by kernel_rfl) (fun _ _ _ h=>h) (Or.inl ⟨by rfl,?_⟩) N ?_
  rotate_left
  ·intro w d;obtain⟨_,c0,c1,u,U,c4⟩:=J.o w d;obtain⟨_,d0,d1,d2,d3,d4⟩:=O.o w d;go_simp;(try with_reducible rfl)
  (try simp only[lAy])
  refine yO (i:=8) (v:=?_) rfl (by kernel_rfl) (by kernel_rfl) (by kernel_rfl) (fun _ _ _ h=>h) (Or.inl ⟨by rfl,?_⟩) N ?_
  rotate_left
  ·intro w d;obtain⟨_,c0,c1,u,U,c4⟩:=J.o w d;obtain⟨_,d0,d1,d2,d3,d4⟩:=O.o w d;go_simp;(try with_reducible rfl)
  (try simp only[lAy])
  refine yO (i:=10) (v:=?_) rfl (by kernel_rfl) (by kernel_rfl) (by kernel_rfl) (fun _ _ _ h=>h) (Or.inl ⟨by rfl,?_⟩) N ?_
  rotate_left
  ·intro w d;obtain⟨_,c0,c1,u,U,c4⟩:=J.o w d;obtain⟨_,d0,d1,d2,d3,d4⟩:=O.o w d;go_simp;(try with_reducible rfl)
  (try simp only[lAy])
  refine yO (i:=11) (v:=?_) rfl (by kernel_rfl) (by kernel_rfl) (by kernel_rfl) (fun _ _ _ h=>h) (Or.inl ⟨by rfl,?_⟩) N ?_
  rotate_left
  ·intro w d;obtain⟨_,c0,c1,u,U,c4⟩:=J.o w d;obtain⟨_,d0,d1,d2,d3,d4⟩:=O.o w d;go_simp;(try with_reducible rfl)
  (try simp only[lAy])
  refine yO (i:=12) (v:=?_) rfl (by kernel_rfl) (by kernel_rfl) (by kernel_rfl) (fun _ _ _ h=>h) (Or.inl ⟨by rfl,?_⟩) N ?_
  rotate_left
  ·intro w d;obtain⟨_,c0,c1,u,U,c4⟩:=J.o w d;obtain⟨_,d0,d1,d2,d3,d4⟩:=O.o w d;go_simp;(try with_reducible rfl)
  (try simp only[lAy])
  refine yO (i:=13) (v:=?_) rfl (by kernel_rfl) (by kernel_rfl) (by kernel_rfl) (fun _ _ _ h=>h) (Or.inl ⟨by rfl,?_⟩) N ?_
  rotate_left
  ·intro w d;obtain⟨_,c0,c1,u,U,c4⟩:=J.o w d;obtain⟨_,d0,d1,d2,d3,d4⟩:=O.o w d;go_simp;(try with_reducible rfl)
  (try simp only[lAy])
  refine yO (i:=16) (v:=?_) rfl (by kernel_rfl) (by kernel_rfl) (by kernel_rfl) (fun _ _ _ h=>h) (Or.inl ⟨by rfl,?_⟩) N ?_
  rotate_left
  ·intro w d;obtain⟨_,c0,c1,u,U,c4⟩:=J.o w d;obtain⟨_,d0,d1,d2,d3,d4⟩:=O.o w d;go_simp;(try with_reducible rfl)
  (try simp only[lAy])
  refine yO (i:=17) (v:=?_) rfl (by kernel_rfl) (by kernel_rfl) (by kernel_rfl) (fun _ _ _ h=>h) (Or.inl ⟨by rfl,?_⟩) N ?_
  rotate_left
  ·intro w d;obtain⟨_,c0,c1,u,U,c4⟩:=J.o w d;obtain⟨_,d0,d1,d2,d3,d4⟩:=O.o w d;go_simp;(try with_reducible rfl)
  (try simp only[lAy])
  clear hs1
  refine zCP (G:=fun i w w'=>match i with|21=>StA w w'|_=>Below w w w') (fun i vs w'=>match i with
   |9=>∃X c,vs 9=.slice X a.fs.length c/\w'.ownsRow w1.heap.size 3 1 (vs 9) a.fs.length (a.fs.flatMap viL)
   |14=>∃g cs,vs 14=.slice (some ⟨g,0,none⟩) 2 2/\w'.heap[g]?=some (.cells cs 28 (0,0))/\w'.cell? ⟨g,0,none⟩=some (.slice B a.gs.length cb)/\w'.cell? ⟨g,1,none⟩=some (.slice E b.gs.length ce)
   |15=>∃X c,vs 15=.slice X (a.gs.length+b.gs.length) c/\w'.ownsRow w1.heap.size 4 1 (vs 15) (a.gs.length+b.gs.length) ((a.gs++b.gs).flatMap vbL)
   |18=>∃X c,vs 18=.slice X a.ss.length c/\w'.ownsRow w1.heap.size 80 3 (vs 18) a.ss.length (a.ss.flatMap Stp.cells)
   |19=>∃X c X2 u X3 U,vs 9=.slice X a.fs.length c/\vs 15=.slice X2 (a.gs.length+b.gs.length) u/\vs 18=.slice X3 a.ss.length U/\vs 19=.agg #[.int .i64 (a.st+b.st),.int .i64 a.le,.slice X a.fs.length c,.slice X2 (a.gs.length+b.gs.length) u,.slice X3 a.ss.length U]
   |20=>∃g v0 v1 v2 v3 v4,vs 20=.pointer (some ⟨g,0,none⟩)/\w1.heap.size<=g/\w'.heap[g]?=some (.cells #[v0,v1,v2,v3,v4] 31 (0,0))
   |21=>∃g v0 v1 v2 v3 v4,vs 20=.pointer (some ⟨g,0,none⟩)/\w1.heap.size<=g/\vs 19=.agg #[v0,v1,v2,v3,v4]/\w'.heap[g]?=some (.cells #[v0,v1,v2,v3,v4] 31 (0,0))
   |_=>False)
   [9,14,15,18,19,20,21] (by kernel_rfl) (by decide) ?rc ?rg N (fun vs=>?go)
  case rc=>
   intro j hj vs vs' w2 h0 hk hr;have hk2:∀i,[9,14,15,18,19,20,21].contains i=true->List.contains (xO _ _ j) i=true->vs i=vs' i:=fun i h1 h2=>hk i (by simpa using h1) (by simpa using h2)
   clear hk;simp only[List.mem_cons,List.not_mem_nil,or_false] at hj
   rcases hj with rfl|rfl|rfl|rfl|rfl|rfl|rfl
   ·obtain⟨X,c,e,r⟩:=hr
    exact⟨X,c,h0.symm.trans e,by rw[<-h0];exact r⟩
   ·obtain⟨g,cs,e,r⟩:=hr
    exact⟨g,cs,h0.symm.trans e,r⟩
   ·obtain⟨X,c,e,r⟩:=hr
    exact⟨X,c,h0.symm.trans e,by rw[<-h0];exact r⟩
   ·obtain⟨X,c,e,r⟩:=hr
    exact⟨X,c,h0.symm.trans e,by rw[<-h0];exact r⟩
   ·obtain⟨X,c,X2,u,X3,U,e1,e2,e3,e4⟩:=hr
    exact⟨X,c,X2,u,X3,U,(hk2 9 (by decide) (by kernel_rfl)).symm.trans e1,(hk2 15 (by decide) (by kernel_rfl)).symm.trans e2,(hk2 18 (by decide) (by kernel_rfl)).symm.trans e3,h0.symm.trans e4⟩
   ·obtain⟨g,v0,v1,v2,v3,v4,e,r⟩:=hr
    exact⟨g,v0,v1,v2,v3,v4,h0.symm.trans e,r⟩
   obtain⟨g,v0,v1,v2,v3,v4,e,r1,e2,r⟩:=hr;exact⟨g,v0,v1,v2,v3,v4,(hk2 20 (by decide) (by kernel_rfl)).symm.trans e,r1,(hk2 19 (by decide) (by kernel_rfl)).symm.trans e2,r⟩
  case rg=>
   intro j hj i hi hij _ vs w2 w3 hg hr;simp only[List.mem_cons,List.not_mem_nil,or_false] at hi hj
   rcases hj with rfl|rfl|rfl|rfl|rfl|rfl|rfl
   ·obtain⟨X,c,e,r⟩:=hr
    refine⟨X,c,e,?_⟩
    rcases hi with rfl|rfl|rfl|rfl|rfl|rfl|rfl<;>first|exact absurd rfl hij|exact zD r hg|exact StA.own hg r (by decide)
   ·obtain⟨g,cs,e,h1,h2,h3⟩:=hr
    have h4:w3.heap[g]?=some (.cells cs 28 (0,0)):=by
     rcases hi with rfl|rfl|rfl|rfl|rfl|rfl|rfl<;>first|exact Below.at_blk hg h1|exact StA.block hg h1 (by decide)
    exact⟨g,cs,e,h4,(World.cell?_of_block (w:=w2) (a:=⟨g,0,none⟩) (h4.trans h1.symm)).trans h2,(World.cell?_of_block (w:=w2) (a:=⟨g,1,none⟩) (h4.trans h1.symm)).trans h3⟩
   ·obtain⟨X,c,e,r⟩:=hr
    refine⟨X,c,e,?_⟩
    rcases hi with rfl|rfl|rfl|rfl|rfl|rfl|rfl<;>first|exact absurd rfl hij|exact zD r hg|exact StA.own hg r (by decide)
   ·obtain⟨X,c,e,r⟩:=hr
    refine⟨X,c,e,?_⟩
    rcases hi with rfl|rfl|rfl|rfl|rfl|rfl|rfl<;>first|exact absurd rfl hij|exact zD r hg|exact StA.own hg r (by decide)
   ·exact hr
   ·obtain⟨g,v0,v1,v2,v3,v4,e,h1,h2⟩:=hr
    have h4:∃v0 v1 v2 v3 v4,w3.heap[g]?=some (.cells #[v0,v1,v2,v3,v4] 31 (0,0)):=by
     rcases hi with rfl|rfl|rfl|rfl|rfl|rfl|rfl<;>first|exact⟨_,_,_,_,_,Below.at_blk hg h2⟩|exact StA.obj hg h2
    obtain⟨u0,u1,u2,u3,u4,h5⟩:=h4;exact⟨g,u0,u1,u2,u3,u4,e,h1,h5⟩
   obtain⟨g,v0,v1,v2,v3,v4,e,h1,h2,h3⟩:=hr;refine⟨g,v0,v1,v2,v3,v4,e,h1,h2,?_⟩
   rcases hi with rfl|rfl|rfl|rfl|rfl|rfl|rfl<;>first|exact absurd rfl hij|exact Below.at_blk hg h3
  case go=>
   refine qC.cons1 rfl (fun w hw hd K hK=>?_) ?_
   ·go_simp
    go_at_call 65
    refine(zFP A ca a.fs w (HRA.o w hw).fs).mono ?_;rintro e wa ⟨v,rfl,ho,hba⟩;obtain⟨X,c,rfl,_⟩:=zF ho;exact hK.out _ _ (zA hw hba hw.size) hba ⟨X,c,rfl,fD ho hw.size⟩
   (try simp only[lAy])
   refine qC.cons1 rfl (fun w hw hd K hK=>?_) ?_
   ·go_simp
    refine hK.out _ _ (hw.trans (((Below.refl _ w).alloc nLe _).mono hw.size)) ((Below.refl _ w).alloc nLe _) ⟨w.heap.size,_,rfl,zEA w _,by go_simp,by go_simp⟩
   (try simp only[lAy])
   refine qC.cons1 rfl (fun w hw hd K hK=>?_) ?_
   ·obtain⟨g,cs,e14,h1,h2,h3⟩:=hd 14 (by decide) (by kernel_rfl)
    rw[e14] at hK ⊢;go_simp
    go_at_call 66
    refine(zE7 g B E cb ce a.gs b.gs w (HRA.o w hw).gs (HRB.o w hw).gs HGL.o h2 h3 (gLt h1)).mono ?_;rintro e wa ⟨v,rfl,ho,hba⟩;rw[List.length_append] at ho;obtain⟨X,c,rfl,_⟩:=zF ho
    exact hK.out _ _ (zA hw hba hw.size) hba ⟨X,c,rfl,fD ho hw.size⟩
   (try simp only[lAy])
   refine qC.cons1 rfl (fun w hw hd K hK=>?_) ?_
   ·go_simp
    go_at_call 67
    refine(zGq C cc a.ss w (HRA.o w hw).ss).mono ?_;rintro e wa ⟨v,rfl,ho,hba⟩;obtain⟨X,c,rfl,_⟩:=zF ho;exact hK.out _ _ (zA hw hba hw.size) hba ⟨X,c,rfl,fD ho hw.size⟩
   (try simp only[lAy])
   refine qC.cons1 rfl (fun w hw hd K hK=>?_) ?_
   ·obtain⟨X,c,e9,_⟩:=hd 9 (by decide) (by kernel_rfl)
    obtain⟨X2,u,e15,_⟩:=hd 15 (by decide) (by kernel_rfl)
    obtain⟨X3,U,e18,_⟩:=hd 18 (by decide) (by kernel_rfl)
    rw[e9,e15,e18] at hK ⊢;go_simp
    exact hK.out _ _ hw bRf ⟨X,c,X2,u,X3,U,e9,e15,e18,rfl⟩
   (try simp only[lAy])
   refine qC.cons1 rfl (fun w hw hd K hK=>?_) ?_
   ·go_simp
    exact hK.out _ _ (hw.trans (((Below.refl _ w).alloc nLe _).mono hw.size)) ((Below.refl _ w).alloc nLe _) ⟨w.heap.size,_,_,_,_,_,rfl,hw.size,zEA w _⟩
   (try simp only[lAy])
   refine qC.cons1 rfl (fun w hw hd K hK=>?_) ?_
   ·obtain⟨g,u0,u1,u2,u3,u4,e20,hg0,hob⟩:=hd 20 (by decide) (by kernel_rfl)
    obtain⟨X,c,X2,u,X3,U,e9,e15,e18,e19⟩:=hd 19 (by decide) (by kernel_rfl)
    obtain⟨q0,q1,q2,q3,q4,f0,f1,f2,f3,f4⟩:=zZ hob;clear e9 e15 e18;rw[e20,e19] at hK ⊢;have E20:=hId e20;have E19:=hId e19;clear e20 e19;go_simp
    exact hK.out undef _ (zS hw hg0 _ _ _ _ _) (StA.set hob _ _ _ _ _) ⟨g,_,_,_,_,_,E20.o,hg0,E19.o,zW hob _ _ _ _ _⟩
   (try simp only[lAy])
   intro w2 hw hR;obtain⟨G,v0,v1,v2,v3,v4,e20,hG,e19,hob⟩:=hR 21 (by decide)
   obtain⟨X,c,e9,h9⟩:=hR 9 (by decide)
   obtain⟨X2,u,e15,h15⟩:=hR 15 (by decide)
   obtain⟨X3,U,e18,h18⟩:=hR 18 (by decide)
   obtain⟨_,_,_,_,_,_,f9,f15,f18,h19⟩:=hR 19 (by decide)
   rw[e9] at h9 f9;rw[e15] at h15 f15;rw[e18] at h18 f18;simp only[Value.slice.injEq,true_and] at f9 f15 f18;obtain⟨rfl,rfl⟩:=f9;obtain⟨rfl,rfl⟩:=f15;obtain⟨rfl,rfl⟩:=f18;rw[e19] at h19
   simp only[Value.agg.injEq,Array.mk.injEq,List.cons.injEq,and_true] at h19;obtain⟨rfl,rfl,rfl,rfl,rfl⟩:=h19
   have HM0:Hid (AuN w1.heap.size G (a.st+b.st) a.le (upF a b 0) (a.gs++b.gs) (upS a b 0) (.slice X a.fs.length c) (.slice X2 (a.gs.length+b.gs.length) u) (.slice X3 a.ss.length U) w2):=⟨hG,hob,by simpa[upF] using h9,by rw[List.length_append];exact h15,by simpa[upS] using h18⟩
   have HW2:=hId hw;rw[e20,e9,e15,e18,e19];clear hR h9 h15 h18 hob hw e20 e19 e9 e15 e18;generalize vs 14=v14;have cG:=HM0.o.obj;obtain⟨_,c0,c1,u,U,c4⟩:=J.o _ HW2.o;obtain⟨_,d0,d1,d2,d3,d4⟩:=O.o _ HW2.o
   have HRF:=hId HOB2.o.fr;have HRS:=hId HOB2.o.sr;have hfl:=HOB2.o.fs_le;have hfl2:=HOA.o.fs_le;clear cG;have hUF0:=zBg a b (Nat.zero_le b.fs.length)
   go_upto_block 0 with fail
   clear c0 c1 u U c4 d0 d1 d2 d3 d4 hUF0
   go_cut [] (fun wx=>∃fv,Hid (AuN w1.heap.size G (a.st+b.st) a.le (upF a b b.fs.length) (a.gs++b.gs) (upS a b 0) fv (.slice X2 (a.gs.length+b.gs.length) u) (.slice X3 a.ss.length U) wx)/\Hid (Below w1 w1 wx))
   case first=>
    go_wp2_with fail
    go_loopw [9,59] (fun _ i wr=>∃(k:Nat) (fv:Value),k<=b.fs.length/\i=(k:Int)/\Hid (AuN w1.heap.size G (a.st+b.st) a.le (upF a b k) (a.gs++b.gs) (upS a b 0) fv (.slice X2 (a.gs.length+b.gs.length) u) (.slice X3 a.ss.length U) wr)/\Hid (Below w1 w1 wr)) (fun _ i _=>b.fs.length-(intOf i).toNat)
    case atStart=>exact⟨0,_,Nat.zero_le _,rfl,HM0.o,HW2.o⟩
    obtain⟨k,fv,hk,rfl,HM,HW⟩:=hrel
    by_cases hkN:k<b.fs.length
    ·have q1:(k:Int)<(b.fs.length:Int):=by omega
     obtain⟨_,c0,c1,c2',c3',c4⟩:=J.o _ HW.o;have hrd:=(HRB.o _ HW.o).fs;have hle:=hrd.le;obtain⟨fb,fo,hD,_,_,x0⟩:=zE.at_ hrd hkN;have hx:=HRF.o _ (List.getElem_mem hkN);have HUS:=hId (zHf a b hkN)
     have hul:=zBg a b (Nat.le_of_lt hkN);obtain⟨x,hxx⟩:∃x,x=b.fs[k]:=⟨_,rfl⟩;rw[<-hxx] at x0 hx HUS;obtain⟨hx1,hx2⟩:=hx;obtain⟨g0,g1,g2,g3,g4,gf0,gf1,gf2,gf3,gf4⟩:=zZ HM.o.obj
     obtain⟨T,c',rfl,hlc,hcm,T3,c3'',w5,hrun,p2,f2,-,hAU,hBB⟩:=HM.o.appF (x+a.st) (by omega)
     rw[<-HUS.o] at hAU;have HAU:=hId hAU;have HBB:=hId (HW.o.trans (hBB.mono nLe));have HX:=hId hkN;subst hD;generalize (upF a b k).length=gn at *
     have HRUN:Hid ((Builtin.append_ #[22,22] 22 #[.slice T gn c',.slice (some ⟨wr,0,none⟩) 1 1]).run Tryz.prog (wr.alloc (.cells #[(x+a.st)] 3))=.ok (.slice T3 (gn+1) c3'') w5):=hrun
     clear hrd hxx hkN hrun hAU hBB g0 g1 g3 g4 gf0 gf1 gf2 gf3 gf4 c1 c2' c3' c4 hul HM
     go_wp2_with (at_builtin;refine zQ rfl (.tmp 64) (.tmp 69) _ _ rfl _ _ _ rfl rfl HRUN.o ?_)
     go_roundw
     case rel=>exact⟨k+1,_,HX.o,by go_num,HAU.o,HBB.o⟩
     case measure=>simp[intOf];omega
    have q1:¬(k:Int)<(b.fs.length:Int):=by omega
    obtain rfl:k=b.fs.length:=by omega
    go_wp2_with fail
    go_meet
    exact⟨fv,HM.o,HW.o⟩
   obtain⟨fv,HM1,HW3⟩:=hcut;clear HM0 HW2;obtain⟨_,d0,d1,d2,d3,d4⟩:=O.o _ HW3.o
   go_upto_block 2 with fail
   clear d0 d1 d2 d3 d4
   go_cut [] (fun wx=>∃sv,Hid (AuN w1.heap.size G (a.st+b.st) a.le (upF a b b.fs.length) (a.gs++b.gs) (upS a b b.ss.length) fv (.slice X2 (a.gs.length+b.gs.length) u) sv wx)/\Hid (Below w1 w1 wx))
   case first=>
    go_wp2_with fail
    go_loopw [11,76] (fun _ i wr=>∃(k:Nat) (sv:Value),k<=b.ss.length/\i=(k:Int)/\Hid (AuN w1.heap.size G (a.st+b.st) a.le (upF a b b.fs.length) (a.gs++b.gs) (upS a b k) fv (.slice X2 (a.gs.length+b.gs.length) u) sv wr)/\Hid (Below w1 w1 wr)) (fun _ i _=>b.ss.length-(intOf i).toNat)
    case atStart=>exact⟨0,_,Nat.zero_le _,rfl,HM1.o,HW3.o⟩
    obtain⟨k,sv,hk,rfl,HM,HW⟩:=hrel
    by_cases hkN:k<b.ss.length
    ·have q1:(k:Int)<(b.ss.length:Int):=by omega
     have hrd:=(HRB.o _ HW.o).ss;have hle:=hrd.le;obtain⟨fb,fo,hD,_,_,x0,x1,x2⟩:=jZ.at_ hrd hkN;obtain⟨hx1,hx2,hx3⟩:=HRS.o _ (List.getElem_mem hkN);have HUS:=hId (zFM a b hkN)
     have hul:=zEo a b (Nat.le_of_lt hkN);obtain⟨s,hxx⟩:∃s,s=b.ss[k]:=⟨_,rfl⟩;rw[<-hxx] at x0 x1 x2 hx1 hx2 hx3 HUS;obtain⟨sf,sl,st⟩:=s;simp only at x0 x1 x2 hx1 hx2 hx3 HUS;obtain⟨hf1,hf2⟩:=hx1
     obtain⟨ht1,ht2⟩:=hx2;have hba:Below wr wr (wr.alloc (.cells #[sf,sl,st] 80)):=bLa;have HM2:=hId (HM.o.on hba);have HW2:=hId (zA HW.o hba HW.o.size)
     have N:(wr.alloc (.cells #[sf,sl,st] 80)).cell? ⟨wr,0,none⟩=some (.int .i64 sf):=by go_simp
     have hS1:(wr.alloc (.cells #[sf,sl,st] 80)).cell? ⟨wr.heap.size,1,none⟩=some (.int .i64 sl):=by go_simp
     have hS2:(wr.alloc (.cells #[sf,sl,st] 80)).cell? ⟨wr.heap.size,2,none⟩=some (.int .i64 st):=by go_simp
     have HX:=hId hkN;subst hD;clear hrd hxx hkN HM HW hba
     go_upto_region 15 with fail
     clear x0 x1 x2;obtain⟨S,hSS⟩:∃S,S=wr.heap.size:=⟨_,rfl⟩;rw[<-hSS] at N hS1 hS2 ⊢;generalize wr.alloc (.cells #[sf,sl,st] 80)=W2 at *;obtain⟨_,c0,c1,c2',c3',c4⟩:=J.o _ HW2.o
     obtain⟨g0,g1,g2,g3,g4,gf0,gf1,gf2,gf3,gf4⟩:=zZ HM2.o.obj;obtain⟨T,c',rfl,hlc,hcm,T3,c3'',w5,hrun,p2,f2,-,hAU,hBB⟩:=HM2.o.appS ⟨sf+a.st,sl,st+a.st⟩ (by omega)
     rw[<-HUS.o] at hAU;have HAU:=hId hAU;have HBB:=hId (HW2.o.trans (hBB.mono nLe));generalize (upS a b k).length=gn at *
     have HRUN:Hid ((Builtin.append_ #[29,29] 29 #[.slice T gn c',.slice (some ⟨W2,0,none⟩) 1 1]).run Tryz.prog (W2.alloc (.cells #[(sf+a.st),sl,(st+a.st)] 80))=.ok (.slice T3 (gn+1) c3'') w5):=hrun
     clear hrun hAU hBB g0 g1 g2 g3 gf0 gf1 gf2 gf3 gf4 c1 c2' c3' c4 hul HM2 hSS
     go_wp2_with (at_builtin;refine zQ rfl (.tmp 81) (.tmp 95) _ _ rfl _ _ _ rfl rfl HRUN.o ?_)
     go_roundw
     case rel=>exact⟨k+1,_,HX.o,by go_num,HAU.o,HBB.o⟩
     case measure=>simp[intOf];omega
    have q1:¬(k:Int)<(b.ss.length:Int):=by omega
    obtain rfl:k=b.ss.length:=by omega
    go_wp2_with fail
    go_meet
    exact⟨sv,HM.o,HW.o⟩
   obtain⟨sv,HM2,HW4⟩:=hcut;clear HM1;obtain⟨A',B',C',ca',cb',cc',rfl,hgv,rfl,hrd⟩:=HM2.o.rd (by rw[zBg a b nLe];omega) (by rw[List.length_append];have:=HGL.o;omega) (by rw[zEo a b nLe];omega)
   simp only[Value.slice.injEq] at hgv;obtain⟨rfl,hgl,rfl⟩:=hgv;obtain⟨g0,g1,g2,g3,g4,gf0,gf1,gf2,gf3,gf4⟩:=zZ HM2.o.obj;have HB4:=hId (zA m.o HW4.o m.o.size)
   obtain⟨r0,r1,r2,r3,r4,rf0,rf1,rf2,rf3,rf4⟩:=zZ (HRW.o _ HB4.o)
   have HEQ:Hid ((⟨a.st+b.st,a.le,upF a b b.fs.length,a.gs++b.gs,upS a b b.ss.length⟩:Au)=jG a b):=by show _=_;unfold upF upS jG;rw[List.take_length,List.take_length]
   have hV2:V+2<w1.heap.size:=by have:=HSZ.o;have:=m.o.size;omega
   have HRD:=hId hrd
   have HP:Hid (dC w (qH a b) (fC a b) (.returned (.tuple #[.agg #[(a.st+b.st),a.le,.slice A' (upF a b b.fs.length).length ca',.slice X2 (a.gs.length+b.gs.length) u,.slice C' (upS a b b.ss.length).length cc'],(0:Int)])) (set5 wc (V+2) (.int .i64 (a.st+b.st)) a.le (.slice A' (upF a b b.fs.length).length ca') (.slice X2 (a.gs.length+b.gs.length) u) (.slice C' (upS a b b.ss.length).length cc'))):=by
    rw[HZV.o.1,HZV.o.2,<-HEQ.o,hgl];exact⟨A',X2,C',ca',u,cc',rfl,(HRD.o.set5_ hV2 _ _ _ _ _).low (by have:=m.o.size;have:=HB0.o.size;omega),HBF.o _ HB4.o _ _ _ _ _⟩
   have HO1:=hId (HOO.o _ HB4.o (.int .i64 (a.st+b.st)) a.le (.slice A' (upF a b b.fs.length).length ca') (.slice X2 (a.gs.length+b.gs.length) u) (.slice C' (upS a b b.ss.length).length cc'));clear hrd hgl hV2 HM2
   generalize (upF a b b.fs.length).length=n1 at *;generalize (upS a b b.ss.length).length=n2 at *
   go_wp2_with fail
   exact bodyPost_ret (pX Tryz.results21 _ _ (V+2) rfl rfl HO1.o) rfl HP.o
 have hr1:(jE a b !=0)=true:=by simp[hr0]
 have HP:=hId (HNUL.o _ m.o (jE a b) (by unfold fC;rw[if_neg hr0]) hr0)
 have HO1:=hId (HOO.o _ m.o (.int .i64 0) (.int .i64 0) () () ());clear hr0;generalize jE a b=rd at *
 go_wp2_with fail
 exact bodyPost_ret (pX Tryz.results21 _ _ (V+2) rfl rfl HO1.o) rfl HP.o
end
section
structure aS (raw ss:List Stp):Prop where
 so:xV ss
 mem:∀s,s∈ss↔s∈raw
 len:ss.length<=raw.length
noncomputable def yE (a b:Au) (t t':Stp) (w:Int):Stp:=⟨qK b t.f t'.f w,t.l,qK b t.t t'.t (qO a b t.f t'.f w)⟩
noncomputable def yR (a b:Au):List Int:=a.fs.flatMap fun x=>b.fs.map fun y=>qK b x y 0
def yS (n:Nat):List Bool:=(List.range (3*n)).map fun i=>decide (i%3=2)
def zBj (a b:Au) (raw:List Stp):Prop:=∀s,s∈raw↔∃t∈a.ss,∃t'∈b.ss,t.l=t'.l/\∃w:Int,0<=w/\w<3/\s=yE a b t t' w
noncomputable def fO (a b:Au) (ss:List Stp):Au:=⟨3*a.st*b.st,a.le,yR a b,yS (a.st.toNat*b.st.toNat),ss⟩
theorem bC {a b:Au} {x y w:Int} (e:0<=x/\x<a.st) (i:0<=y/\y<b.st) (h:0<=w/\w<3):0<=qK b x y w/\qK b x y w<3*a.st*b.st:=by
 unfold qK;have d:x*b.st<=(a.st-1)*b.st:=Int.mul_le_mul_of_nonneg_right (by omega) (by omega)
 have g:0<=x*b.st:=Int.mul_nonneg e.1 (by omega)
 rw[Int.sub_mul,Int.one_mul] at d;rw[Int.mul_assoc];omega
theorem zHT {a b:Au} (O:vG a) (U:vG b) {i ss:List Stp} (hr:zBj a b i) (hs:aS i ss):zHi a b (fO a b ss):=by
 refine⟨rfl,fun q=>?_,fun x y w x0 x1 y0 y1 w0 g=>?_,fun s=>?_⟩
 ·simp only[fO,yR,List.mem_flatMap,List.mem_map]
  constructor
  ·rintro⟨x,J,y,K,rfl⟩;exact⟨x,J,y,K,rfl⟩
  rintro⟨x,J,y,K,rfl⟩;exact⟨x,J,y,K,rfl⟩
 ·have hp:=bC (a:=a) (b:=b) ⟨x0,x1⟩ ⟨y0,y1⟩ ⟨w0,g⟩
  unfold Au.good fO yS;simp only
  have e:(3*a.st*b.st).toNat=3*(a.st.toNat*b.st.toNat):=by
   have h1:=O.st1;have h2:=U.st1
   have:(3*a.st*b.st)=((3*(a.st.toNat*b.st.toNat):Nat):Int):=by
    rw[Int.natCast_mul,Int.natCast_mul,Int.toNat_of_nonneg (by omega),Int.toNat_of_nonneg (by omega),Int.mul_assoc];rfl
   omega
  have m:(qK b x y w).toNat<3*(a.st.toNat*b.st.toNat):=by omega
  rw[List.getD_eq_getElem?_getD,List.getElem?_map,List.getElem?_range m];simp only[Option.map_some,Option.getD_some,decide_eq_true_eq]
  have hm:(qK b x y w).toNat%3=w.toNat:=by
   have:qK b x y w%3=w:=by
    unfold qK;rw[Int.add_comm,Int.add_mul_emod_self_right];exact Int.emod_eq_of_lt w0 g
   omega
  rw[hm]
  constructor
  ·rintro⟨_,h⟩;omega
  intro h;exact⟨hp.1,by omega⟩
 show s∈ss↔_;rw[hs.mem,hr]
 constructor
 ·rintro⟨t,u,N,d,j,w,w0,g,rfl⟩;exact⟨t,u,N,d,j,w,w0,g,rfl⟩
 rintro⟨t,u,N,d,j,w,w0,g,rfl⟩;exact⟨t,u,N,d,j,w,w0,g,rfl⟩
theorem zAs {b:Au} (s:b.fs.Pairwise (·<·)) (d:∀f∈b.fs,0<=f/\f<b.st):∀{l:List Int},l.Pairwise (·<·)->(l.flatMap fun x=>b.fs.map fun y=>qK b x y 0).Pairwise (·<·)
 |[],_=>.nil
 |x::l,h=>by
  have m:=List.pairwise_cons.1 h;rw[List.flatMap_cons,List.pairwise_append];refine⟨?_,zAs s d m.2,?_⟩
  ·rw[List.pairwise_map]
   refine s.imp (fun{p q} hpq=>?_)
   unfold qK;omega
  intro p K q g;obtain⟨y,N,rfl⟩:=List.mem_map.1 K;obtain⟨u,i,g⟩:=List.mem_flatMap.1 g;obtain⟨O,j,rfl⟩:=List.mem_map.1 g;have e:=m.1 u i;have U:=d y N;have a2:=d O j
  have J:(x+1)*b.st<=u*b.st:=Int.mul_le_mul_of_nonneg_right (by omega) (by omega)
  rw[Int.add_mul,Int.one_mul] at J;unfold qK;omega
structure jT (a:Au):Prop where
 st1:1<=a.st
 le1:1<=a.le
 le2:a.le<=8
 gl:(a.gs.length:Int)=a.st
 fr:∀f∈a.fs,0<=f/\f<a.st
 fo:a.fs.Pairwise (·<·)
 sr:∀s∈a.ss,(0<=s.f/\s.f<a.st)/\(0<=s.t/\s.t<a.st)/\0<=s.l/\s.l<a.le
 so:xV a.ss
theorem vG.fit {a:Au} (h:vG a) (d:xV a.ss):jT a:=⟨h.st1,h.le1,h.le2,h.gl,h.fr,h.fo,h.sr,d⟩
theorem jT.ok {a:Au} (h:jT a) (d:a.st<=300) (e:a.ss.length<=6000):ckA a=0:=yP.2 ⟨⟨h.st1,d,h.le1,h.le2,h.gl,e,h.fr,h.fo,h.sr⟩,h.so⟩
theorem zGJ {a b:Au} (d:jT a) (e:jT b) {g ss:List Stp} (O:zBj a b g) (u:aS g ss):jT (fO a b ss):=by
 have N:=d.st1;have b1:=e.st1;have pos:1<=a.st*b.st:=Int.le_trans (show(1:Int)<=1*1 by decide) (Int.mul_le_mul N b1 (by decide) (by omega))
 refine⟨?_,d.le1,d.le2,?_,?_,zAs e.fo e.fr d.fo,?_,u.so⟩
 ·show 1<=3*a.st*b.st
  rw[Int.mul_assoc];omega
 ·show((yS (a.st.toNat*b.st.toNat)).length:Int)=3*a.st*b.st
  unfold yS;rw[List.length_map,List.length_range,Int.natCast_mul,Int.natCast_mul,Int.toNat_of_nonneg (by omega),Int.toNat_of_nonneg (by omega),Int.mul_assoc];rfl
 ·intro f h
  obtain⟨x,hx,h⟩:=List.mem_flatMap.1 h;obtain⟨y,hy,rfl⟩:=List.mem_map.1 h;exact bC (d.fr x hx) (e.fr y hy) (by decide)
 intro s i;obtain⟨t,U,t',j,hl,w,w0,K,rfl⟩:=(O s).1 ((u.mem s).1 i);have m:=d.sr t U;have J:=e.sr t' j;exact⟨bC m.1 J.1 ⟨w0,K⟩,bC m.2.1 J.2.1 (cU _ _ _ _ _ ⟨w0,K⟩),m.2.2⟩
end
end Go.Proofs.YtoglgeaiiipchaaGreatDoor
