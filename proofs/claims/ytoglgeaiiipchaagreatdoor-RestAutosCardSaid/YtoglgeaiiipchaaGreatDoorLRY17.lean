import Derived.Test.YtoglgeaiiipchaaGreatDoorLRY16
set_option linter.unusedSimpArgs false
set_option linter.unusedVariables false
set_option maxRecDepth 100000
set_option maxHeartbeats 8000000
namespace Go.Proofs.YtoglgeaiiipchaaGreatDoor
section
def tix (f:List Nd) (i:Nat):Nat:=((f.take i).filter fun x=>yI x.k).length
def tn (f:List Nd):Nat:=tix f f.length
def pC (k:Int):Bool:=(k==7)||(k==8)
def lH (f:List Nd) (n:Nat):List Nat:=(List.range n).filter fun i=>pC (f.getD i qG).k
def zK (f:List Nd):List Nat:=lH f f.length
def wT (f:List Nd) (c:Int) (nx:Nat) (out:List Bool) (i:Nat):Bool:=
 let x:=f.getD i qG
 let later:=yI x.k&&nx.testBit (tix f i)
 if x.k=1 then true
 else if x.k=2 then nI c x.n.toNat
 else if x.k=3 then !out.getD x.a.toNat false
 else if x.k=4 then out.getD x.a.toNat false&&out.getD x.b.toNat false
 else if x.k=5 then out.getD x.a.toNat false||out.getD x.b.toNat false
 else if x.k=6 then later
 else if x.k=7 then out.getD x.b.toNat false||out.getD x.a.toNat false&&later
 else out.getD x.b.toNat false&&(out.getD x.a.toNat false||later)
def trs (f:List Nd) (c:Int) (nx:Nat):Nat->List Bool
 |0=>[]
 |k+1=>trs f c nx k++[wT f c nx (trs f c nx k) k]
def zV (f:List Nd) (c:Int) (nx:Nat):List Bool:=trs f c nx f.length
def dK (f:List Nd) (t:List Bool) (i:Nat):Bool:=let x:=f.getD i qG;if x.k=6 then t.getD x.a.toNat false else t.getD i false
structure jF (f:List Nd) (t:List Bool) (p:Nat):Prop where
 lt:p<2^tn f
 bit:∀i,i<f.length->yI (f.getD i qG).k=true->p.testBit (tix f i)=dK f t i
def kG (f:List Nd) (t:List Bool) (i:Nat):Bool:=let x:=f.getD i qG;if x.k=7 then !t.getD i false||t.getD x.b.toNat false else t.getD i false||!t.getD x.b.toNat false
def adv (f:List Nd) (t:List Bool):Nat->Nat->Nat
 |0,w=>w
 |m+1,w=>if w<(zK f).length/\kG f t ((zK f).getD w 0)=true then adv f t m (w+1) else w
def onW (f:List Nd) (t:List Bool) (w:Nat):Nat:=adv f t (zK f).length (if w=(zK f).length then 0 else w)
def yH (f:List Nd) (p w:Nat):Int:=1+(p:Int)*((zK f).length+1)+w
def zDU (f:List Nd) (raw:List Stp):Prop:=∀s,s∈raw↔∃(c nx p:Nat),c<8/\nx<2^tn f/\jF f (zV f c nx) p/\
 ((∃ w,w<=(zK f).length/\s=⟨yH f p w,c,yH f nx (onW f (zV f c nx) w)⟩)\/
  ((zV f c nx).getD (f.length-1) false=true/\s=⟨0,c,yH f nx (onW f (zV f c nx) 0)⟩))
def mC (f:List Nd):List Bool:=(List.range (2^tn f*((zK f).length+1)+1)).map fun i=>decide (i≠0/\(i-1)%((zK f).length+1)=(zK f).length)
def pQ (f:List Nd) (ss:List Stp):Au:=⟨yH f (2^tn f) 0,8,[0],mC f,ss⟩
theorem mL {f:List Nd} {i:Nat} (h:i<f.length):tix f (i+1)=tix f i+if yI (f.getD i qG).k=true then 1 else 0:=by
 unfold tix;rw[List.take_succ_eq_append_getElem h,List.filter_append,List.length_append,List.getD_eq_getElem?_getD,List.getElem?_eq_getElem h]
 by_cases hx:yI f[i].k=true<;>simp[hx]
theorem sW {f:List Nd} {i j:Nat} (h:i<=j) (e:j<=f.length):tix f i<=tix f j:=by
 obtain⟨d,rfl⟩:∃d,j=i+d:=⟨j-i,by omega⟩
 induction d with
 |zero=>exact nLe
 |succ d ih=>
  have:=ih (by omega) (by omega)
  have:=mL (f:=f) (i:=i+d) (by omega)
  rw[<-Nat.add_assoc];omega
theorem zDh {f:List Nd} {i j:Nat} (e:yI (f.getD i qG).k=true) (h:i<j) (g:j<=f.length):tix f i<tix f j:=by
 have d:=mL (f:=f) (i:=i) (by omega)
 rw[if_pos e] at d;have:=sW (f:=f) (show i+1<=j by omega) g
 omega
theorem zEg {f:List Nd} {i j:Nat} (d:yI (f.getD i qG).k=true) (g:yI (f.getD j qG).k=true) (e:i<f.length) (m:j<f.length) (h:tix f i=tix f j):i=j:=by
 rcases Nat.lt_trichotomy i j with h1|h1|h1
 ·have:=zDh d h1 (by omega);omega
 ·exact h1
 have:=zDh g h1 (by omega);omega
theorem zGl {f:List Nd} {i:Nat} (d:i<f.length) (e:yI (f.getD i qG).k=true):tix f i<tn f:=zDh e d nLe
theorem zBP {f:List Nd}:∀(n:Nat),n<=f.length->∀k,k<tix f n->∃i,i<n/\yI (f.getD i qG).k=true/\tix f i=k
 |0,_,k,h=>absurd h (by simp[tix])
 |n+1,hn,k,h=>by
  rw[mL (by omega)] at h
  by_cases hk:k<tix f n
  ·obtain⟨i,g,d,e⟩:=zBP n (by omega) k hk
   exact⟨i,by omega,d,e⟩
  split at h
  ·rename_i ht;exact⟨n,by omega,ht,by omega⟩
  omega
theorem zBW {f:List Nd} {t:List Bool} {p q:Nat} (g:jF f t p) (h:jF f t q):p=q:=by
 refine Nat.eq_of_testBit_eq fun k=>?_
 by_cases hk:k<tn f
 ·obtain⟨i,d,e,rfl⟩:=zBP f.length nLe k hk
  rw[g.bit i d e,h.bit i d e]
 have:2^tn f<=2^k:=Nat.pow_le_pow_right (by decide) (by omega)
 have:=g.lt;have:=h.lt;rw[Nat.testBit_lt_two_pow (by omega),Nat.testBit_lt_two_pow (by omega)]
theorem zIQ (n:Nat) (v:Nat->Bool):∃p,p<2^n/\∀k,k<n->p.testBit k=v k:=by
 induction n with
 |zero=>exact⟨0,by simp,fun k h=>absurd h (by omega)⟩
 |succ n ih=>
  obtain⟨p,d,e⟩:=ih
  cases hv:v n with
  |false=>
   refine⟨p,by rw[Nat.pow_succ];omega,fun k g=>?_⟩
   rcases Nat.lt_or_ge k n with h|h
   ·exact e k h
   obtain rfl:k=n:=by omega
   rw[hv,Nat.testBit_lt_two_pow d]
  |true=>
   refine⟨2^n+p,by rw[Nat.pow_succ];omega,fun k g=>?_⟩
   rcases Nat.lt_or_ge k n with h|h
   ·rw[Nat.testBit_two_pow_add_gt h];exact e k h
   obtain rfl:k=n:=by omega
   rw[hv,Nat.testBit_two_pow_add_eq,Nat.testBit_lt_two_pow d];rfl
theorem zEn (f:List Nd) (t:List Bool):∃p,jF f t p:=by
 obtain⟨p,m,s⟩:=zIQ (tn f) (fun k=>decide (∃ i,i<f.length/\yI (f.getD i qG).k=true/\tix f i=k/\dK f t i=true))
 refine⟨p,m,fun i e g=>?_⟩
 rw[s _ (zGl e g)]
 cases hv:dK f t i with
 |true=>simp only[decide_eq_true_eq];exact⟨i,e,g,rfl,hv⟩
 |false=>
  simp only[decide_eq_false_iff_not,not_exists,not_and];intro j J h u d;obtain rfl:=zEg h g J e u;rw[hv] at d;cases d
theorem vW (f:List Nd) (c:Int) (nx:Nat):∀k,(trs f c nx k).length=k
 |0=>rfl
 |k+1=>by rw[trs,List.length_append,vW f c nx k];rfl
theorem aP (f:List Nd) (c:Int) (nx:Nat):∀(k i:Nat),i<k->(trs f c nx k).getD i false=wT f c nx (trs f c nx i) i
 |0,i,h=>absurd h (by omega)
 |k+1,i,h=>by
  rw[trs,List.getD_eq_getElem?_getD]
  rcases Nat.lt_or_ge i k with h1|h1
  ·rw[List.getElem?_append_left (by rw[vW];exact h1),<-List.getD_eq_getElem?_getD]
   exact aP f c nx k i h1
  obtain rfl:i=k:=by omega
  rw[List.getElem?_append_right (by rw[vW];exact nLe),vW]
  simp
theorem zCI {f:List Nd} (K:vF f) {c:Int} {nx i:Nat} (m:i<f.length):(zV f c nx).getD i false=wT f c nx (zV f c nx) i:=by
 have s:=jO.1 (K.nd i m);have e:f.getD i qG=f[i]:=by rw[List.getD_eq_getElem?_getD,List.getElem?_eq_getElem m];rfl
 have J:(zV f c nx).getD i false=wT f c nx (trs f c nx i) i:=aP f c nx f.length i m
 rw[J]
 have u:∀j,j<i->(trs f c nx i).getD j false=(zV f c nx).getD j false:=fun j N=>by
  unfold zV;rw[aP f c nx i j N,aP f c nx f.length j (by omega)]
 unfold wT;rw[e]
 have d:3<=f[i].k->(trs f c nx i).getD f[i].a.toNat false=(zV f c nx).getD f[i].a.toNat false:=fun h=>by
  have:=s.a h;exact u _ (by omega)
 have g:(f[i].k=4\/f[i].k=5\/f[i].k=7\/f[i].k=8)->(trs f c nx i).getD f[i].b.toNat false=(zV f c nx).getD f[i].b.toNat false:=fun h=>by
  have:=s.b h;exact u _ (by omega)
 have O:=s.k;simp only
 split
 ·rfl
 split
 ·rfl
 split
 ·rw[d (by omega)]
 split
 ·rw[d (by omega),g (by omega)]
 split
 ·rw[d (by omega),g (by omega)]
 split
 ·rfl
 split
 ·rw[d (by omega),g (by omega)]
 rw[d (by omega),g (by omega)]
theorem zAN {f:List Nd} (K:vF f) {u:Nat->Int} {i m:Nat} (J:i<f.length):((zB f i).sem u m↔
  let x:=f.getD i qG
  if x.k=1 then True
  else if x.k=2 then nI (u m) x.n.toNat=true
  else if x.k=3 then ¬(zB f x.a.toNat).sem u m
  else if x.k=4 then(zB f x.a.toNat).sem u m/\(zB f x.b.toNat).sem u m
  else if x.k=5 then(zB f x.a.toNat).sem u m\/(zB f x.b.toNat).sem u m
  else if x.k=6 then(zB f x.a.toNat).sem u (m+1)
  else if x.k=7 then ∃j,m<=j/\(zB f x.b.toNat).sem u j/\∀q,m<=q->q<j->(zB f x.a.toNat).sem u q
  else ∀j,m<=j->(zB f x.b.toNat).sem u j\/∃q,m<=q/\q<j/\(zB f x.a.toNat).sem u q):=by
 have s:=jO.1 (K.nd i J);have e:f.getD i qG=f[i]:=by rw[List.getD_eq_getElem?_getD,List.getElem?_eq_getElem J];rfl
 rw[show zB f i=mD (xY f i) (f.getD i qG) from rfl];unfold mD;rw[e]
 have d:3<=f[i].k->(xY f i).getD f[i].a.toNat .tt=zB f f[i].a.toNat:=fun h=>by
  have:=s.a h;exact vM _ _ _ (by omega)
 have g:(f[i].k=4\/f[i].k=5\/f[i].k=7\/f[i].k=8)->(xY f i).getD f[i].b.toNat .tt=zB f f[i].b.toNat:=fun h=>by
  have:=s.b h;exact vM _ _ _ (by omega)
 have N:=s.k;generalize f[i]=x at *
 by_cases h1:x.k=1
 ·simp only[h1,if_true,Fm.sem]
 by_cases h2:x.k=2
 ·simp only[h2,show ¬(2:Int)=1 by decide,if_true,if_false,Fm.sem]
 by_cases h3:x.k=3
 ·simp only[h3,show ¬(3:Int)=1 by decide,show ¬(3:Int)=2 by decide,if_true,if_false,Fm.sem,d (by omega)]
 by_cases h6:x.k=6
 ·simp only[h6,show ¬(6:Int)=1 by decide,show ¬(6:Int)=2 by decide,show ¬(6:Int)=3 by decide,show ¬(6:Int)=4 by decide,show ¬(6:Int)=5 by decide,if_true,if_false,Fm.sem,d (by omega)]
 have g:=g (by omega)
 have d:=d (by omega)
 simp only[h1,h2,h3,h6,if_false,d,g,Fm.sem]
structure zJf (f:List Nd) (u:Nat->Int) (T:Nat->List Bool) (P:Nat->Nat):Prop where
 tr:∀m,T m=zV f (u m) (P (m+1))
 kp:∀m,jF f (T (m+1)) (P (m+1))
 fa:∀w,w<(zK f).length->∀n,∃m,n<=m/\kG f (T m) ((zK f).getD w 0)=true
theorem zFL {f:List Nd} {i:Nat} (g:i<f.length) (h:(f.getD i qG).k=7\/(f.getD i qG).k=8):∃w,w<(zK f).length/\(zK f).getD w 0=i:=by
 have:i∈zK f:=by
  unfold zK lH pC;rw[List.mem_filter];exact⟨List.mem_range.2 g,by simpa using h⟩
 obtain⟨w,d,e⟩:=List.getElem_of_mem this;exact⟨w,d,by rw[zX d];exact e⟩
theorem wL {k:Int}:yI k=true↔6<=k/\k<=8:=xH k 6 8
theorem zFt {f:List Nd} (hf:vF f) {u:Nat->Int} {T:Nat->List Bool} {P:Nat->Nat} (h:zJf f u T P):∀i,i<f.length->∀m,((T m).getD i false=true↔(zB f i).sem u m):=by
 intro i
 induction i using Nat.strongRecOn with
 |_ i ih=>
  intro hi;have hx:=jO.1 (hf.nd i hi);have e:f.getD i qG=f[i]:=by rw[List.getD_eq_getElem?_getD,List.getElem?_eq_getElem hi];rfl
  have step:∀m,(T m).getD i false=wT f (u m) (P (m+1)) (T m) i:=fun m=>by
   have:=zCI (c:=u m) (nx:=P (m+1)) hf hi
   rwa[<-h.tr m] at this
  have hfa:=zFL hi;have J:=fun m=>(h.kp m).bit i hi
  simp only[zAN hf hi];unfold wT at step;unfold dK at J;rw[e] at step J hfa ⊢
  have ha:3<=f[i].k->∀m,(T m).getD f[i].a.toNat false=true↔(zB f f[i].a.toNat).sem u m:=fun h=>by
   have:=hx.a h;exact ih _ (by omega) (by omega)
  have hb:(f[i].k=4\/f[i].k=5\/f[i].k=7\/f[i].k=8)->∀m,(T m).getD f[i].b.toNat false=true↔(zB f f[i].b.toNat).sem u m:=fun h=>by
   have:=hx.b h;exact ih _ (by omega) (by omega)
  have calm:∀w,(zK f).getD w 0=i->∀m,kG f (T m) ((zK f).getD w 0)=if f[i].k=7 then !(T m).getD i false||(T m).getD f[i].b.toNat false else(T m).getD i false||!(T m).getD f[i].b.toNat false:=fun w hw m=>by
   unfold kG;rw[hw,e]
  have hk:=hx.k;generalize f[i]=x at *;simp only at step
  by_cases K:x.k=1
  ·intro m;rw[step];simp[K]
  by_cases s:x.k=2
  ·intro m;rw[step];simp[s]
  by_cases h3:x.k=3
  ·intro m;rw[step]
   simp only[h3,show ¬(3:Int)=1 by decide,show ¬(3:Int)=2 by decide,if_true,if_false]
   rw[Bool.not_eq_true',<-ha (by omega)]
   exact Bool.not_eq_true _▸Iff.rfl
  have ha:=ha (by omega)
  by_cases h6:x.k=6
  ·intro m;rw[step]
   have ht:yI x.k=true:=wL.2 (by omega)
   have:=J m ht;simp only[h6,if_true] at this
   simp only[h6,show ¬(6:Int)=1 by decide,show ¬(6:Int)=2 by decide,show ¬(6:Int)=3 by decide,show ¬(6:Int)=4 by decide,show ¬(6:Int)=5 by decide,if_true,if_false]
   rw[this,show yI 6=true from rfl,Bool.true_and];exact ha (m+1)
  have hb:=hb (by omega)
  by_cases h4:x.k=4
  ·intro m;rw[step]
   simp only[h4,show ¬(4:Int)=1 by decide,show ¬(4:Int)=2 by decide,show ¬(4:Int)=3 by decide,if_true,if_false,Bool.and_eq_true,ha,hb]
  by_cases h5:x.k=5
  ·intro m;rw[step]
   simp only[h5,show ¬(5:Int)=1 by decide,show ¬(5:Int)=2 by decide,show ¬(5:Int)=3 by decide,show ¬(5:Int)=4 by decide,if_true,if_false,Bool.or_eq_true,ha,hb]
  have ht:yI x.k=true:=wL.2 (by omega)
  have J:=fun m=>J m ht
  simp only[h6,if_false] at J;obtain⟨w,hw,hwi⟩:=hfa (by omega)
  have g:=h.fa w hw;simp only[calm w hwi] at g;simp only[K,s,h3,h4,h5,h6,if_false] at step ⊢
  by_cases h7:x.k=7
  ·simp only[h7,if_true,if_false,show yI 7=true from rfl,Bool.true_and] at step g ⊢
   have step:∀m,((T m).getD i false=true↔(zB f x.b.toNat).sem u m\/(zB f x.a.toNat).sem u m/\(T (m+1)).getD i false=true):=fun m=>by
    rw[step m,J m,Bool.or_eq_true,Bool.and_eq_true,ha,hb]
   have g:∀n,∃m,n<=m/\((T m).getD i false=true->(zB f x.b.toNat).sem u m):=fun n=>by
    obtain⟨m,K,s⟩:=g n;refine⟨m,K,fun h=>?_⟩
    rw[h] at s;exact(hb m).1 (by simpa using s)
   generalize (zB f x.a.toNat).sem u=A at *;generalize (zB f x.b.toNat).sem u=B at *;intro m
   constructor
   ·intro hm
    obtain⟨n,hn,hc⟩:=g m
    apply Classical.byContradiction
    intro N
    have O:∀d,(T (m+d)).getD i false=true/\∀q,m<=q->q<m+d->A q:=by
     intro d
     induction d with
     |zero=>exact⟨hm,fun q K s=>absurd s (by omega)⟩
     |succ d ihd=>
      rcases(step _).1 ihd.1 with U|⟨hA,hT⟩
      ·exact absurd ⟨m+d,by omega,U,ihd.2⟩ N
      refine⟨hT,fun q K s=>?_⟩
      rcases Nat.lt_or_ge q (m+d) with h3|h3
      ·exact ihd.2 q K h3
      obtain rfl:q=m+d:=by omega
      exact hA
    have:=O (n-m);rw[show m+(n-m)=n by omega] at this
    exact N ⟨n,hn,hc this.1,this.2⟩
   rintro⟨j,hj,U,hA⟩
   have:∀d,d<=j-m->(T (j-d)).getD i false=true:=by
    intro d
    induction d with
    |zero=>intro _;exact(step _).2 (.inl U)
    |succ d ihd=>
     intro hd;refine(step _).2 (.inr ⟨hA _ (by omega) (by omega),?_⟩)
     have:=ihd (by omega)
     rwa[show j-(d+1)+1=j-d by omega]
   have:=this (j-m) nLe
   rwa[show j-(j-m)=m by omega] at this
  simp only[h7,if_false,ht,Bool.true_and] at step g ⊢
  have step:∀m,((T m).getD i false=true↔(zB f x.b.toNat).sem u m/\((zB f x.a.toNat).sem u m\/(T (m+1)).getD i false=true)):=fun m=>by
   rw[step m,J m,Bool.and_eq_true,Bool.or_eq_true,ha,hb]
  have g:∀n,∃m,n<=m/\((zB f x.b.toNat).sem u m->(T m).getD i false=true):=fun n=>by
   obtain⟨m,K,s⟩:=g n;refine⟨m,K,fun h=>?_⟩
   rw[(hb m).2 h] at s
   simpa using s
  generalize (zB f x.a.toNat).sem u=A at *;generalize (zB f x.b.toNat).sem u=B at *;intro m
  constructor
  ·intro hm j hj
   apply Classical.byContradiction
   intro N;simp only[not_or,not_exists,not_and] at N
   have O:∀d,d<=j-m->(T (m+d)).getD i false=true:=by
    intro d
    induction d with
    |zero=>intro _;exact hm
    |succ d ihd=>
     intro hd
     rcases((step _).1 (ihd (by omega))).2 with hA|hT
     ·exact absurd hA (N.2 _ (by omega) (by omega))
     exact hT
   have:=O (j-m) nLe;rw[show m+(j-m)=j by omega] at this
   exact N.1 ((step _).1 this).1
  intro hs
  apply Classical.byContradiction
  intro hm
  have O:∀d,(T (m+d)).getD i false≠true/\∀q,m<=q->q<m+d->¬A q:=by
   intro d
   induction d with
   |zero=>exact⟨hm,fun q K s=>absurd s (by omega)⟩
   |succ d ihd=>
    have U:B (m+d):=(hs (m+d) (by omega)).resolve_right (fun⟨q,K,s,h3⟩=>ihd.2 q K s h3)
    have hnA:¬A (m+d):=fun hA=>ihd.1 ((step _).2 ⟨U,.inl hA⟩)
    refine⟨fun hT=>ihd.1 ((step _).2 ⟨U,.inr hT⟩),fun q K s=>?_⟩
    rcases Nat.lt_or_ge q (m+d) with h3|h3
    ·exact ihd.2 q K h3
    obtain rfl:q=m+d:=by omega
    exact hnA
  obtain⟨n,hn,hc⟩:=g m;have:=O (n-m);rw[show m+(n-m)=n by omega] at this
  have U:B n:=(hs n hn).resolve_right (fun⟨q,K,s,h3⟩=>this.2 q K s h3)
  exact this.1 (hc U)
theorem zGG {f:List Nd} {p w g w':Nat} (u:w<=(zK f).length) (s:w'<=(zK f).length) (h:yH f p w=yH f g w'):p=g/\w=w':=by
 unfold yH at h
 have h:p*((zK f).length+1)+w=g*((zK f).length+1)+w':=by
  have:((p*((zK f).length+1)+w:Nat):Int)=((g*((zK f).length+1)+w':Nat):Int):=by
   rw[Int.natCast_add,Int.natCast_add,Int.natCast_mul,Int.natCast_mul,Int.natCast_add];simp only[Int.natCast_one];omega
  exact Int.ofNat.inj this
 have j:w<(zK f).length+1:=by omega
 have i:w'<(zK f).length+1:=by omega
 generalize (zK f).length+1=n at *
 have d:∀q v:Nat,v<n->(q*n+v)/n=q:=fun q v m=>by
  rw[Nat.add_comm,Nat.add_mul_div_right _ _ (by omega),Nat.div_eq_of_lt m];omega
 have e:p=g:=by rw[<-d p w j,h,d g w' i]
 subst e;exact⟨rfl,by omega⟩
theorem oD (f:List Nd) (p w:Nat):1<=yH f p w:=by
 unfold yH;have:(0:Int)<=(p:Int)*((zK f).length+1):=Int.mul_nonneg (by omega) (by omega)
 omega
theorem zGL {f:List Nd} {t:List Bool}:∀(m w:Nat),w<=(zK f).length->adv f t m w<=(zK f).length
 |0,w,h=>h
 |m+1,w,h=>by
  unfold adv
  split
  ·rename_i h1;exact zGL m (w+1) (by omega)
  exact h
theorem zDI {f:List Nd} {t:List Bool}:∀(m w:Nat),w<=adv f t m w
 |0,w=>nLe
 |m+1,w=>by
  unfold adv
  split
  ·have:=zDI (f:=f) (t:=t) m (w+1);omega
  exact nLe
theorem cN {f:List Nd} {t:List Bool} {w:Nat} (d:kG f t ((zK f).getD w 0)=false):∀(m v:Nat),v<=w->adv f t m v<=w
 |0,v,h=>h
 |m+1,v,h=>by
  unfold adv
  split
  ·rename_i h1
   rcases Nat.eq_or_lt_of_le h with rfl|h2
   ·rw[d] at h1;exact absurd h1.2 (by simp)
   exact cN d m (v+1) h2
  exact h
theorem rK {f:List Nd} {t:List Bool} {w:Nat} (h:w<=(zK f).length):onW f t w<=(zK f).length:=by
 unfold onW;refine zGL _ _ ?_
 split<;>omega
theorem zDP {f:List Nd} {T:Nat->List Bool} {W:Nat->Nat} (s:∀m,W (m+1)=onW f (T m) (W m)) (u:∀n,∃m,n<=m/\W m=(zK f).length) {w:Nat} (hw:w<(zK f).length) (n:Nat):∃m,n<=m/\kG f (T m) ((zK f).getD w 0)=true:=by
 apply Classical.byContradiction
 intro e
 have e:∀m,n<=m->kG f (T m) ((zK f).getD w 0)=false:=fun m O=>by
  cases h:kG f (T m) ((zK f).getD w 0) with
  |false=>rfl
  |true=>exact absurd ⟨m,O,h⟩ e
 obtain⟨g,J,K⟩:=u n
 have i:∀d,W (g+1+d)<=w:=by
  intro d
  induction d with
  |zero=>
   rw[Nat.add_zero,s,K];unfold onW;rw[if_pos rfl];exact cN (e g J) _ _ (Nat.zero_le _)
  |succ d ih=>
   rw[<-Nat.add_assoc,s];unfold onW;rw[if_neg (by omega)]
   exact cN (e _ (by omega)) _ _ ih
 obtain⟨j,U,N⟩:=u (g+1);have:=i (j-(g+1));rw[show g+1+(j-(g+1))=j by omega,N] at this
 omega
theorem zC0 {f:List Nd} {T:Nat->List Bool} {W:Nat->Nat} (s:∀m,W (m+1)=onW f (T m) (W m)) (g:∀m,W m<=(zK f).length) (U:∀w,w<(zK f).length->∀n,∃m,n<=m/\kG f (T m) ((zK f).getD w 0)=true) (n:Nat):∃m,n<=m/\W m=(zK f).length:=by
 have:∀d n,(zK f).length-W n=d->∃m,n<=m/\W m=(zK f).length:=by
  intro d
  induction d using Nat.strongRecOn with
  |_ d ih=>
   intro n hd;have hn:=g n
   by_cases hw:W n=(zK f).length
   ·exact⟨n,nLe,hw⟩
   obtain⟨m0,u,J⟩:=U (W n) (by omega) n
   obtain⟨m,b1,K,b3⟩:=rU (P:=fun i=>kG f (T i) ((zK f).getD (W n) 0)=true) u J
   have j:∀k,n+k<=m->W (n+k)=W n:=by
    intro k
    induction k with
    |zero=>intro _;rfl
    |succ k ihk=>
     intro hk;have e:=ihk (by omega)
     rw[<-Nat.add_assoc,s,e];unfold onW;rw[if_neg hw]
     have O:kG f (T (n+k)) ((zK f).getD (W n) 0)=false:=by
      cases h:kG f (T (n+k)) ((zK f).getD (W n) 0) with
      |false=>rfl
      |true=>exact absurd h (b3 _ (by omega) (by omega))
     have h1:=cN O (zK f).length (W n) nLe;have h2:=zDI (f:=f) (t:=T (n+k)) (zK f).length (W n);omega
   have e:=j (m-n) (by omega)
   rw[show n+(m-n)=m by omega] at e
   have h0:W n+1<=W (m+1):=by
    rw[s,e];unfold onW;rw[if_neg hw];obtain⟨q,hq⟩:∃q,(zK f).length=q+1:=⟨(zK f).length-1,by omega⟩
    rw[hq];unfold adv;rw[if_pos ⟨by omega,K⟩]
    exact zDI _ _
   have:=g (m+1);obtain⟨m',c1,N⟩:=ih ((zK f).length-W (m+1)) (by omega) (m+1) rfl
   exact⟨m',by omega,N⟩
 exact this _ n rfl
theorem zBQ {f:List Nd} {ss:List Stp} {p w:Nat} (i:p<2^tn f) (j:w<=(zK f).length):(pQ f ss).good (yH f p w)↔w=(zK f).length:=by
 have d:(yH f p w).toNat=p*((zK f).length+1)+w+1:=by
  have:yH f p w=((p*((zK f).length+1)+w+1:Nat):Int):=by
   unfold yH;rw[Int.natCast_add,Int.natCast_add,Int.natCast_mul,Int.natCast_add];simp only[Int.natCast_one];omega
  omega
 have e:(p+1)*((zK f).length+1)<=2^tn f*((zK f).length+1):=Nat.mul_le_mul_right _ i
 rw[Nat.succ_mul] at e;unfold Au.good pQ mC;simp only;rw[d,List.getD_eq_getElem?_getD,List.getElem?_map,List.getElem?_range (by omega)]
 simp only[Option.map_some,Option.getD_some,decide_eq_true_eq]
 have g:(p*((zK f).length+1)+w+1-1)%((zK f).length+1)=w:=by
  rw[Nat.add_sub_cancel,Nat.add_comm,Nat.add_mul_mod_self_right];exact Nat.mod_eq_of_lt (by omega)
 rw[g];have:=oD f p w
 constructor
 ·rintro⟨_,_,h⟩;exact h
 intro h;exact⟨by omega,by omega,h⟩
open Classical in
noncomputable def dM (f:List Nd) (u:Nat->Int) (m:Nat):List Bool:=(List.range f.length).map fun i=>decide ((zB f i).sem u m)
theorem zCw (f:List Nd) (u:Nat->Int) (m:Nat):(dM f u m).length=f.length:=by simp[dM]
theorem gF {f:List Nd} {u:Nat->Int} {m i:Nat} (d:i<f.length):(dM f u m).getD i false=true↔(zB f i).sem u m:=by
 unfold dM;rw[List.getD_eq_getElem?_getD,List.getElem?_map,List.getElem?_range d]
 simp
theorem zHm {a b:Bool} (h:a=true↔b=true):a=b:=by cases a<;>cases b<;>simp_all
theorem zDa {f:List Nd} (hf:vF f) {u:Nat->Int} {P:Nat->Nat} (hP:∀m,jF f (dM f u m) (P m)) (m:Nat):dM f u m=zV f (u m) (P (m+1)):=by
 have hl:(zV f (u m) (P (m+1))).length=f.length:=vW _ _ _ _
 have key:∀i,i<f.length->(dM f u m).getD i false=(zV f (u m) (P (m+1))).getD i false:=by
  intro i
  induction i using Nat.strongRecOn with
  |_ i ih=>
   intro K;refine zHm ?_;rw[gF K,zCI hf K,zAN hf K];have g:=(hP (m+1)).bit i K;have s:(dM f u (m+1)).getD i false=true↔(zB f i).sem u (m+1):=gF K;have d:=fun k=>zAN hf (u:=u) (m:=k) K
   unfold wT;unfold dK at g;have O:=jO.1 (hf.nd i K);have e:f.getD i qG=f[i]:=by rw[List.getD_eq_getElem?_getD,List.getElem?_eq_getElem K];rfl
   rw[e] at g d ⊢
   have N:3<=f[i].k->((zV f (u m) (P (m+1))).getD f[i].a.toNat false=true↔(zB f f[i].a.toNat).sem u m):=fun h=>by
    have:=O.a h;rw[<-ih _ (by omega) (by omega)]
    exact gF (by omega)
   have hb:(f[i].k=4\/f[i].k=5\/f[i].k=7\/f[i].k=8)->((zV f (u m) (P (m+1))).getD f[i].b.toNat false=true↔(zB f f[i].b.toNat).sem u m):=fun h=>by
    have:=O.b h;rw[<-ih _ (by omega) (by omega)]
    exact gF (by omega)
   have ha':3<=f[i].k->((dM f u (m+1)).getD f[i].a.toNat false=true↔(zB f f[i].a.toNat).sem u (m+1)):=fun h=>by
    have:=O.a h;exact gF (by omega)
   have hk:=O.k;generalize f[i]=x at *;simp only
   by_cases h1:x.k=1
   ·simp[h1]
   by_cases h2:x.k=2
   ·simp[h2]
   by_cases h3:x.k=3
   ·simp only[h3,show ¬(3:Int)=1 by decide,show ¬(3:Int)=2 by decide,if_true,if_false]
    rw[Bool.not_eq_true',<-N (by omega)]
    exact Bool.not_eq_true _▸Iff.rfl
   have N:=N (by omega)
   by_cases h6:x.k=6
   ·have:=g (wL.2 (by omega))
    simp only[h6,if_true] at this;simp only[h6,show ¬(6:Int)=1 by decide,show ¬(6:Int)=2 by decide,show ¬(6:Int)=3 by decide,show ¬(6:Int)=4 by decide,show ¬(6:Int)=5 by decide,if_true,if_false]
    rw[this,show yI 6=true from rfl,Bool.true_and];exact(ha' (by omega)).symm
   have hb:=hb (by omega)
   by_cases h4:x.k=4
   ·simp only[h4,show ¬(4:Int)=1 by decide,show ¬(4:Int)=2 by decide,show ¬(4:Int)=3 by decide,if_true,if_false,Bool.and_eq_true,N,hb]
   by_cases h5:x.k=5
   ·simp only[h5,show ¬(5:Int)=1 by decide,show ¬(5:Int)=2 by decide,show ¬(5:Int)=3 by decide,show ¬(5:Int)=4 by decide,if_true,if_false,Bool.or_eq_true,N,hb]
   have ht:yI x.k=true:=wL.2 (by omega)
   have g:=g ht;simp only[h6,if_false] at g;simp only[h1,h2,h3,h4,h5,h6,if_false,g,ht,Bool.true_and] at d ⊢
   by_cases h7:x.k=7
   ·simp only[h7,if_true,Bool.or_eq_true,Bool.and_eq_true,N,hb,s] at d ⊢
    rw[d (m+1)]
    constructor
    ·rintro⟨j,a1,a2,a3⟩
     rcases Nat.eq_or_lt_of_le a1 with rfl|a4
     ·exact .inl a2
     exact .inr ⟨a3 m nLe a4,j,a4,a2,fun q U J=>a3 q (by omega) J⟩
    rintro(a|⟨a,j,a1,a2,a3⟩)
    ·exact⟨m,nLe,a,fun q U J=>absurd J (by omega)⟩
    refine⟨j,by omega,a2,fun q U J=>?_⟩
    rcases Nat.eq_or_lt_of_le U with rfl|q3
    ·exact a
    exact a3 q q3 J
   simp only[h7,if_false,Bool.or_eq_true,Bool.and_eq_true,N,hb,s] at d ⊢;rw[d (m+1)]
   constructor
   ·intro O
    refine⟨(O m nLe).resolve_right (fun⟨q,U,J,_⟩=>by omega),?_⟩
    by_cases hA:(zB f x.a.toNat).sem u m
    ·exact .inl hA
    refine .inr fun j hj=>(O j (by omega)).imp id fun⟨q,U,J,q3⟩=>⟨q,?_,J,q3⟩
    rcases Nat.eq_or_lt_of_le U with rfl|q4
    ·exact absurd q3 hA
    exact q4
   rintro⟨hB,hor⟩ j hj
   rcases Nat.eq_or_lt_of_le hj with rfl|h4
   ·exact .inl hB
   rcases hor with hA|hR
   ·exact .inr ⟨m,nLe,h4,hA⟩
   exact(hR j h4).imp id fun⟨q,U,J,q3⟩=>⟨q,by omega,J,q3⟩
 refine List.ext_getElem (by rw[zCw,hl]) fun i h1 h2=>?_
 have:=key i (by rw[zCw] at h1;exact h1)
 rwa[zX h1,zX h2] at this
theorem zEE {f:List Nd} {w:Nat} (g:w<(zK f).length):(zK f).getD w 0<f.length/\((f.getD ((zK f).getD w 0) qG).k=7\/(f.getD ((zK f).getD w 0) qG).k=8):=by
 have:=List.getElem_mem g;rw[<-zX (d:=0) g] at this;unfold zK lH at this;rw[List.mem_filter] at this;have e:=this.2;simp only[pC,Bool.or_eq_true,beq_iff_eq] at e;exact⟨List.mem_range.1 this.1,e⟩
theorem zFF {f:List Nd} (K:vF f) {u:Nat->Int} {w:Nat} (hw:w<(zK f).length) (n:Nat):∃m,n<=m/\kG f (dM f u m) ((zK f).getD w 0)=true:=by
 obtain⟨s,N⟩:=zEE hw;generalize (zK f).getD w 0=i at *;have hx:=jO.1 (K.nd i s);have e:f.getD i qG=f[i]:=by rw[List.getD_eq_getElem?_getD,List.getElem?_eq_getElem s];rfl
 have g:=fun m=>gF (u:=u) (m:=m) s
 have d:=fun m=>zAN K (u:=u) (m:=m) s
 unfold kG;rw[e] at N d ⊢
 have J:∀m,(dM f u m).getD f[i].b.toNat false=true↔(zB f f[i].b.toNat).sem u m:=fun m=>by
  have:=hx.b (by omega)
  exact gF (by omega)
 generalize f[i]=x at *;simp only
 rcases N with h7|h8
 ·simp only[h7,if_true,show ¬(7:Int)=1 by decide,show ¬(7:Int)=2 by decide,show ¬(7:Int)=3 by decide,show ¬(7:Int)=4 by decide,show ¬(7:Int)=5 by decide,show ¬(7:Int)=6 by decide,if_false] at d ⊢
  by_cases hs:(zB f i).sem u n
  ·obtain⟨j,O,U,_⟩:=(d n).1 hs
   exact⟨j,O,by rw[(J j).2 U];simp⟩
  refine⟨n,nLe,?_⟩
  have:(dM f u n).getD i false=false:=by
   cases h:(dM f u n).getD i false with
   |false=>rfl
   |true=>exact absurd ((g n).1 h) hs
  rw[this];simp
 simp only[h8,show ¬(8:Int)=1 by decide,show ¬(8:Int)=2 by decide,show ¬(8:Int)=3 by decide,show ¬(8:Int)=4 by decide,show ¬(8:Int)=5 by decide,show ¬(8:Int)=6 by decide,show ¬(8:Int)=7 by decide,if_false] at d ⊢
 by_cases hs:(zB f i).sem u n
 ·exact⟨n,nLe,by rw[(g n).2 hs];simp⟩
 rw[d n] at hs;obtain⟨j,hj⟩:=Classical.not_forall.1 hs;obtain⟨h1,h2⟩:=Classical.not_imp.1 hj;refine⟨j,h1,?_⟩
 have:(dM f u j).getD x.b.toNat false=false:=by
  cases h:(dM f u j).getD x.b.toNat false with
  |false=>rfl
  |true=>exact absurd (.inl ((J j).1 h)) h2
 rw[this];simp
theorem zE8 {f:List Nd} (hf:vF f) {raw ss:List Stp} (hr:zDU f raw) (hs:aS raw ss) {u:Nat->Int} (hu:∀m,0<=u m/\u m<8):xJ (pQ f ss) u↔(zB f (f.length-1)).sem u 0:=by
 have hpos:=hf.pos
 constructor
 ·rintro⟨r,h0,hst,hg⟩
  have r0:r 0=0:=by simpa[pQ] using h0
  have st:∀m,∃nx w':Nat,nx<2^tn f/\w'<=(zK f).length/\r (m+1)=yH f nx (onW f (zV f (u m) nx) w')/\
    ((∃ p,jF f (zV f (u m) nx) p/\r m=yH f p w')\/(r m=0/\w'=0/\(zV f (u m) nx).getD (f.length-1) false=true)):=fun m=>by
   obtain⟨c,nx,p,hc,hnx,hkp,hor⟩:=(hr _).1 ((hs.mem _).1 (hst m))
   rcases hor with⟨w,hw,i⟩|⟨hl,i⟩
   ·have s:=congrArg Stp.f i
    have J:=congrArg Stp.l i;have K:=congrArg Stp.t i;simp only at s J K;rw[<-J] at K hkp;exact⟨nx,w,hnx,hw,K,.inl ⟨p,hkp,s⟩⟩
   have s:=congrArg Stp.f i;have J:=congrArg Stp.l i;have K:=congrArg Stp.t i;simp only at s J K;rw[<-J] at K hl;exact⟨nx,0,hnx,Nat.zero_le _,K,.inr ⟨s,rfl,hl⟩⟩
  obtain⟨d,h3⟩:∃d:Nat->Nat,∀m,∃w':Nat,d m<2^tn f/\w'<=(zK f).length/\r (m+1)=yH f (d m) (onW f (zV f (u m) (d m)) w')/\
    ((∃ p,jF f (zV f (u m) (d m)) p/\r m=yH f p w')\/(r m=0/\w'=0/\(zV f (u m) (d m)).getD (f.length-1) false=true)):=
   ⟨fun m=>Classical.choose (st m),fun m=>Classical.choose_spec (st m)⟩
  obtain⟨W',e⟩:∃W':Nat->Nat,∀m,d m<2^tn f/\W' m<=(zK f).length/\r (m+1)=yH f (d m) (onW f (zV f (u m) (d m)) (W' m))/\
    ((∃ p,jF f (zV f (u m) (d m)) p/\r m=yH f p (W' m))\/(r m=0/\W' m=0/\(zV f (u m) (d m)).getD (f.length-1) false=true)):=
   ⟨fun m=>Classical.choose (h3 m),fun m=>Classical.choose_spec (h3 m)⟩
  have U:∀m,∃p,jF f (zV f (u (m+1)) (d (m+1))) p/\r (m+1)=yH f p (W' (m+1)):=fun m=>by
   rcases(e (m+1)).2.2.2 with h|⟨h,_⟩
   ·exact h
   rw[(e m).2.2.1] at h;have:=oD f (d m) (onW f (zV f (u m) (d m)) (W' m));omega
  have g:∀m,jF f (zV f (u (m+1)) (d (m+1))) (d m)/\W' (m+1)=onW f (zV f (u m) (d m)) (W' m):=fun m=>by
   obtain⟨p,hp,i⟩:=U m;rw[(e m).2.2.1] at i;obtain⟨s,J⟩:=zGG (rK (e m).2.1) (e (m+1)).2.1 i;rw[<-s] at hp;exact⟨hp,J.symm⟩
  have first:W' 0=0/\(zV f (u 0) (d 0)).getD (f.length-1) false=true:=by
   rcases(e 0).2.2.2 with⟨p,_,h⟩|⟨_,h⟩
   ·rw[r0] at h
    have:=oD f p (W' 0);omega
   exact h
  have j:zJf f u (fun m=>zV f (u m) (d m)) (fun m=>match m with|0=>0|m+1=>d m):=
   ⟨fun m=>rfl,fun m=>(g m).1,fun w hw n=>zDP (W:=W') (fun m=>(g m).2) (fun n=>by
    obtain⟨m,hm,hgm⟩:=hg (n+1);obtain⟨k,rfl⟩:∃k,m=k+1:=⟨m-1,by omega⟩
    rw[(e k).2.2.1,<-(g k).2,zBQ (e k).1 (e (k+1)).2.1] at hgm;exact⟨k+1,by omega,hgm⟩) hw n⟩
  exact(zFt hf j (f.length-1) (by omega) 0).1 first.2
 intro hsem;obtain⟨P,hP⟩:∃P:Nat->Nat,∀m,jF f (dM f u m) (P m):=⟨fun m=>Classical.choose (zEn f (dM f u m)),fun m=>Classical.choose_spec (zEn f (dM f u m))⟩
 have hT:=zDa hf hP;obtain⟨W,N,hW⟩:∃W:Nat->Nat,W 0=0/\∀m,W (m+1)=onW f (dM f u m) (W m):=⟨fun m=>Nat.rec 0 (fun m w=>onW f (dM f u m) w) m,rfl,fun m=>rfl⟩
 have O:∀m,W m<=(zK f).length:=by
  intro m
  cases m with
  |zero=>rw[N];exact Nat.zero_le _
  |succ m=>
   rw[hW]
   have:∀m,W m<=(zK f).length:=by
    intro m
    induction m with
    |zero=>rw[N];exact Nat.zero_le _
    |succ m ih=>rw[hW];exact rK ih
   exact rK (this m)
 refine⟨fun m=>match m with|0=>0|m+1=>yH f (P (m+1)) (W (m+1)),by simp[pQ],fun m=>?_,fun n=>?_⟩
 ·refine(hs.mem _).2 ((hr _).2 ?_)
  have hc:((u m).toNat:Int)=u m:=by have:=hu m;omega
  refine⟨(u m).toNat,P (m+1),P m,by have:=hu m;omega,(hP (m+1)).lt,by rw[hc,<-hT m];exact hP m,?_⟩
  rw[hc,<-hT m]
  cases m with
  |zero=>
   right
   exact⟨(gF (by omega)).2 hsem,by simp only[hW,N]⟩
  |succ m=>
   left
   exact⟨W (m+1),O _,by simp only[hW]⟩
 obtain⟨m,h1,h2⟩:=zC0 hW O (fun w hw n=>zFF hf hw n) (n+1)
 obtain⟨k,rfl⟩:∃k,m=k+1:=⟨m-1,by omega⟩
 exact⟨k+1,by omega,(zBQ (hP (k+1)).lt (O _)).2 h2⟩
theorem gY {f:List Nd} (e:vF f):tn f<=4/\(zK f).length<=tn f:=by
 have d:=e.few;unfold xA zCc at d;rw[Bool.or_eq_false_iff] at d;have g:=of_decide_eq_false d.2;refine⟨by unfold tn tix;rw[List.take_length];omega,?_⟩
 have:∀n,n<=f.length->(lH f n).length<=tix f n:=by
  intro n
  induction n with
  |zero=>intro _;simp[lH]
  |succ n ih=>
   intro h;have:=ih (by omega)
   rw[mL (by omega)]
   unfold lH at *;rw[List.range_succ,List.filter_append,List.length_append]
   by_cases hk:pC (f.getD n qG).k=true
   ·have:yI (f.getD n qG).k=true:=wL.2 (by simp only[pC,Bool.or_eq_true,beq_iff_eq] at hk;omega)
    rw[if_pos this];rw[List.filter_cons,if_pos hk];simp only[List.filter_nil,List.length_cons,List.length_nil];omega
   rw[List.filter_cons,if_neg hk];simp only[List.filter_nil,List.length_nil];omega
 exact this f.length nLe
theorem zGP {f:List Nd} (U:vF f) {e ss:List Stp} (hr:zDU f e) (u:aS e ss) (hl:e.length<=6000):ckA (pQ f ss)=0:=by
 have ht:=gY U;have i:2^tn f<=16:=Nat.pow_le_pow_right (n:=2) (by decide) ht.1
 have h1:1<=2^tn f:=Nat.one_le_two_pow
 have hm:2^tn f*((zK f).length+1)<=16*5:=Nat.mul_le_mul i (by omega)
 have h:yH f (2^tn f) 0=((2^tn f*((zK f).length+1)+1:Nat):Int):=by
  unfold yH;rw[Int.natCast_add,Int.natCast_mul,Int.natCast_add];simp only[Int.natCast_one];omega
 have N:=u.len
 have d:∀p w:Nat,p<2^tn f->w<=(zK f).length->0<=yH f p w/\yH f p w<yH f (2^tn f) 0:=fun p w hp K=>by
  have O:(p+1)*((zK f).length+1)<=2^tn f*((zK f).length+1):=Nat.mul_le_mul_right _ hp
  rw[Nat.succ_mul] at O
  have:yH f p w=((p*((zK f).length+1)+w+1:Nat):Int):=by
   unfold yH;rw[Int.natCast_add,Int.natCast_add,Int.natCast_mul,Int.natCast_add];simp only[Int.natCast_one];omega
  rw[h,this];omega
 refine yP.2 ⟨⟨?_,?_,show(1:Int)<=8 by decide,show(8:Int)<=8 by decide,?_,?_,?_,?_,?_⟩,u.so⟩
 ·show 1<=yH f (2^tn f) 0
  omega
 ·show yH f (2^tn f) 0<=300
  omega
 ·show((mC f).length:Int)=yH f (2^tn f) 0
  rw[h];simp[mC]
 ·show ss.length<=6000
  omega
 ·intro q hq
  obtain rfl:q=0:=by simpa[pQ] using hq
  show(0:Int)<=0/\0<yH f (2^tn f) 0;omega
 ·show[(0:Int)].Pairwise (·<·)
  simp
 intro s J;obtain⟨c,nx,p,hc,g,j,m⟩:=(hr _).1 ((u.mem _).1 J);show(0<=s.f/\s.f<yH f (2^tn f) 0)/\(0<=s.t/\s.t<yH f (2^tn f) 0)/\0<=s.l/\s.l<8
 rcases m with⟨w,K,rfl⟩|⟨_,rfl⟩
 ·exact⟨d p w j.lt K,d nx _ g (rK K),by simp only;omega,by simp only;omega⟩
 exact⟨⟨Int.le_refl 0,by simp only;omega⟩,d nx _ g (rK (Nat.zero_le _)),by simp only;omega,by simp only;omega⟩
end
section
open Go Go.RowKit Go.Maps Go.Shelf
def atD (f:List Nd) (n:Nat):List (Int×Int):=((List.range n).filter fun i=>yI (f.getD i qG).k).map fun i:Nat=>((i:Int),(tix f i:Int))
theorem zB2 (f:List Nd) (n:Nat):atD f (n+1)=atD f n++if yI (f.getD n qG).k=true then[((n:Int),(tix f n:Int))] else[]:=by
 unfold atD;rw[List.range_succ,List.filter_append,List.map_append]
 by_cases h:yI (f.getD n qG).k=true
 ·rw[if_pos h,List.filter_cons_of_pos (p:=fun i:Nat=>yI (f.getD i qG).k) h];rfl
 rw[if_neg h,List.filter_cons_of_neg (p:=fun i:Nat=>yI (f.getD i qG).k) h];rfl
theorem sE {f:List Nd} {n:Nat} {k v:Int}:(k,v)∈atD f n↔∃i,i<n/\yI (f.getD i qG).k=true/\k=(i:Int)/\v=(tix f i:Int):=by
 unfold atD;rw[List.mem_map]
 constructor
 ·rintro⟨i,e,d⟩
  rw[List.mem_filter,List.mem_range] at e;simp only[Prod.mk.injEq] at d;exact⟨i,e.1,e.2,d.1.symm,d.2.symm⟩
 rintro⟨i,g,h,rfl,rfl⟩;exact⟨i,List.mem_filter.2 ⟨List.mem_range.2 g,h⟩,rfl⟩
theorem zH6 {f:List Nd} {n:Nat} {k:Int}:k∈(atD f n).map Prod.fst↔∃i,i<n/\yI (f.getD i qG).k=true/\k=(i:Int):=by
 rw[List.mem_map]
 constructor
 ·rintro⟨⟨j,v⟩,h,rfl⟩
  obtain⟨i,d,e,g,_⟩:=sE.1 h;exact⟨i,d,e,g⟩
 rintro⟨i,d,e,rfl⟩;exact⟨_,sE.2 ⟨i,d,e,rfl,rfl⟩,rfl⟩
theorem dO (f:List Nd) (n:Nat):((atD f n).map Prod.fst).Nodup:=by
 unfold atD;rw[List.map_map];have:((List.range n).filter fun i=>yI (f.getD i qG).k).Nodup:=List.nodup_range.filter _
 unfold List.Nodup at *;rw[List.pairwise_map];exact this.imp fun{x y} h e=>h (Int.ofNat.inj e)
theorem aN (f:List Nd):∀n,n<=f.length->(atD f n).length=tix f n
 |0,_=>by simp[atD,tix]
 |n+1,h=>by
  rw[zB2,List.length_append,aN f n (by omega),mL (by omega)]
  by_cases h:yI (f.getD n qG).k=true
  ·rw[if_pos h,if_pos h];rfl
  rw[if_neg h,if_neg h];rfl
def qL (f:List Nd):List Int:=(zK f).map fun i:Nat=>(i:Int)
theorem qU (f:List Nd):(qL f).length=(zK f).length:=by simp[qL]
structure mE (W:World) (Bk M:Nat) (f:List Nd) (FA:Option Addr) (fc:Nat) (GA:Option Addr) (gc:Nat):Prop where
 lt:Bk<W.heap.size
 c0:W.cell? ⟨Bk,0,none⟩=some (.slice FA f.length fc)
 c1:W.cell? ⟨Bk,1,none⟩=some (.map (some M))
 c2:W.cell? ⟨Bk,2,none⟩=some (.slice GA (qL f).length gc)
 fm:Nds W 0 FA fc f
 at_:AtI W M (atD f f.length)
 fr:zE W 0 GA gc (qL f)
theorem mE.on {W W':World} {Bk M:Nat} {f:List Nd} {FA:Option Addr} {fc:Nat} {e:Option Addr} {g:Nat} (h:mE W Bk M f FA fc e g) (d:Below W W W'):mE W' Bk M f FA fc e g:=
 ⟨Nat.lt_of_lt_of_le h.lt d.size,(d.cell (p:=⟨Bk,0,none⟩) h.lt).trans h.c0,(d.cell (p:=⟨Bk,1,none⟩) h.lt).trans h.c1,(d.cell (p:=⟨Bk,2,none⟩) h.lt).trans h.c2,h.fm.below d,h.at_.on d,h.fr.below d⟩
def trR (f:List Nd) (c:Int) (nx:Nat) (i:Nat):List Bool:=trs f c nx i++List.replicate (f.length-i) false
theorem wI {f:List Nd} {c:Int} {nx i:Nat} (h:i<=f.length):(trR f c nx i).length=f.length:=by
 unfold trR;rw[List.length_append,vW,List.length_replicate];omega
theorem wU {f:List Nd} {c:Int} {nx i j:Nat} (h:j<i):(trR f c nx i).getD j false=(trs f c nx i).getD j false:=by
 unfold trR;rw[List.getD_eq_getElem?_getD,List.getElem?_append_left (by rw[vW];exact h),<-List.getD_eq_getElem?_getD]
theorem zIf {f:List Nd} {c:Int} {nx i:Nat} (h:i<f.length):(trR f c nx i).set i (wT f c nx (trs f c nx i) i)=trR f c nx (i+1):=by
 unfold trR;rw[List.set_append_right _ _ (by rw[vW];exact nLe),vW,Nat.sub_self,show f.length-i=(f.length-(i+1))+1 by omega,List.replicate_succ,List.set_cons_zero]
 show _=(trs f c nx i++[wT f c nx (trs f c nx i) i])++_;rw[List.append_assoc];rfl
theorem zHH (f:List Nd) (c:Int) (nx:Nat):trR f c nx f.length=zV f c nx:=by
 unfold trR zV;rw[Nat.sub_self]
 simp
theorem zKt {x:Int} (d:-9000000000000000000<=x) (e:x<=9000000000000000000):IntKind.i64.wrap x=x:=IntWalk.i64_in _ (by omega)
theorem nS (f:List Nd) (g:vF f) (p v:Nat) (O:p<=16) (U:v<=5) (Bk M:Nat) (FA h:Option Addr) (fc s:Nat) (w:World) (d:mE w Bk M f FA fc h s):
  Calls Tryz.prog 143 #[(⟨Bk,0,none⟩:Addr),(p:Int),(v:Int)] w fun e w'=>e=.returned (yH f p v)/\w'=w:=by
 have N:=gY g;have m:=d.c2;rw[qU] at m;have i:Hid (yH f p v=1+(p:Int)*(((zK f).length:Int)+1)+v):=rfl;have J:(zK f).length<=4:=by omega
 clear d N g;generalize (zK f).length=n at *;have K:(p:Int)*((n:Int)+1)=((p*(n+1):Nat):Int):=by simp
 have u:p*(n+1)<=16*5:=Nat.mul_le_mul O (by omega)
 have q1:IntKind.i64.wrap ((p:Int)*((n:Int)+1))=(p:Int)*((n:Int)+1):=zKt (by omega) (by omega)
 have q2:IntKind.i64.wrap (1+(p:Int)*((n:Int)+1))=1+(p:Int)*((n:Int)+1):=zKt (by omega) (by omega)
 have q3:IntKind.i64.wrap (1+(p:Int)*((n:Int)+1)+(v:Int))=1+(p:Int)*((n:Int)+1)+v:=zKt (by omega) (by omega)
 have j:Hid (Ending.returned (.int .i64 (1+(p:Int)*((n:Int)+1)+v))=.returned (yH f p v)):=by show _=_;rw[i.o]
 clear K u
 go_enter Tryz.func143,Tryz.ntmps143
 go_wp2_with fail
 go_ret
 exact⟨j.o,rfl⟩
theorem zKT (f:List Nd) (hf:vF f) (i:Nat) (O:i<f.length) (U:(f.getD i qG).k=7\/(f.getD i qG).k=8) (t:List Bool) (hl:t.length=f.length) (G Bk M:Nat) (FA GA:Option Addr) (fc gc:Nat) (w:World) (s:mE w Bk M f FA fc GA gc) (h:zU w G t):
  Calls Tryz.prog 189 #[(⟨Bk,0,none⟩:Addr),(i:Int),.slice (some ⟨G,0,none⟩) t.length t.length] w (xX w (kG f t i)):=by
 have hle:=s.fm.le;have c0:=s.c0;have u:Hid (f.getD i qG=f[i]):=by show _=_;rw[List.getD_eq_getElem?_getD,List.getElem?_eq_getElem O];rfl
 have hx:=jO.1 (hf.nd i O);rw[u.o] at U;have g:Hid (kG f t i=if f[i].k=7 then !t.getD i false||t.getD f[i].b.toNat false else t.getD i false||!t.getD f[i].b.toNat false):=by show _=_;unfold kG;rw[u.o]
 obtain⟨fb,fo,rfl,_,_,x0,x1,x2,x3⟩:=Nds.at_ s.fm O;generalize f[i]=x at *;obtain⟨j,N⟩:=hx.b (by omega)
 obtain⟨d,m⟩:=Int.eq_ofNat_of_zero_le j;rw[m] at g x2;rw[show((d:Nat):Int).toNat=d by omega] at g
 have e:Hid (Below w w (w.alloc (.cells #[x.k,x.a,(d:Int),x.n] 63))):=bLa
 obtain⟨y0,_⟩:=(h.below e.o h.lt).getD_ (i:=i) (by omega) false
 obtain⟨y1,_⟩:=(h.below e.o h.lt).getD_ (i:=d) (by omega) false
 have q1:(i:Int)<(f.length:Int):=by omega
 have q2:(i:Int)<(t.length:Int):=by omega
 have q3:(d:Int)<(t.length:Int):=by omega
 generalize t.getD i false=vi at *;generalize t.getD d false=vb at *;have J:=hId U;clear s h hf hx U j N m hl u
 go_enter Tryz.func189,Tryz.ntmps189
 by_cases h7:x.k=7
 ·rw[if_pos h7] at g
  rw[h7] at x0 e y0 y1;have K:Hid (xX w (kG f t i) (.returned (.bool (!vi||vb))) (w.alloc (.cells #[(7:Int),x.a,(d:Int),x.n] 63))):=⟨by rw[g.o],e.o⟩
  clear h7 J;cases vi
  all_goals
   go_wp2_with fail
   go_ret
   exact K.o
 rw[if_neg h7] at g;have h8:x.k=8:=by have:=J.o;omega
 rw[h8] at x0 e y0 y1;have K:Hid (xX w (kG f t i) (.returned (.bool (vi||!vb))) (w.alloc (.cells #[(8:Int),x.a,(d:Int),x.n] 63))):=⟨by rw[g.o],e.o⟩
 clear h7 h8 J;cases vi
 all_goals
  go_wp2_with fail
  go_ret
  exact K.o
theorem zFb {f:List Nd} {k:Nat} (h:k<(qL f).length):(qL f)[k]=(((zK f).getD k 0:Nat):Int):=by
 have d:k<(zK f).length:=by rwa[qU] at h
 have e:(qL f)[k]?=some (((zK f).getD k 0:Nat):Int):=by
  unfold qL;rw[List.getElem?_map,List.getD_eq_getElem?_getD,List.getElem?_eq_getElem d];rfl
 exact(List.getElem?_eq_some_iff.1 e).2
theorem zHg {f:List Nd} {t:List Bool} {k:Nat} (h:¬k<(zK f).length):∀m,adv f t m k=k
 |0=>rfl
 |m+1=>by unfold adv;rw[if_neg (fun d=>h d.1)]
theorem zFX {f:List Nd} {t:List Bool} {k:Nat} (h:kG f t ((zK f).getD k 0)=false):∀m,adv f t m k=k
 |0=>rfl
 |m+1=>by unfold adv;rw[if_neg (fun d=>by rw[h] at d;cases d.2)]
theorem on_ (f:List Nd) (hf:vF f) (v:Nat) (hv:v<=(zK f).length) (t:List Bool) (hl:t.length=f.length) (G Bk M:Nat) (FA GA:Option Addr) (fc gc:Nat) (w:World) (hT:mE w Bk M f FA fc GA gc) (hG:zU w G t):
  Calls Tryz.prog 170 #[(⟨Bk,0,none⟩:Addr),(v:Int),.slice (some ⟨G,0,none⟩) t.length t.length] w (uI w (onW f t v:Nat)):=by
 have hn:=gY hf;have c2:=hT.c2;have hln:(qL f).length<=4:=by rw[qU];omega
 obtain⟨s,hs⟩:∃s,s=if v=(qL f).length then 0 else v:=⟨_,rfl⟩
 have h2:s<=(qL f).length:=by rw[hs];split<;>(rw[qU] at *;omega)
 have HR:Hid (onW f t v=adv f t (qL f).length s):=by show _=_;rw[hs,qU];rfl
 have HS:=hId hs;have HT:=hId hT;have HG:=hId hG;have HF:=hId hf;have HL:=hId hl;have hv5:v<=4:=by omega
 clear hT hG hs hf hn hv hl
 go_enter Tryz.func170,Tryz.ntmps170
 go_upto_if 13 with fail
 go_cut [1] (fun s1 wx=>s1=(s:Int)/\wx=w)
 case first=>
  by_cases hz:v=(qL f).length
  ·have e1:((v:Int)==((qL f).length:Int))=true:=by simp[hz]
   have e2:Hid (s=0):=by show _=_;rw[HS.o,if_pos hz]
   clear hz
   go_wp2_with fail
   go_meet
   exact⟨by rw[e2.o];rfl,rfl⟩
  have e1:((v:Int)==((qL f).length:Int))=false:=by simp;omega
  have e2:Hid (s=v):=by show _=_;rw[HS.o,if_neg hz]
  clear hz
  go_wp2_with fail
  go_meet
  exact⟨by rw[e2.o],rfl⟩
 obtain⟨rfl,rfl⟩:=hcut;clear c2;obtain⟨n,j⟩:∃n,n=(qL f).length:=⟨_,rfl⟩;have HN:=hId j;rw[<-j] at HR hln h2;clear j
 go_wp2_with fail
 go_loopw [1] (fun v1 wr=>∃k:Nat,k<=n/\v1=(k:Int)/\Hid (∃ m,n-k<=m/\adv f t m k=onW f t v)/\Hid (Below wc wc wr)) (fun v1 _=>n-(intOf v1).toNat)
 case atStart=>exact⟨s,h2,rfl,⟨n,by omega,HR.o.symm⟩,bRf⟩
 obtain⟨k,hk,rfl,HM,g⟩:=hrel;have i:=hId (HT.o.on g.o);have c2:=i.o.c2;have c0:=i.o.c0;rw[<-HN.o] at c2
 by_cases hkn:k<n
 ·have q1:(k:Int)<(n:Int):=by omega
  have hle:=i.o.fr.le;rw[<-HN.o] at hle;have d:k<(qL f).length:=by rw[<-HN.o];exact hkn
  obtain⟨gb,go,rfl,_,_,y0⟩:=zE.at_ i.o.fr d;rw[zFb d] at y0;obtain⟨U,h0⟩:=zEE (f:=f) (w:=k) (by rw[<-qU];exact d)
  have J:=hId (zKT f HF.o _ U h0 t HL.o G Bk M FA _ fc gc wr i.o (HG.o.below g.o HG.o.lt));have K:=hId hkn
  have HA1:Hid (kG f t ((zK f).getD k 0)=false->adv f t 0 k=onW f t v):=fun h=>by
   obtain⟨m,hm,N⟩:=HM.o;rw[<-N];exact(zFX h 0).trans (zFX h m).symm
  have HA2:Hid (kG f t ((zK f).getD k 0)=true->∃m,n-(k+1)<=m/\adv f t m (k+1)=onW f t v):=fun h=>by
   obtain⟨m,hm,N⟩:=HM.o
   cases m with
   |zero=>omega
   |succ m=>
    refine⟨m,by omega,?_⟩
    rw[<-N];show _=adv f t (m+1) k;rw[show adv f t (m+1) k=if k<(zK f).length/\kG f t ((zK f).getD k 0)=true then adv f t m (k+1) else k from rfl,if_pos ⟨by rw[<-qU];exact d,h⟩]
  clear U h0 d HM;generalize (zK f).getD k 0=ii at *;generalize kG f t ii=cv at *
  go_wp2_with fail
  refine J.o.mono ?_;rintro e w3 ⟨rfl,O⟩;have u:=hId (zA g.o O g.o.size);clear O J c0 c2 y0
  cases cv with
  |true=>
   go_wp2_with fail
   go_roundw
   case rel=>exact⟨k+1,K.o,by go_num,HA2.o (by simp),u.o⟩
   case measure=>simp[intOf];have:=K.o;omega
  |false=>
   have HP:Hid (uI wc (onW f t v:Nat) (.returned (k:Int)) w3):=⟨by rw[<-HA1.o (by simp)];rfl,u.o⟩
   go_wp2_with fail
   go_ret
   exact HP.o
 have q1:¬(k:Int)<(n:Int):=by omega
 have HP:Hid (uI wc (onW f t v:Nat) (.returned (k:Int)) wr):=by
  obtain⟨m,hm,N⟩:=HM.o;have d:¬k<(zK f).length:=by rw[<-qU,<-HN.o];exact hkn
  exact⟨by rw[<-N,zHg d],g.o⟩
 go_wp2_with fail
 go_ret
 exact HP.o
theorem pK {a b:World} {row:Option Nat} {B:Nat} (h:a.grownBy b row) (g:B<=a.heap.size) (d:∀r,row=some r->B<=r):Below B a b:=
 ⟨h.os,h.tape,h.output,h.size,fun k i=>h.block k (by omega) (fun e=>by have:=d k e.symm;omega)⟩
theorem zGf {n t:Nat} (d:n<16) (e:t<=4):bits BinOp.or IntKind.i64 (n:Int) (wrap64 (2^t))=((n ||| 2^t:Nat):Int):=by
 have:∀n:Fin 16,∀t:Fin 5,bits BinOp.or IntKind.i64 ((n:Nat):Int) (wrap64 (2^(t:Nat)))=(((n:Nat) ||| 2^(t:Nat):Nat):Int):=by decide +kernel
 exact this ⟨n,d⟩ ⟨t,by omega⟩
structure KpM (f:List Nd) (t:List Bool) (left:Lit->Bool) (p:Nat):Prop where
 lt:p<2^tn f
 bit:∀i,i<f.length->yI (f.getD i qG).k=true->p.testBit (tix f i)=(!left (.int .i64 (i:Int))&&dK f t i)
theorem KpM.start (f:List Nd) (t:List Bool):KpM f t (Maps.has (itD (atD f f.length))) 0:=
 ⟨Nat.two_pow_pos _,fun i d e=>by
  rw[zIn (dO f f.length) (sE.2 ⟨i,d,e,rfl,rfl⟩)]
  simp⟩
theorem KpM.done {f:List Nd} {t:List Bool} {left:Lit->Bool} {p:Nat} (h:KpM f t left p) (e:∀k,left k=false):jF f t p:=
 ⟨h.lt,fun i d g=>by rw[h.bit i d g,e];simp⟩
theorem KpM.step {f:List Nd} {t:List Bool} {left:Lit->Bool} {p i:Nat} (h:KpM f t left p) (u:i<f.length) (K:yI (f.getD i qG).k=true) (U:left (.int .i64 (i:Int))=true):
  KpM f t (fun z=>left z&&!z.sameKey (.int .i64 (i:Int))) (if dK f t i=true then p ||| 2^tix f i else p):=by
 have N:=h.bit i u K;rw[U] at N
 have m:∀j:Nat,(Lit.int .i64 (j:Int)).sameKey (.int .i64 (i:Int))=decide (j=i):=fun j=>by
  simp[Lit.sameKey]
  omega
 refine⟨?_,fun j O g=>?_⟩
 ·split
  ·exact Nat.or_lt_two_pow h.lt (Nat.pow_lt_pow_right (by decide) (zGl u K))
  exact h.lt
 have s:=h.bit j O g;show _=(!(left (.int .i64 (j:Int))&&!(Lit.int .i64 (j:Int)).sameKey (.int .i64 (i:Int)))&&dK f t j);rw[m j]
 by_cases hji:j=i
 ·subst hji
  have d:p.testBit (tix f j)=false:=by simpa using N
  cases hk:dK f t j with
  |true=>rw[if_pos rfl,Nat.testBit_or,d,Nat.testBit_two_pow_self];simp
  |false=>rw[if_neg (by simp),d];simp
 have J:tix f i≠tix f j:=fun e=>hji (zEg g K O u e.symm)
 rw[decide_eq_false hji]
 have hx:(if dK f t i=true then p ||| 2^tix f i else p).testBit (tix f j)=p.testBit (tix f j):=by
  split
  ·rw[Nat.testBit_or,Nat.testBit_two_pow_of_ne J,Bool.or_false]
  rfl
 rw[hx,s]
 simp
theorem zLm (f:List Nd) (hf:vF f) (t:List Bool) (hl:t.length=f.length) (G Bk M:Nat) (FA GA:Option Addr) (fc gc:Nat) (w:World) (hT:mE w Bk M f FA fc GA gc) (hG:zU w G t):
  Calls Tryz.prog 169 #[(⟨Bk,0,none⟩:Addr),.slice (some ⟨G,0,none⟩) t.length t.length] w fun e w'=>∃p:Nat,e=.returned (p:Int)/\jF f t p/\Below w w w':=by
 have K:w.ownsMap Tryz.prog 3 (plainElem Tryz.prog 3) M (atD f f.length).length (itD (atD f f.length)):=hT.at_
 have c1:=hT.c1;have HT:=hId hT;have HG:=hId hG;have HF:=hId hf;have HL:=hId hl;clear hT hG hf hl
 go_enter Tryz.func169,Tryz.ntmps169
 go_wp2_with (first
  |(at_range;refine wpList_range_own _ rfl _ 165 rfl 3 3 cE Tryz.underlying165 _ M _ _ rfl K ?_;intro w0 O hg0 hs0)
  |go_in)
 go_frame
 clear c1 K
 go_loopw [5] (fun v5 wr=>∃(left:Lit->Bool) (cnt p:Nat),v5=(p:Int)/\wr.ranges Tryz.prog 3 (plainElem (H:=Unit) Tryz.prog 3) M w.heap.size (atD f f.length).length (itD (atD f f.length)) left cnt/\Hid (KpM f t left p)/\Hid (Below w w wr)) (fun _ wr=>wr.rangeLeft M w.heap.size)
 case atStart=>exact⟨_,_,0,rfl,O,KpM.start f t,pK hg0 nLe (fun r h=>by cases h)⟩
 obtain⟨left,cnt,p,rfl,h0,HK,HB⟩:=hrel
 go_wp2_with (first
  |(at_next;refine wpList_next_ranges_ii _ rfl _ rfl 3 3 .i64 .i64 cE Tryz.underlying3 Tryz.underlying3 M w.heap.size _ _ _ _ rfl h0 ?_ ?_)
  |go_in)
 ·intro _ hl0
  have HP:Hid (∃ p':Nat,Ending.returned (p:Int)=.returned (p':Int)/\jF f t p'/\Below w w wr):=⟨p,rfl,HK.o.done hl0,HB.o⟩
  clear hl0
  go_wp2_with fail
  go_ret
  exact HP.o
 intro x c w1 cnt1 hwx hwc hlx hat m hlt hg1 hs1 hen
 rcases zE0 (k:=x) (v:=c) hat with hm|⟨v',_,hn⟩
 ·obtain⟨i,hi,ht,rfl,rfl⟩:=sE.1 hm
  have g:=hId (zA HB.o (pK hg1 HB.o.size (fun r h=>by cases h;exact nLe)) nLe)
  have U:=hId (HT.o.on g.o);have h1:=hId (HG.o.below g.o HG.o.lt);have s:=hId (HK.o.step hi ht hlx);have HX:=jO.1 (HF.o.nd i hi)
  have HE:Hid (f.getD i qG=f[i]):=by show _=_;rw[List.getD_eq_getElem?_getD,List.getElem?_eq_getElem hi];rfl
  have d:Hid (dK f t i=if f[i].k=6 then t.getD f[i].a.toNat false else t.getD i false):=by show _=_;unfold dK;rw[HE.o]
  have hle:=U.o.fm.le;obtain⟨fb,fo,rfl,_,_,x0,x1,x2,x3⟩:=Nds.at_ U.o.fm hi;rw[HE.o] at ht;generalize f[i]=y at *;have c0:=U.o.c0;have q1:(i:Int)<(f.length:Int):=by omega
  have q2:(i:Int)<(t.length:Int):=by have:=HL.o;omega
  obtain⟨y0,_⟩:=h1.o.getD_ (i:=i) (by have:=HL.o;omega) false
  have hk6:=wL.1 ht;obtain⟨hA1,hA2⟩:=HX.a (by omega)
  obtain⟨aa,haa⟩:=Int.eq_ofNat_of_zero_le hA1;rw[haa] at x1 d;rw[show((aa:Nat):Int).toNat=aa by omega] at d
  have q3:(aa:Int)<(t.length:Int):=by have:=HL.o;omega
  obtain⟨y1,_⟩:=h1.o.getD_ (i:=aa) (by have:=HL.o;omega) false
  have htl:tix f i<=4:=by
   have:=sW (f:=f) (i:=i) (j:=f.length) (by omega) nLe
   have:=(gY HF.o).1;unfold tn at this;omega
  have N:p<16:=Nat.lt_of_lt_of_le HK.o.lt (Nat.pow_le_pow_right (n:=2) (by decide) (gY HF.o).1)
  have J:=hId m;have u:Hid (w1.rangeLeft M w.heap.size<wr.rangeLeft M w.heap.size):=by show _<_;rw[m.left_eq,h0.left_eq];exact hlt
  generalize t.getD i false=vi at *;generalize t.getD aa false=va at *;generalize tix f i=tx at *;generalize dK f t i=kv at *;clear hm ht hA1 hA2 haa HX HE hk6 hat hlx h0 m hg1 hlt hg0 O hs0 hs1 HK
  by_cases h6:y.k=6
  ·rw[if_pos h6] at d
   rw[h6] at x0;clear h6
   cases va with
   |true=>
    go_wp2_with fail
    go_roundw
    case rel=>exact⟨_,_,p ||| 2^tx,by rw[zGf N htl],J.o,by have:=s.o;rw[d.o] at this;exact this,g.o⟩
    case measure=>exact u.o
   |false=>
    go_wp2_with fail
    go_roundw
    case rel=>exact⟨_,_,p,rfl,J.o,by have:=s.o;rw[d.o] at this;exact this,g.o⟩
    case measure=>exact u.o
  rw[if_neg h6] at d;have e6:(y.k==6)=false:=by simp[h6]
  clear h6
  cases vi with
  |true=>
   go_wp2_with fail
   go_roundw
   case rel=>exact⟨_,_,p ||| 2^tx,by rw[zGf N htl],J.o,by have:=s.o;rw[d.o] at this;exact this,g.o⟩
   case measure=>exact u.o
  |false=>
   go_wp2_with fail
   go_roundw
   case rel=>exact⟨_,_,p,rfl,J.o,by have:=s.o;rw[d.o] at this;exact this,g.o⟩
   case measure=>exact u.o
 exact absurd (dO _ _) hn
def zFO (w:World) (row:List Bool) (e:Ending) (w':World):Prop:=∃G,e=.returned (.slice (some ⟨G,0,none⟩) row.length row.length)/\w.heap.size<=G/\zU w' G row/\Below w w w'
theorem zIB {n t:Nat} (d:n<16) (e:t<=4):(bits BinOp.and IntKind.i64 ((n:Int)/2^t) 1==1)=n.testBit t:=by
 have:∀n:Fin 16,∀t:Fin 5,(bits BinOp.and IntKind.i64 (((n:Nat):Int)/2^(t:Nat)) 1==1)=(n:Nat).testBit t:=by decide +kernel
 exact this ⟨n,d⟩ ⟨t,by omega⟩
theorem zIi {c t:Nat} (d:c<8) (e:t<=2):(bits BinOp.and IntKind.i64 ((c:Int)/2^t) 1==1)=nI (c:Int) t:=by
 have:∀n:Fin 8,∀t:Fin 3,(bits BinOp.and IntKind.i64 (((n:Nat):Int)/2^(t:Nat)) 1==1)=nI ((n:Nat):Int) t:=by decide +kernel
 exact this ⟨c,d⟩ ⟨t,by omega⟩
theorem zD8 {f:List Nd} (d:vF f):f.length<=1000000:=by
 have:=d.few;unfold xA at this
 simp at this
 omega
theorem zHS (f:List Nd) (hf:vF f) (c nx:Nat) (hc:c<8) (hnx:nx<2^tn f) (Bk M:Nat) (FA GA:Option Addr) (fc gc:Nat) (w:World) (hT:mE w Bk M f FA fc GA gc):
  Calls Tryz.prog 168 #[(⟨Bk,0,none⟩:Addr),(c:Int),(nx:Int)] w (zFO w (zV f c nx)):=by
 have ht4:=gY hf;have h16:2^tn f<=16:=Nat.pow_le_pow_right (n:=2) (by decide) ht4.1
 have hfl:f.length<=1000000:=zD8 hf
 have hmk:=jV (f.length:Int) f.length rfl hfl;have HT:=hId hT;have HF:=hId hf;have c0:=hT.c0;have c1:=hT.c1;have HNX:Hid (nx<2^tn f):=hnx;have hn16:nx<16:=by omega
 clear hT hf hnx h16
 go_enter Tryz.func168,Tryz.ntmps168
 go_upto_region 2 with fail
 have m:Below w w (w.alloc (.cells (madeCells #[Value.bool false] f.length) 4)):=bLa
 have HG0:=hId (zU.new w f.length);have HT1:=hId (HT.o.on m);have HB1:=hId m;obtain⟨G,hG⟩:∃G,G=w.heap.size:=⟨_,rfl⟩;rw[<-hG] at HG0 ⊢;have HGG:=hId hG;clear hG m hmk c0 c1
 generalize w.alloc (.cells (madeCells #[Value.bool false] f.length) 4)=W1 at *;have c0:=HT1.o.c0;have c1:=HT1.o.c1
 go_wp2_with fail
 go_loopw [24] (fun v24 wr=>∃i:Nat,i<=f.length/\v24=(i:Int)/\Hid (mE wr Bk M f FA fc GA gc)/\Hid (zU wr G (trR f c nx i))/\Hid (Below w w wr)) (fun v24 _=>f.length-(intOf v24).toNat)
 case atStart=>exact⟨0,Nat.zero_le _,rfl,HT1.o,by show zU _ _ _;unfold trR;simpa[trs] using HG0.o,HB1.o⟩
 obtain⟨i,hi,rfl,HTR,HGR,HBR⟩:=hrel;clear c0 c1 HT1 HG0 HB1
 by_cases hil:i<f.length
 ·have q1:(i:Int)<(f.length:Int):=by omega
  have hle:=HTR.o.fm.le;obtain⟨fb,fo,rfl,_,_,x0,x1,x2,x3⟩:=Nds.at_ HTR.o.fm hil;have s:=hId (jO.1 (HF.o.nd i hil))
  have u:Hid (f.getD i qG=f[i]):=by show _=_;rw[List.getD_eq_getElem?_getD,List.getElem?_eq_getElem hil];rfl
  generalize f[i]=x at *;have c0:=HTR.o.c0;have c1:=HTR.o.c1
  go_upto_region 5 with fail
  have hba:Below wr wr (wr.alloc (.cells #[x.k,x.a,x.b,x.n] 63)):=bLa
  have HTA:=hId (HTR.o.on hba);have HGA:=hId (HGR.o.below hba HGR.o.lt);have HBA:=hId (zA HBR.o hba HBR.o.size)
  have HZA:Hid ((wr.alloc (.cells #[x.k,x.a,x.b,x.n] 63)).heap[wr.heap.size]?=some (.cells #[x.k,x.a,x.b,x.n] 63 (0,0))):=World.alloc_heap_new _ _
  obtain⟨Z,hZ⟩:∃Z,Z=wr.heap.size:=⟨_,rfl⟩;rw[<-hZ] at HZA ⊢;have hGZ:Hid (G≠Z):=by have:=HGR.o.lt;show _≠_;omega
  clear hZ hba c0 c1 x0 x1 x2 x3;generalize wr.alloc (.cells #[x.k,x.a,x.b,x.n] 63)=Wa at *;have c1:=HTA.o.c1
  have z0:Wa.cell? ⟨Z,0,none⟩=some (.int .i64 x.k):=by simp[World.cell?,HZA.o]
  have z1:Wa.cell? ⟨Z,1,none⟩=some (.int .i64 x.a):=by simp[World.cell?,HZA.o]
  have z2:Wa.cell? ⟨Z,2,none⟩=some (.int .i64 x.b):=by simp[World.cell?,HZA.o]
  have z3:Wa.cell? ⟨Z,3,none⟩=some (.int .i64 x.n):=by simp[World.cell?,HZA.o]
  have hii:(Lit.int .i64 (i:Int)).wf=true:=WalkArith.wf_i64 (by omega)
  have htl:tix f i<=4:=by
   have:=sW (f:=f) (i:=i) (j:=f.length) hi nLe;have:=ht4.1;unfold tn at this;omega
  have hlk:(Instr.lookup 165 (.map (some M)) (.int .i64 (i:Int)) true).run Tryz.prog Wa=.ok (.tuple #[.int .i64 (if yI x.k=true then(tix f i:Int) else 0),.bool (yI x.k)]) Wa:=by
   cases ht:yI x.k with
   |true=>
    rw[if_pos rfl];exact HTA.o.at_.hit (dO _ _) hii (sE.2 ⟨i,hil,by rw[u.o];exact ht,rfl,rfl⟩)
   |false=>
    rw[if_neg (by simp)]
    exact HTA.o.at_.miss hii fun h=>by
     obtain⟨j,_,h2,h3⟩:=zH6.1 h;obtain rfl:i=j:=by omega
     rw[u.o,ht] at h2;cases h2
  have N:=hId hil;obtain⟨s0,s1⟩:=HGA.o.getD_ (i:=i) (by rw[wI hi];exact hil) false
  have e:Hid (∀ v,wT f c nx (trs f c nx i) i=v->mE (Wa.setCell ⟨G,i,none⟩ (.bool v)) Bk M f (some ⟨fb,fo,none⟩) fc GA gc/\zU (Wa.setCell ⟨G,i,none⟩ (.bool v)) G (trR f c nx (i+1))/\Below w w (Wa.setCell ⟨G,i,none⟩ (.bool v))):=fun v hv=>by
   have hb:=HBA.o.setCell (p:=⟨G,i,none⟩) (by have:=HGG.o;show _<=G;omega) (.bool v)
   refine⟨HT.o.on hb,?_,hb⟩;rw[<-zIf hil,hv];exact HGA.o.set_ i v
  obtain⟨lt,hlt⟩:∃b,(bits BinOp.and IntKind.i64 ((nx:Int)/2^tix f i) 1==1)=b:=⟨_,rfl⟩;have HLT:Hid (lt=nx.testBit (tix f i)):=by show _=_;rw[<-hlt];exact zIB hn16 htl
  generalize htt:tix f i=t at *
  generalize HOO:trs f c nx i=oo at *
  by_cases d:x.k=1
  ·have ht:yI x.k=false:=by rw[d];rfl
   rw[ht,if_neg (by simp)] at hlk
   rw[d] at z0
   have U:Hid (wT f c nx oo i=(true)):=by
    show _=_;unfold wT;rw[u.o];simp[d]
   clear d ht s u
   go_wp2_with fail
   go_roundw
   case rel=>exact⟨i+1,N.o,by go_num,(e.o _ U.o).1,(e.o _ U.o).2.1,(e.o _ U.o).2.2⟩
   case measure=>simp[intOf];have:=N.o;omega
  have k1:(x.k==1)=false:=by simp[d]
  have HK1:=hId d;clear d
  by_cases d:x.k=2
  ·have ht:yI x.k=false:=by rw[d];rfl
   rw[ht,if_neg (by simp)] at hlk
   rw[d] at z0;obtain⟨hN1,hN2⟩:=s.o.n d;obtain⟨nn,hnn⟩:=Int.eq_ofNat_of_zero_le hN1;rw[hnn] at z3;have hn2:nn<=2:=by omega
   have hbo:(bits BinOp.and IntKind.i64 ((c:Int)/2^nn) 1==1)=nI (c:Int) nn:=zIi hc hn2
   generalize hbv:nI (c:Int) nn=bv at *
   have U:Hid (wT f c nx oo i=(bv)):=by
    show _=_;unfold wT;rw[u.o];simp[d,hnn,hbv]
   clear d ht s u hN1 hN2 hnn hbv
   go_wp2_with fail
   go_roundw
   case rel=>exact⟨i+1,N.o,by go_num,(e.o _ U.o).1,(e.o _ U.o).2.1,(e.o _ U.o).2.2⟩
   case measure=>simp[intOf];have:=N.o;omega
  have k2:(x.k==2)=false:=by simp[d]
  have HK2:=hId d;clear d
  by_cases d:x.k=3
  ·have ht:yI x.k=false:=by rw[d];rfl
   rw[ht,if_neg (by simp)] at hlk
   rw[d] at z0;obtain⟨K,hA2⟩:=s.o.a (by omega)
   obtain⟨J,g⟩:=Int.eq_ofNat_of_zero_le K;rw[g] at z1;have m:J<i:=by omega
   have qa:(J:Int)<(f.length:Int):=by omega
   obtain⟨ya,_⟩:=HGA.o.getD_ (i:=J) (by rw[wI hi];omega) false
   rw[wU m,HOO] at ya;have O:oo.getD x.a.toNat false=oo.getD J false:=by rw[g];rfl
   generalize oo.getD J false=va at *
   have U:Hid (wT f c nx oo i=(!va)):=by
    show _=_;unfold wT;rw[u.o];simp[d];rw[<-List.getD_eq_getElem?_getD,O]
   clear d ht s u K hA2 g m O
   go_wp2_with fail
   go_roundw
   case rel=>exact⟨i+1,N.o,by go_num,(e.o _ U.o).1,(e.o _ U.o).2.1,(e.o _ U.o).2.2⟩
   case measure=>simp[intOf];have:=N.o;omega
  have k3:(x.k==3)=false:=by simp[d]
  have HK3:=hId d;clear d
  by_cases d:x.k=4
  ·have ht:yI x.k=false:=by rw[d];rfl
   rw[ht,if_neg (by simp)] at hlk
   rw[d] at z0;obtain⟨K,hA2⟩:=s.o.a (by omega)
   obtain⟨J,g⟩:=Int.eq_ofNat_of_zero_le K;rw[g] at z1;have m:J<i:=by omega
   have qa:(J:Int)<(f.length:Int):=by omega
   obtain⟨ya,_⟩:=HGA.o.getD_ (i:=J) (by rw[wI hi];omega) false
   rw[wU m,HOO] at ya;have O:oo.getD x.a.toNat false=oo.getD J false:=by rw[g];rfl
   generalize oo.getD J false=va at *;obtain⟨hB1,hB2⟩:=s.o.b (by omega)
   obtain⟨bb,h0⟩:=Int.eq_ofNat_of_zero_le hB1;rw[h0] at z2;have hbl:bb<i:=by omega
   have qb:(bb:Int)<(f.length:Int):=by omega
   obtain⟨yb,_⟩:=HGA.o.getD_ (i:=bb) (by rw[wI hi];omega) false
   rw[wU hbl,HOO] at yb;have hvb:oo.getD x.b.toNat false=oo.getD bb false:=by rw[h0];rfl
   generalize oo.getD bb false=vb at *
   have U:Hid (wT f c nx oo i=(va&&vb)):=by
    show _=_;unfold wT;rw[u.o];simp[d];rw[<-List.getD_eq_getElem?_getD,<-List.getD_eq_getElem?_getD,O,hvb]
   clear d ht s u K hA2 g m O hB1 hB2 h0 hbl hvb;cases va
   all_goals
    go_wp2_with fail
    go_roundw
    case rel=>exact⟨i+1,N.o,by go_num,(e.o _ U.o).1,(e.o _ U.o).2.1,(e.o _ U.o).2.2⟩
    case measure=>simp[intOf];have:=N.o;omega
  have k4:(x.k==4)=false:=by simp[d]
  have HK4:=hId d;clear d
  by_cases d:x.k=5
  ·have ht:yI x.k=false:=by rw[d];rfl
   rw[ht,if_neg (by simp)] at hlk
   rw[d] at z0;obtain⟨K,hA2⟩:=s.o.a (by omega)
   obtain⟨J,g⟩:=Int.eq_ofNat_of_zero_le K;rw[g] at z1;have m:J<i:=by omega
   have qa:(J:Int)<(f.length:Int):=by omega
   obtain⟨ya,_⟩:=HGA.o.getD_ (i:=J) (by rw[wI hi];omega) false
   rw[wU m,HOO] at ya;have O:oo.getD x.a.toNat false=oo.getD J false:=by rw[g];rfl
   generalize oo.getD J false=va at *;obtain⟨hB1,hB2⟩:=s.o.b (by omega)
   obtain⟨bb,h0⟩:=Int.eq_ofNat_of_zero_le hB1;rw[h0] at z2;have hbl:bb<i:=by omega
   have qb:(bb:Int)<(f.length:Int):=by omega
   obtain⟨yb,_⟩:=HGA.o.getD_ (i:=bb) (by rw[wI hi];omega) false
   rw[wU hbl,HOO] at yb;have hvb:oo.getD x.b.toNat false=oo.getD bb false:=by rw[h0];rfl
   generalize oo.getD bb false=vb at *
   have U:Hid (wT f c nx oo i=(va||vb)):=by
    show _=_;unfold wT;rw[u.o];simp[d];rw[<-List.getD_eq_getElem?_getD,<-List.getD_eq_getElem?_getD,O,hvb]
   clear d ht s u K hA2 g m O hB1 hB2 h0 hbl hvb;cases va
   all_goals
    go_wp2_with fail
    go_roundw
    case rel=>exact⟨i+1,N.o,by go_num,(e.o _ U.o).1,(e.o _ U.o).2.1,(e.o _ U.o).2.2⟩
    case measure=>simp[intOf];have:=N.o;omega
  have k5:(x.k==5)=false:=by simp[d]
  have HK5:=hId d;clear d
  by_cases d:x.k=6
  ·have ht:yI x.k=true:=by rw[d];rfl
   rw[ht,if_pos rfl] at hlk;rw[d] at z0;obtain⟨K,hA2⟩:=s.o.a (by omega)
   obtain⟨J,g⟩:=Int.eq_ofNat_of_zero_le K;rw[g] at z1;have m:J<i:=by omega
   have qa:(J:Int)<(f.length:Int):=by omega
   obtain⟨ya,_⟩:=HGA.o.getD_ (i:=J) (by rw[wI hi];omega) false
   rw[wU m,HOO] at ya;have O:oo.getD x.a.toNat false=oo.getD J false:=by rw[g];rfl
   generalize oo.getD J false=va at *
   have U:Hid (wT f c nx oo i=(lt)):=by
    show _=_;unfold wT;rw[u.o,htt,<-HLT.o];simp[d,yI,btw]
   clear d ht s u K hA2 g m O
   go_wp2_with fail
   go_roundw
   case rel=>exact⟨i+1,N.o,by go_num,(e.o _ U.o).1,(e.o _ U.o).2.1,(e.o _ U.o).2.2⟩
   case measure=>simp[intOf];have:=N.o;omega
  have k6:(x.k==6)=false:=by simp[d]
  have HK6:=hId d;clear d
  by_cases d:x.k=7
  ·have ht:yI x.k=true:=by rw[d];rfl
   rw[ht,if_pos rfl] at hlk;rw[d] at z0;obtain⟨K,hA2⟩:=s.o.a (by omega)
   obtain⟨J,g⟩:=Int.eq_ofNat_of_zero_le K;rw[g] at z1;have m:J<i:=by omega
   have qa:(J:Int)<(f.length:Int):=by omega
   obtain⟨ya,_⟩:=HGA.o.getD_ (i:=J) (by rw[wI hi];omega) false
   rw[wU m,HOO] at ya;have O:oo.getD x.a.toNat false=oo.getD J false:=by rw[g];rfl
   generalize oo.getD J false=va at *;obtain⟨hB1,hB2⟩:=s.o.b (by omega)
   obtain⟨bb,h0⟩:=Int.eq_ofNat_of_zero_le hB1;rw[h0] at z2;have hbl:bb<i:=by omega
   have qb:(bb:Int)<(f.length:Int):=by omega
   obtain⟨yb,_⟩:=HGA.o.getD_ (i:=bb) (by rw[wI hi];omega) false
   rw[wU hbl,HOO] at yb;have hvb:oo.getD x.b.toNat false=oo.getD bb false:=by rw[h0];rfl
   generalize oo.getD bb false=vb at *
   have U:Hid (wT f c nx oo i=(vb||va&&lt)):=by
    show _=_;unfold wT;rw[u.o,htt,<-HLT.o];simp[d,yI,btw];rw[<-List.getD_eq_getElem?_getD,<-List.getD_eq_getElem?_getD,O,hvb]
   clear d ht s u K hA2 g m O hB1 hB2 h0 hbl hvb
   cases vb<;>cases va
   all_goals
    go_wp2_with fail
    go_roundw
    case rel=>exact⟨i+1,N.o,by go_num,(e.o _ U.o).1,(e.o _ U.o).2.1,(e.o _ U.o).2.2⟩
    case measure=>simp[intOf];have:=N.o;omega
  have k7:(x.k==7)=false:=by simp[d]
  have HK7:=hId d;clear d;have d:x.k=8:=by have:=s.o.k;have:=HK1.o;have:=HK2.o;have:=HK3.o;have:=HK4.o;have:=HK5.o;have:=HK6.o;have:=HK7.o;omega
  clear k1 k2 k3 k4 k5 k6 k7 HK1 HK2 HK3 HK4 HK5 HK6 HK7;have ht:yI x.k=true:=by rw[d];rfl
  rw[ht,if_pos rfl] at hlk;rw[d] at z0;obtain⟨K,hA2⟩:=s.o.a (by omega)
  obtain⟨J,g⟩:=Int.eq_ofNat_of_zero_le K;rw[g] at z1;have m:J<i:=by omega
  have qa:(J:Int)<(f.length:Int):=by omega
  obtain⟨ya,_⟩:=HGA.o.getD_ (i:=J) (by rw[wI hi];omega) false
  rw[wU m,HOO] at ya;have O:oo.getD x.a.toNat false=oo.getD J false:=by rw[g];rfl
  generalize oo.getD J false=va at *;obtain⟨hB1,hB2⟩:=s.o.b (by omega)
  obtain⟨bb,h0⟩:=Int.eq_ofNat_of_zero_le hB1;rw[h0] at z2;have hbl:bb<i:=by omega
  have qb:(bb:Int)<(f.length:Int):=by omega
  obtain⟨yb,_⟩:=HGA.o.getD_ (i:=bb) (by rw[wI hi];omega) false
  rw[wU hbl,HOO] at yb;have hvb:oo.getD x.b.toNat false=oo.getD bb false:=by rw[h0];rfl
  generalize oo.getD bb false=vb at *
  have U:Hid (wT f c nx oo i=(vb&&(va||lt))):=by
   show _=_;unfold wT;rw[u.o,htt,<-HLT.o];simp[d,yI,btw];rw[<-List.getD_eq_getElem?_getD,<-List.getD_eq_getElem?_getD,O,hvb]
  clear d ht s u K hA2 g m O hB1 hB2 h0 hbl hvb
  cases vb<;>cases va
  all_goals
   go_wp2_with fail
   go_roundw
   case rel=>exact⟨i+1,N.o,by go_num,(e.o _ U.o).1,(e.o _ U.o).2.1,(e.o _ U.o).2.2⟩
   case measure=>simp[intOf];have:=N.o;omega
 have q1:¬(i:Int)<(f.length:Int):=by omega
 obtain rfl:i=f.length:=by omega
 rw[zHH] at HGR
 have HP:Hid (zFO w (zV f c nx) (.returned (.slice (some ⟨G,0,none⟩) f.length f.length)) wr):=by
  have hl:(zV f c nx).length=f.length:=vW f c nx f.length
  exact⟨G,by rw[hl],by have:=HGG.o;omega,HGR.o,HBR.o⟩
 go_wp2_with fail
 go_ret
 exact HP.o
end
section
open Go Go.RowKit Go.Maps Go.Shelf Go.Sort
structure TbW (w0:World) (Bk M:Nat) (f:List Nd) (FA:Option Addr) (fc:Nat) (gv sv:Value) (es:List Stp) (W:World):Prop where
 lo:w0.heap.size<=Bk
 obj:W.heap[Bk]?=some (.cells #[.slice FA f.length fc,.map (some M),gv,sv] 167 (0,0))
 nd:Nds w0 0 FA fc f
 below:Below w0 w0 W
 at_:AtI W M (atD f f.length)
 fr:W.ownsRow w0.heap.size 3 1 gv (qL f).length ((qL f).flatMap viL)
 s:W.ownsRow w0.heap.size 80 3 sv es.length (es.flatMap Stp.cells)
section
variable {w0 W W':World} {Bk M:Nat} {f:List Nd} {FA:Option Addr} {fc:Nat} {gv sv:Value} {es:List Stp}
theorem TbW.lt (h:TbW w0 Bk M f FA fc gv sv es W):Bk<W.heap.size:=(gLt h.obj)
theorem TbW.on (h:TbW w0 Bk M f FA fc gv sv es W) (d:Below W W W'):TbW w0 Bk M f FA fc gv sv es W':=
 ⟨h.lo,(d.block _ h.lt).trans h.obj,h.nd,zA h.below d h.below.size,h.at_.on d,zD h.fr d,zD h.s d⟩
theorem zDB {W:World} {G:Nat} {a b c d:Value} {t:TypeId} {m:Nat×Nat} (h:W.heap[G]?=some (.cells #[a,b,c,d] t m)) (v:Value):(W.setCell ⟨G,3,none⟩ v).heap[G]?=some (.cells #[a,b,c,v] t m):=by
 simp[World.setCell,Array.getElem?_modify,h]
theorem kY {W:World} {G:Nat} {a b c d:Value} {t:TypeId} (h:W.heap[G]?=some (.cells #[a,b,c,d] t (0,0))):W.cell? ⟨G,0,none⟩=some a/\W.cell? ⟨G,1,none⟩=some b/\W.cell? ⟨G,2,none⟩=some c/\W.cell? ⟨G,3,none⟩=some d/\W.frozen? ⟨G,3,none⟩=false:=by
 refine⟨?_,?_,?_,?_,?_⟩<;>simp[World.cell?,World.frozen?,h]
theorem TbW.rd (h:TbW w0 Bk M f FA fc gv sv es W) (s:vF f):∃d e,gv=.slice d (qL f).length e/\mE W Bk M f FA fc d e:=by
 obtain⟨d,e,rfl,m⟩:=SlE.of_own (enc:=viL) (bt:=8) h.fr (by rw[qU];have:=gY s;omega)
 obtain⟨g,i,j,u,_⟩:=kY h.obj;exact⟨d,e,rfl,h.lt,g,i,j,h.nd.below h.below,h.at_,m.zero⟩
theorem mY {B n sz:Nat} {e:TypeId} {v:Value} {xs:List Value} {D:List (Int×Int)} (h:AtI W M D) (i:W.ownsRow B e sz v n xs):v.ownBlock≠some M:=fun d=>by
 obtain⟨es,c,g,_⟩:=h
 rcases i.2 with⟨rfl,_⟩|⟨g',cap,cur,rfl,_,hh,_⟩
 ·cases d
 obtain rfl:g'=M:=by simpa[Value.ownBlock] using d
 rw[g] at hh;cases hh
def kF (Bk:Nat) (W W':World):Prop:=∀(k:Nat) (o:Obj),W.heap[k]?=some o->k≠Bk->(∀ cs m,o≠.cells cs 80 m)->W'.heap[k]?=some o
theorem kF.of_below {Bk:Nat} {W W':World} (h:Below W W W'):kF Bk W W':=fun k o d _ _=>(h.block k (gLt d)).trans d
theorem kF.trans {Bk:Nat} {W W' W'':World} (h:kF Bk W W') (g:kF Bk W' W''):kF Bk W W'':=fun k o i d e=>g k o (h k o i d e) d e
theorem kF.brow {W W':World} {G:Nat} {t:List Bool} {Bk:Nat} (h:kF Bk W W') (d:G≠Bk) (g:zU W G t):zU W' G t:=
 h G _ g d (fun cs m e=>by injection e with _ h2 _;exact absurd h2 (by decide))
theorem TbW.brow_ne {w0 W:World} {Bk M:Nat} {f:List Nd} {FA:Option Addr} {fc:Nat} {gv sv:Value} {es:List Stp} {G:Nat} {t:List Bool} (h:TbW w0 Bk M f FA fc gv sv es W) (g:zU W G t):G≠Bk:=fun e=>by
 have d:W.heap[G]?=_:=g
 rw[e,h.obj] at d
 simp at d
theorem eH {W:World} {B n:Nat} {v:Value} {xs:List Value} (h:W.ownsRow B 80 3 v n xs) {k:Nat} {o:Obj} (e:W.heap[k]?=some o) (g:∀cs m,o≠.cells cs 80 m):v.ownBlock≠some k:=fun d=>by
 rcases h.2 with⟨rfl,_⟩|⟨g',cap,cur,rfl,_,hh,_⟩
 ·cases d
 obtain rfl:g'=k:=by simpa[Value.ownBlock] using d
 rw[hh] at e;exact g _ _ (Option.some.inj e).symm
theorem TbW.app (h:TbW w0 Bk M f FA fc gv sv es W) (x:Stp) (hl:es.length<=1000000000):
  mO Bk 3 sv 29 80 #[x.f,x.l,x.t] es.length W (fun v' W'=>TbW w0 Bk M f FA fc gv v' (es++[x]) W'/\kF Bk W W'):=by
 obtain⟨i0,h0,hz0,hz1,hz2⟩:=info_parts rN;have h3:=h.lt;have j:Below W W (W.alloc (.cells #[x.f,x.l,x.t] 80)):=bLa;obtain⟨A1,c1,e1,O,U,_⟩:=zF h.s
 obtain⟨v3,w3,hr,g,u,hat⟩:=jC (P:=Tryz.prog) (W.alloc (.cells #[x.f,x.l,x.t] 80)) w0.heap.size 29 29 80 i0 _ 3 24 Tryz.underlying29 h0 hz0 hz1 hz2 rfl (by decide) _ es.length _ (zD h.s j) (some ⟨W,0,none⟩) 1 1 [.int .i64 x.f,.int .i64 x.l,.int .i64 x.t] rfl
  (Rd.new W #[x.f,x.l,x.t] 80) (by simp[Value.oneCell']) (by simp only[maxLen];omega) (by omega) (by have:=h.below.size;simp;omega)
 obtain⟨J,K,rfl,_,_,_⟩:=zF g;have d:=wH h.obj h.s (by decide) j u
 obtain⟨_,_,_,q,fz⟩:=kY d
 have m:∀k,k<W.heap.size->sv.ownBlock≠some k->k≠Bk->(w3.setCell ⟨Bk,3,none⟩ (.slice J (es.length+1) K)).heap[k]?=W.heap[k]?:=fun k hk i N=>
  (Below.heap_setCell _ ⟨Bk,3,none⟩ _ _ N).trans ((u.block k (by have:=j.size;omega) (fun e=>i e.symm)).trans (j.block k hk))
 refine⟨A1,c1,e1,O,U,J,K,w3,by rw[<-e1];exact hr,q,fz,u,⟨⟨h.lo,zDB d _,h.nd,?_,?_,xQ h.fr h.s (by decide) j u d (by decide) 3 (.slice J (es.length+1) K),?_⟩,?_⟩⟩
 ·exact h.below.trans (bR h.s h3 h.lo j u 3 _)
 ·refine h.at_.heap (m M h.at_.lt (mY h.at_ h.s) fun e=>?_)
  obtain⟨es',c,i,_⟩:=h.at_;rw[e,h.obj] at i;cases i
 ·have:=yM g d (by decide) 3 (.slice J (es.length+1) K)
  rw[show(es++[x]).length=es.length+1 by simp,show(es++[x]).flatMap Stp.cells=es.flatMap Stp.cells++[.int .i64 x.f,.int .i64 x.l,.int .i64 x.t] by simp[Stp.cells]]
  exact this
 intro k o ho i N;exact(m k (gLt ho) (eH h.s ho N) i).trans ho
theorem TbW.mid {u:Option Addr} {J:Nat} {W1 g:World} (hf:vF f) (h:TbW w0 Bk M f FA fc (.slice u (qL f).length J) sv es W) (d:Below W W W1) (K:W1.grownBy g sv.ownBlock):
  mE g Bk M f FA fc u J/\∀G t,zU W G t->zU g G t:=by
 have j:=wH h.obj h.s (by decide) d K
 have m:Below w0 w0 g:=h.below.trans ((d.mono h.below.size).grown K (by have:=d.size;have:=h.below.size;omega) (fun k m=>(h.s.lt k m).1))
 obtain⟨c0,c1,c2,c3,_⟩:=kY j;have h0:g.ownsRow w0.heap.size 3 1 (.slice u (qL f).length J) (qL f).length ((qL f).flatMap viL):=World.ownsRow.kept (zD h.fr d) K (mT h.fr h.s (by decide))
 obtain⟨N,O,he,hG⟩:=SlE.of_own (enc:=viL) (bt:=8) h0 (by rw[qU];have:=gY hf;omega)
 obtain⟨rfl,rfl⟩:u=N/\J=O:=by simpa using he
 have i:∀k,k<W.heap.size->sv.ownBlock≠some k->g.heap[k]?=W.heap[k]?:=fun k m h1=>(K.block k (by have:=d.size;omega) (fun e=>h1 e.symm)).trans (d.block k m)
 exact⟨⟨(gLt j),c0,c1,c2,h.nd.below m,h.at_.heap (i M h.at_.lt (mY h.at_ h.s)),hG.zero⟩,fun G t U=>(i G U.lt (wG h.s U (by decide))).trans U⟩
end
end
end Go.Proofs.YtoglgeaiiipchaaGreatDoor
