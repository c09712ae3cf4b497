import Derived.Deep.RegionHeld
import Derived.Deep.RegionHeld3
import Derived.WalkKit
import Derived.WalkLawsBesides
import Derived.Below
import Derived.Outline
import Derived.Deep.QuietTactic
import Derived.BigQuiet
import Derived.Lib.Hide
import Derived.Handy
import Derived.OneCell
import Derived.Laws.AppendOwn
import Derived.Laws.OwnMore
import Derived.Laws.MakeOwn
import Derived.OwnWalk
import Derived.Maps.AppendAt
import Derived.Deep.AppendLies
import Derived.Lib.QuietBelow
import Derived.Test.YtoglgeaiiipchaaGreatDoorProg
set_option linter.unusedSimpArgs false
set_option linter.unusedVariables false
set_option maxRecDepth 100000
set_option maxHeartbeats 8000000
namespace Go.Proofs.YtoglgeaiiipchaaGreatDoor
section
open Go Go.RowKit
theorem bLa {w:World} {o:Obj}:Below w.heap.size w (w.alloc o):=(Below.refl _ _).alloc (Nat.le_refl _) _
theorem nLe {n:Nat}:n≤n:=Nat.le_refl n
theorem bRf {B:Nat} {w:World}:Below B w w:=Below.refl _ _
instance:Coe Int Value:=⟨fun n=>.int .i64 n⟩
instance:Coe Nat Value:=⟨fun n=>.int .i64 n⟩
instance:Coe Addr Value:=⟨fun a=>.pointer (some a)⟩
instance:Coe Unit Value:=⟨fun _=>.slice none 0 0⟩
instance:Coe Bool Value:=⟨fun b=>.bool b⟩
instance:Coe World Nat:=⟨fun w=>w.heap.size⟩
def Hid (p:Prop):Prop:=p
theorem hId {p:Prop} (h:p):Hid p:=h
theorem Hid.o {p:Prop} (h:Hid p):p:=h
theorem gLt {α:Type _} {a:Array α} {i:Nat} {v:α} (h:a[i]?=some v):i<a.size:=(Array.getElem?_eq_some_iff.1 h).1
theorem lAy:(∀(a:Act) (d:Tmp) (v:Value),a.put (some d) v={a with tmps:=a.tmps.setIfInBounds d v})∧(∀(a:Act) (v:Value),a.put none v=a)∧(∀{α:Type} (l:List α) (i:Nat) (a:α),l.toArray.setIfInBounds i a=(l.set i a).toArray)∧(∀{α:Type} (x:α) (xs:List α) (a:α),(x::xs).set 0 a=a::xs)∧(∀{α:Type} (x:α) (xs:List α) (i:Nat) (a:α),(x::xs).set (i+1) a=x::xs.set i a):=⟨fun _ _ _=>rfl,fun _ _=>rfl,fun l i a=>List.setIfInBounds_toArray l i a,fun _ _ _=>List.set_cons_zero,fun _ _ _ _=>List.set_cons_succ⟩
end
section
open Go Go.RowKit
theorem pW:∀(l:List Bool) (i:Nat),l.getD i true=false->(l.set i true).count false+1=l.count false
 |[],i,h=>by simp at h
 |x::l,0,h=>by
  obtain rfl:x=false:=by simpa using h
  simp
 |x::l,i+1,h=>by
  have d:=pW l i (by simpa using h)
  rw[List.set_cons_succ,List.count_cons,List.count_cons];omega
section
variable {P:Program} {md:Region.Mode} {ops:Array Oper} {Q:Exit->Act->World->Prop} {I:Array Bool->Act->World->Prop}
theorem zAd (m:∀d a w,I d a w->∀i,i∈Region.ready md ops d->wpOp P ops Q i (fun a' w'=>I (d.setIfInBounds i true) a' w') a w)
  (j:∀d a w,I d a w->Region.ready md ops d=[]->Q .normal a w):
  ∀(fuel:Nat) (d:Array Bool) (a:Act) (w:World),d.toList.count false<=fuel->I d a w->wpAny P md ops Q fuel d a w
 |0,d,a,w,hc,h=>by
  have e:Region.ready md ops d=[]:=by
   cases e:Region.ready md ops d with
   |nil=>rfl
   |cons i r=>
    have g:i∈Region.ready md ops d:=by rw[e];exact List.mem_cons_self
    have u:=pW d.toList i (by have:=(mem_ready.1 g).1;simpa using this)
    omega
  exact⟨e,j _ _ _ h e⟩
 |fuel+1,d,a,w,hc,h=>⟨fun e=>j _ _ _ h e,fun i g=>wpOp_mono (fun a' w' s=>zAd m j fuel _ a' w' (by
   have u:=pW d.toList i (by have:=(mem_ready.1 g).1;simpa using this)
   rw[Array.toList_setIfInBounds];omega) s) (m _ _ _ h i g)⟩
theorem tW {id:Nat} {a:Act} {w:World} (h:P.follows .mixedOrders=true)
  (e:I (Array.replicate ops.size false) a w.drew)
  (j:∀d a w,I d a w->∀i,i∈Region.ready .any ops d->wpOp P ops Q i (fun a' w'=>I (d.setIfInBounds i true) a' w') a w)
  (g:∀d a w,I d a w->Region.ready .any ops d=[]->Q .normal a w):(Code.region id ops true).wp P Q a w:=
 wp_region_any h (zAd j g _ _ _ _ (by rw[Array.toList_replicate,List.count_replicate];simp) e)
theorem yX {d:Array Bool} {i:Nat} {o:Oper} (m:Region.ready md ops d=[]) (j:ops[i]?=some o) (g:∀e∈o.after,Region.binds md e=true->d.getD e.on false=true):d.getD i true=true:=by
 cases h:d.getD i true with
 |true=>rfl
 |false=>
  have:i∈Region.ready md ops d:=mem_ready.2 ⟨h,o,j,g⟩
  rw[m] at this;cases this
theorem xN {d:Array Bool} {a:Act} {w:World} {i:Nat} {o:Oper} (j:ops[i]?=some o)
  (h:∀e:Act->World->Prop,Shut (∀ a w,I (d.setIfInBounds i true) a w->e a w)->if Region.wanted o (yielded ops a.tmps)=true then Oper.wp P o a w e Q else e (a.put o.dst undef) w):
  wpOp P ops Q i (fun a' w'=>I (d.setIfInBounds i true) a' w') a w:=wpOp_step j (fun e g=>h e g)
end
def vi (n:Int):Value:=.int .i64 n
def vb (b:Bool):Value:=.bool b
structure Stp where
 f:Int
 l:Int
 t:Int
 deriving DecidableEq
structure Nd where
 k:Int
 a:Int
 b:Int
 n:Int
 deriving DecidableEq
structure Au where
 st:Int
 le:Int
 fs:List Int
 gs:List Bool
 ss:List Stp
 deriving DecidableEq
structure La where
 h:List Int
 l:List Int
 deriving DecidableEq
def Stp.cells (s:Stp):List Value:=[.int .i64 s.f,.int .i64 s.l,.int .i64 s.t]
def Nd.cells (x:Nd):List Value:=[.int .i64 x.k,.int .i64 x.a,.int .i64 x.b,.int .i64 x.n]
theorem yJ {a b:Bool} (h:a=b):Ending.returned (.bool a)=Ending.returned (.bool b):=by rw[h]
theorem zJ {k:IntKind} {a b:Int} (h:a=b):Ending.returned (.int k a)=Ending.returned (.int k b):=by rw[h]
theorem zC {B:Nat} {a w:World} (h:Below B a w) (n:Nat):Below B a (w.drewN n):=⟨h.os,h.tape,h.output,h.size,h.block⟩
theorem zKO {W d:World} {B:Nat} (e:Below B W d):(∀ b o,b<B->d.cell? ⟨b,o,none⟩=W.cell? ⟨b,o,none⟩)/\(∀ b o,b<B->d.frozen? ⟨b,o,none⟩=W.frozen? ⟨b,o,none⟩):=
 ⟨fun b o h=>e.cell (p:=⟨b,o,none⟩) h,fun b o h=>e.frozen (p:=⟨b,o,none⟩) h⟩
theorem zA {B d:Nat} {a w w':World} (h:Below B a w) (k:Below d w w') (e:B<=d):Below B a w':=h.trans (k.mono e)
def Rd (w:World) (lo:Nat) (A:Option Addr) (xs:List Value):Prop:=
 xs≠[]->∃b off,A=some ⟨b,off,none⟩/\lo<=b/\b<w.heap.size/\∀j u,xs[j]?=some u->w.cell? ⟨b,off+j,none⟩=some u
def Fz (w:World) (lo:Nat) (A:Option Addr) (n:Nat):Prop:=
 0<lo->∀b off,A=some ⟨b,off,none⟩->∀j,j<n->w.frozen? ⟨b,off+j,none⟩=false
theorem Fz.zero {w:World} {A:Option Addr} {n:Nat}:Fz w 0 A n:=fun h=>absurd h (Nat.lt_irrefl _)
theorem Fz.no {w:World} {lo n:Nat}:Fz w lo none n:=fun _ _ _ h=>by cases h
theorem Fz.nil {w:World} {lo:Nat} {A:Option Addr}:Fz w lo A 0:=fun _ _ _ _ j h=>absurd h (Nat.not_lt_zero j)
theorem Fz.low {w:World} {lo lo':Nat} {A:Option Addr} {n:Nat} (h:Fz w lo A n) (e:lo'<=lo):Fz w lo' A n:=fun d=>h (Nat.lt_of_lt_of_le d e)
theorem Fz.less {w:World} {lo:Nat} {A:Option Addr} {n m:Nat} (h:Fz w lo A n) (i:m<=n):Fz w lo A m:=fun d b off e j g=>h d b off e j (Nat.lt_of_lt_of_le g i)
theorem eU (w:World) (p a:Addr) (u:Value):(w.setCell p u).frozen? a=w.frozen? a:=World.frozen?_setCell _ _ _ _
theorem Fz.on {w w':World} {lo:Nat} {A:Option Addr} {xs:List Value} (h:Fz w lo A xs.length) (N:Rd w lo A xs) (K:∀b off,A=some ⟨b,off,none⟩->lo<=b->b<w.heap.size->∀j,w'.frozen? ⟨b,off+j,none⟩=w.frozen? ⟨b,off+j,none⟩):Fz w' lo A xs.length:=by
 intro J b off g j i;obtain⟨O,u,d,m,s,_⟩:=N (fun e=>by rw[e] at i;exact absurd i (Nat.not_lt_zero j))
 rw[g] at d;injection d with d;injection d with e1 e2;subst e1;exact(K b off g m s j).trans (h J b off g j i)
structure SlE {α:Type} (enc:α->List Value) (bt:Nat) (w:World) (lo:Nat) (A:Option Addr) (c:Nat) (xs:List α):Prop where
 le:xs.length<=c
 cap:c<=9223372036854775807
 max:xs.length*bt<=140737488351232
 rd:Rd w lo A (xs.flatMap enc)
 fz:Fz w lo A (xs.flatMap enc).length
theorem qJ {α:Type} {enc:α->List Value} {sz:Nat} (d:∀x,(enc x).length=sz):∀(xs:List α) (k:Nat) (h:k<xs.length) (i:Nat) (u:Value),
  (enc xs[k])[i]?=some u->(xs.flatMap enc)[k*sz+i]?=some u:=by
 intro xs
 induction xs with
 |nil=>intro k h;simp at h
 |cons x xs ih=>
  intro k h i u g
  cases k with
  |zero=>
   simp only[List.getElem_cons_zero] at g;have m:i<(enc x).length:=(List.getElem?_eq_some_iff.1 g).1;rw[List.flatMap_cons,Nat.zero_mul,Nat.zero_add,List.getElem?_append_left m];exact g
  |succ k=>
   simp only[List.getElem_cons_succ] at g;have:=ih k (by simpa using h) i u g
   have j:(enc x).length<=(k+1)*sz+i:=by rw[d,Nat.succ_mul];omega
   rw[List.flatMap_cons,List.getElem?_append_right j,d];have e:(k+1)*sz+i-sz=k*sz+i:=by rw[Nat.succ_mul];omega
   rw[e];exact this
theorem Rd.below {w w':World} {lo:Nat} {A:Option Addr} {xs:List Value} {B:Nat} (h:Rd w lo A xs) (i:Below B w w') (s:w.heap.size<=B):Rd w' lo A xs:=by
 intro g;obtain⟨b,off,m,e,d,J⟩:=h g;exact⟨b,off,m,e,Nat.lt_of_lt_of_le d i.size,fun j u K=>(i.cell (p:=⟨b,off+j,none⟩) (Nat.lt_of_lt_of_le d s)).trans (J j u K)⟩
theorem Rd.low {w:World} {lo lo':Nat} {A:Option Addr} {xs:List Value} (h:Rd w lo A xs) (m:lo'<=lo):Rd w lo' A xs:=by
 intro g;obtain⟨b,off,i,d,e,j⟩:=h g;exact⟨b,off,i,Nat.le_trans m d,e,j⟩
theorem Rd.nil {w:World} {lo:Nat} {A:Option Addr}:Rd w lo A []:=fun h=>absurd rfl h
section
variable {α:Type} {enc:α->List Value} {bt:Nat} {w w':World} {lo:Nat} {A:Option Addr} {c:Nat} {xs:List α}
theorem SlE.below {B:Nat} (h:SlE enc bt w lo A c xs) (g:Below B w w') (e:w.heap.size<=B:=by exact nLe):SlE enc bt w' lo A c xs:=⟨h.le,h.cap,h.max,h.rd.below g e,h.fz.on h.rd fun b _ _ _ d _=>g.frozen (Nat.lt_of_lt_of_le d e)⟩
theorem SlE.low {lo':Nat} (h:SlE enc bt w lo A c xs) (d:lo'<=lo):SlE enc bt w lo' A c xs:=⟨h.le,h.cap,h.max,h.rd.low d,h.fz.low d⟩
theorem SlE.zero (h:SlE enc bt w lo A c xs):SlE enc bt w 0 A c xs:=h.low (Nat.zero_le _)
theorem SlE.at (U:∀x,(enc x).length=(enc x).length) {sz:Nat} (j:∀x,(enc x).length=sz) (O:0<sz) (h:SlE enc bt w lo A c xs) {k:Nat} (m:k<xs.length):
  ∃b off,A=some ⟨b,off,none⟩/\lo<=b/\b<w.heap.size/\∀i u,(enc xs[k])[i]?=some u->w.cell? ⟨b,off+(k*sz+i),none⟩=some u:=by
 have g:xs.flatMap enc≠[]:=by
  intro K;have N:0<(enc xs[k]).length:=by rw[j];exact O
  have:=qJ j xs k m 0 _ (List.getElem?_eq_getElem N);rw[K] at this
  simp at this
 obtain⟨b,off,s,d,e,J⟩:=h.rd g;exact⟨b,off,s,d,e,fun i u hu=>J _ u (qJ j xs k m i u hu)⟩
end
abbrev zE:=SlE (fun n:Int=>[Value.int .i64 n]) 8
abbrev xG:=SlE (fun b:Bool=>[Value.bool b]) 1
abbrev jZ:=SlE Stp.cells 24
abbrev Nds:=SlE Nd.cells 32
section
variable {w w':World} {lo:Nat} {A:Option Addr} {c:Nat}
theorem zE.at_ {xs:List Int} (h:zE w lo A c xs) {k:Nat} (j:k<xs.length):∃b off,A=some ⟨b,off,none⟩/\lo<=b/\b<w.heap.size/\w.cell? ⟨b,off+k,none⟩=some (.int .i64 xs[k]):=by
 obtain⟨b,off,g,d,e,i⟩:=SlE.at (fun _=>rfl) (sz:=1) (fun _=>rfl) (by decide) h j
 exact⟨b,off,g,d,e,by simpa using i 0 _ rfl⟩
theorem xG.at_ {xs:List Bool} (h:xG w lo A c xs) {k:Nat} (j:k<xs.length):∃b off,A=some ⟨b,off,none⟩/\lo<=b/\b<w.heap.size/\w.cell? ⟨b,off+k,none⟩=some (.bool xs[k]):=by
 obtain⟨b,off,g,d,e,i⟩:=SlE.at (fun _=>rfl) (sz:=1) (fun _=>rfl) (by decide) h j
 exact⟨b,off,g,d,e,by simpa using i 0 _ rfl⟩
theorem jZ.at_ {xs:List Stp} (h:jZ w lo A c xs) {k:Nat} (j:k<xs.length):∃b off,A=some ⟨b,off,none⟩/\lo<=b/\b<w.heap.size/\
  w.cell? ⟨b,off+k*3,none⟩=some (.int .i64 xs[k].f)/\w.cell? ⟨b,off+k*3+1,none⟩=some (.int .i64 xs[k].l)/\w.cell? ⟨b,off+k*3+2,none⟩=some (.int .i64 xs[k].t):=by
 obtain⟨b,off,i,e,g,d⟩:=SlE.at (fun _=>rfl) (sz:=3) (fun _=>rfl) (by decide) h j
 exact⟨b,off,i,e,g,by simpa[Nat.add_assoc] using d 0 _ rfl,by simpa[Nat.add_assoc] using d 1 _ rfl,by simpa[Nat.add_assoc] using d 2 _ rfl⟩
theorem Nds.at_ {xs:List Nd} (h:Nds w lo A c xs) {k:Nat} (j:k<xs.length):∃b off,A=some ⟨b,off,none⟩/\lo<=b/\b<w.heap.size/\
  w.cell? ⟨b,off+k*4,none⟩=some (.int .i64 xs[k].k)/\w.cell? ⟨b,off+k*4+1,none⟩=some (.int .i64 xs[k].a)/\w.cell? ⟨b,off+k*4+2,none⟩=some (.int .i64 xs[k].b)/\w.cell? ⟨b,off+k*4+3,none⟩=some (.int .i64 xs[k].n):=by
 obtain⟨b,off,i,e,g,d⟩:=SlE.at (fun _=>rfl) (sz:=4) (fun _=>rfl) (by decide) h j
 exact⟨b,off,i,e,g,by simpa[Nat.add_assoc] using d 0 _ rfl,by simpa[Nat.add_assoc] using d 1 _ rfl,by simpa[Nat.add_assoc] using d 2 _ rfl,by simpa[Nat.add_assoc] using d 3 _ rfl⟩
end
theorem qI (b o n:Nat):(⟨b,o,none⟩:Addr).add n=⟨b,o+n,none⟩:=by
 unfold Addr.add
 by_cases h:n=0
 ·simp[h]
 simp[h]
theorem zF {w:World} {base:Nat} {e:TypeId} {size n:Nat} {v:Value} {xs:List Value} (h:w.ownsRow base e size v n xs):
  ∃A c,v=.slice A n c/\n<=c/\c<=9223372036854775807/\Rd w base A xs/\(∀ b off,A=some ⟨b,off,none⟩->base<=b/\b<w.heap.size/\∀j,w.frozen? ⟨b,off+j,none⟩=false):=by
 obtain⟨s,J⟩:=h
 rcases J with⟨rfl,rfl⟩|⟨g,cap,cur,rfl,hg,hh,hn,hc,hs,ht⟩
 ·have N:xs=[]:=List.eq_nil_of_length_eq_zero (by simpa using s)
  subst N;exact⟨none,0,rfl,nLe,by omega,Rd.nil,fun b off h=>by simp at h⟩
 have d:g<w.heap.size:=by
  rcases Nat.lt_or_ge g w.heap.size with h|h
  ·exact h
  rw[Array.getElem?_eq_none h] at hh;cases hh
 refine⟨some ⟨g,0,none⟩,cap,rfl,hn,by simpa[maxLen] using hc,fun _=>⟨g,0,rfl,hg,d,fun j u i=>?_⟩,fun b off m=>?_⟩
 ·have K:j<n*size:=by
   have:=(List.getElem?_eq_some_iff.1 i).1;rw[s] at this;exact this
  rw[<-ht,List.getElem?_take_of_lt K] at i;simp only[World.cell?,Nat.zero_add,hh]
  simpa using i
 simp at m
 obtain⟨rfl,rfl⟩:=m;exact⟨hg,d,fun j=>by simp[World.frozen?,hh]⟩
section
variable {P:Program} (w:World)
theorem jC (base:Nat) (t ty e:TypeId) (i:TypeInfo) (z:Value) (size bytes:Nat) (ht:P.underlying t=some (.slice e)) (hi:P.info? e=some i) (hz:i.zero=some z)
  (N:i.size=size) (h0:i.bytes=bytes) (h2:z.cells.size=size) (O:0<size)
  (v:Value) (n:Nat) (xs:List Value) (J:w.ownsRow base e size v n xs)
  (A:Option Addr) (m c:Nat) (d:List Value) (hl:d.length=m*size) (hr:Rd w 0 A d) (h1:∀u∈d,u.oneCell'=true)
  (U:n+m<=maxLen) (s:(n+m)*bytes<=140737488355328) (K:base<=w.heap.size):
  ∃v' w',(Builtin.append_ #[t,t] ty #[v,.slice A m c]).run P w=.ok v' w'/\w'.ownsRow base e size v' (n+m) (xs++d)/\w.grownBy w' v.ownBlock/\
   (v'.ownBlock=v.ownBlock\/v'.ownBlock=some w.heap.size):=by
 by_cases hn:d=[]
 ·subst hn
  have hm:m=0:=by
   rcases Nat.eq_zero_or_pos m with h|h
   ·exact h
   have:=Nat.mul_pos h O;rw[<-hl] at this
   simp at this
  subst hm
  cases A with
  |none=>
   refine⟨v,w,?_,by simpa using J,World.grownBy.refl w _,.inl rfl⟩
   rcases J.2 with⟨rfl,rfl⟩|⟨g,cap,cur,rfl,_,_,hnc,_⟩
   ·simp[Builtin.append_,run_underlying ht,sizeOf,typeInfo,hi,Builtin.lenOf,Builtin.firstCells]
   simp[Builtin.append_,run_underlying ht,sizeOf,typeInfo,hi,Builtin.lenOf,Builtin.firstCells,hnc,storeCells]
  |some a=>
   obtain⟨v',w',r1,r2,r3,_,r5⟩:=run_append_own_at (P:=P) w base t ty e i z size bytes ht hi hz N h0 h2 O v n xs J a 0 c [] hl (by simp) h1 U s K
   exact⟨v',w',r1,r2,r3,r5⟩
 obtain⟨b,off,rfl,_,_,hc⟩:=hr hn
 obtain⟨v',w',r1,r2,r3,_,r5⟩:=run_append_own_at (P:=P) w base t ty e i z size bytes ht hi hz N h0 h2 O v n xs J ⟨b,off,none⟩ m c d hl
  (fun j u hu=>by rw[qI];exact hc j u hu) h1 U s K
 exact⟨v',w',r1,r2,r3,r5⟩
theorem zGW {o:Oper} {a:Act} {K:Act->World->Prop} {Q:Exit->Act->World->Prop} (s x:Operand) (t:TypeId)
  (ho:o.op=.call {callee:=.builtin .append,args:=#[s,x],argTypes:=#[t,t]})
  (base:Nat) (e:TypeId) (i:TypeInfo) (z:Value) (size bytes:Nat) (ht:P.underlying t=some (.slice e)) (hi:P.info? e=some i) (hz:i.zero=some z)
  (J:i.size=size) (h0:i.bytes=bytes) (h6:z.cells.size=size) (h5:0<size)
  (v:Value) (n:Nat) (xs:List Value) (hs:a.eval s=v) (N:w.ownsRow base e size v n xs)
  (A:Option Addr) (m c:Nat) (d:List Value) (hx:a.eval x=.slice A m c) (hl:d.length=m*size) (hr:Rd w 0 A d) (h1:∀u∈d,u.oneCell'=true)
  (U:n+m<=maxLen) (g:(n+m)*bytes<=140737488355328) (j:base<=w.heap.size)
  (h:∀v' w',w'.ownsRow base e size v' (n+m) (xs++d)->w.grownBy w' v.ownBlock->(v'.ownBlock=v.ownBlock\/v'.ownBlock=some w.heap.size)->K (a.put o.dst v') w'):o.wp P a w K Q:=by
 obtain⟨v',w',O,h2,h3,h4⟩:=jC (P:=P) w base t o.type e i z size bytes ht hi hz J h0 h6 h5 v n xs N A m c d hl hr h1 U g j;unfold Oper.wp execOp
 simp only[ho,resolve,invoke,builtin,Sem.run_bind,Sem.run_pure,Result.andThen_ok,List.map_toArray,List.map_cons,List.map_nil,hs,hx,O];exact h v' w' h2 h3 h4
theorem qE {ops:Array Oper} {j:List Oper} {o:Oper} {a:Act} {Q:Exit->Act->World->Prop} (h0:o.guard=none) (s x:Operand) (t:TypeId)
  (ho:o.op=.call {callee:=.builtin .append,args:=#[s,x],argTypes:=#[t,t]})
  (base:Nat) (e:TypeId) (i:TypeInfo) (z:Value) (size bytes:Nat) (ht:P.underlying t=some (.slice e)) (hi:P.info? e=some i) (hz:i.zero=some z)
  (K:i.size=size) (U:i.bytes=bytes) (h6:z.cells.size=size) (h5:0<size)
  (v:Value) (n:Nat) (xs:List Value) (hs:a.eval s=v) (N:w.ownsRow base e size v n xs)
  (A:Option Addr) (m c:Nat) (d:List Value) (hx:a.eval x=.slice A m c) (hl:d.length=m*size) (hr:Rd w 0 A d) (h1:∀u∈d,u.oneCell'=true)
  (O:n+m<=maxLen) (g:(n+m)*bytes<=140737488355328) (J:base<=w.heap.size)
  (h:∀v' w',w'.ownsRow base e size v' (n+m) (xs++d)->w.grownBy w' v.ownBlock->(v'.ownBlock=v.ownBlock\/v'.ownBlock=some w.heap.size)->wpList P ops Q j (a.put o.dst v') w'):wpList P ops Q (o::j) a w:=
 wpList_plain h0 fun _ hK=>zGW w s x t ho base e i z size bytes ht hi hz K U h6 h5 v n xs hs N A m c d hx hl hr h1 O g J fun v' w' h2 h3 h4=>hK _ _ (h v' w' h2 h3 h4)
theorem zB9 {ops:Array Oper} {o:Oper} {a:Act} {K:Act->World->Prop} {Q:Exit->Act->World->Prop} {E:Prop} (h0:o.guard=none) (s x:Operand) (t:TypeId)
  (ho:o.op=.call {callee:=.builtin .append,args:=#[s,x],argTypes:=#[t,t]})
  (base:Nat) (e:TypeId) (i:TypeInfo) (z:Value) (size bytes:Nat) (ht:P.underlying t=some (.slice e)) (hi:P.info? e=some i) (hz:i.zero=some z)
  (J:i.size=size) (U:i.bytes=bytes) (h3:z.cells.size=size) (h2:0<size)
  (v:Value) (n:Nat) (xs:List Value) (hs:a.eval s=v) (N:w.ownsRow base e size v n xs)
  (A:Option Addr) (m c:Nat) (d:List Value) (hx:a.eval x=.slice A m c) (hl:d.length=m*size) (hr:Rd w 0 A d) (h1:∀u∈d,u.oneCell'=true)
  (O:n+m<=maxLen) (g:(n+m)*bytes<=140737488355328) (j:base<=w.heap.size)
  (h:∀v' w',w'.ownsRow base e size v' (n+m) (xs++d)->w.grownBy w' v.ownBlock->(v'.ownBlock=v.ownBlock\/v'.ownBlock=some w.heap.size)->K (a.put o.dst v') w'):
  if Region.wanted o (yielded ops a.tmps)=true then Oper.wp P o a w K Q else E:=by
 have hw:Region.wanted o (yielded ops a.tmps)=true:=by simp[Region.wanted,h0]
 rw[if_pos hw];exact zGW w s x t ho base e i z size bytes ht hi hz J U h3 h2 v n xs hs N A m c d hx hl hr h1 O g j h
end
theorem zQ {P:Program} {w w':World} {ops:Array Oper} {d:List Oper} {o:Oper} {a:Act} {Q:Exit->Act->World->Prop} (g:o.guard=none) (s x:Operand) (t tn:TypeId)
  (j:o.op=.call {callee:=.builtin .append,args:=#[s,x],argTypes:=#[t,tn]}) (v u r:Value) (m:a.eval s=v) (J:a.eval x=u)
  (e:(Builtin.append_ #[t,tn] o.type #[v,u]).run P w=.ok r w') (h:wpList P ops Q d (a.put o.dst r) w'):wpList P ops Q (o::d) a w:=
 wpList_plain g fun K i=>by
  unfold Oper.wp execOp;simp only[j,resolve,invoke,builtin,Sem.run_bind,Sem.run_pure,Result.andThen_ok,List.map_toArray,List.map_cons,List.map_nil,m,J,e];exact i _ _ h
theorem qV {B base:Nat} {a w w':World} {e:TypeId} {size n:Nat} {v:Value} {xs:List Value} (h:Below B a w) (i:w.grownBy w' v.ownBlock) (d:w.ownsRow base e size v n xs) (g:B<=base) (m:B<=w.heap.size):Below B a w':=
 h.grown i m fun k j=>Nat.le_trans g (d.lt k j).1
theorem jK (xs:List Int):∀u∈xs.flatMap (fun n:Int=>[Value.int .i64 n]),u.oneCell'=true:=by
 intro u d;simp only[List.mem_flatMap,List.mem_singleton] at d;obtain⟨a,_,rfl⟩:=d;rfl
theorem tN (xs:List Bool):∀u∈xs.flatMap (fun b:Bool=>[Value.bool b]),u.oneCell'=true:=by
 intro u d;simp only[List.mem_flatMap,List.mem_singleton] at d;obtain⟨a,_,rfl⟩:=d;rfl
theorem zAF (xs:List Stp):∀u∈xs.flatMap Stp.cells,u.oneCell'=true:=by
 intro u d;simp only[List.mem_flatMap,Stp.cells,List.mem_cons,List.not_mem_nil,or_false] at d;obtain⟨a,_,rfl|rfl|rfl⟩:=d<;>rfl
theorem zN {α:Type} {enc:α->List Value} {sz:Nat} (d:∀x,(enc x).length=sz) (xs:List α):(xs.flatMap enc).length=xs.length*sz:=by
 induction xs with
 |nil=>simp
 |cons x xs ih=>rw[List.flatMap_cons,List.length_append,d,ih,List.length_cons,Nat.succ_mul];omega
theorem SlE.of_own {α:Type} {enc:α->List Value} {bt sz:Nat} {w:World} {base:Nat} {e:TypeId} {v:Value} {xs:List α} (h:w.ownsRow base e sz v xs.length (xs.flatMap enc)) (u:xs.length*bt<=140737488351232):
  ∃A c,v=.slice A xs.length c/\SlE enc bt w base A c xs:=by
 obtain⟨A,c,rfl,d,g,i,m⟩:=zF h;exact⟨A,c,rfl,d,g,u,i,fun _ b off s j _=>(m b off s).2.2 j⟩
theorem wP {w:World} {base:Nat} (e:TypeId) (size:Nat) (d:base<=w.heap.size):(w.alloc (.cells #[] e)).ownsRow base e size (.slice (some ⟨w,0,none⟩) 0 0) 0 []:=by
 refine⟨by simp,.inr ⟨w.heap.size,0,#[],rfl,d,?_,nLe,by simp[maxLen],by simp,by simp⟩⟩
 show(w.heap.push _)[w.heap.size]?=_
 simp
theorem zBO {w:World} {base d:Nat} {cs:Array Value} (e:TypeId) (size:Nat) (g:base<=w.heap.size) (h:d<=maxLen) (i:cs.size=d*size):
  (w.alloc (.cells cs e)).drew.ownsRow base e size (.slice (some ⟨w,0,none⟩) 0 d) 0 []:=by
 refine⟨by simp,.inr ⟨w.heap.size,d,cs,rfl,g,?_,Nat.zero_le _,h,i,by simp⟩⟩
 show(w.heap.push _)[w.heap.size]?=_
 simp
theorem rE {w:World} {base:Nat} {e:TypeId} {size n:Nat} {v:Value} {xs:List Value} (h:w.ownsRow base e size v n xs) {b:Nat} (g:b<base):some b≠v.ownBlock:=fun d=>by
 have:=(h.lt b d.symm).1;omega
theorem zGR {w:World} {base:Nat} {e:TypeId} {size n:Nat} {v:Value} {xs:List Value} (h:w.ownsRow base e size v n xs):w.drew.ownsRow base e size v n xs:=h
theorem zD {w w':World} {base:Nat} {e:TypeId} {size n:Nat} {v:Value} {xs:List Value} (h:w.ownsRow base e size v n xs) (m:Below w w w'):w'.ownsRow base e size v n xs:=by
 obtain⟨j,d⟩:=h;refine⟨j,?_⟩
 rcases d with d|⟨g,cap,cur,hv,hg,hh,r⟩
 ·exact .inl d
 refine .inr ⟨g,cap,cur,hv,hg,?_,r⟩
 have i:g<w.heap.size:=by
  rcases Nat.lt_or_ge g w.heap.size with h|h
  ·exact h
  rw[Array.getElem?_eq_none h] at hh;cases hh
 rw[m.block g i];exact hh
end
section
def btw (n a b:Int):Bool:=decide (a<=n)&&decide (n<=b)
theorem xH (n a b:Int):btw n a b=true↔(a<=n/\n<=b):=by simp[btw]
def nmA (k:Int):Bool:=btw k 3 8
def nmB (k:Int):Bool:=(k==4)||(k==5)||(k==7)||(k==8)
def nmN (k:Int):Bool:=k==2
def yI (k:Int):Bool:=btw k 6 8
def zCc (f:List Nd):Nat:=(f.filter fun x=>yI x.k).length
def xA (f:List Nd):Bool:=decide (12<(f.length:Int))||decide (4<(zCc f:Int))
def kK (x:Nd) (i:Int):Int:=
 if btw x.k 1 8=false then 7
 else if(nmA x.k&&!btw x.a 0 (i-1)||nmB x.k&&!btw x.b 0 (i-1))=true then 5
 else if(nmN x.k&&!btw x.n 0 2)=true then 3
 else if(!nmA x.k&&(x.a !=0)||(!nmB x.k&&(x.b !=0)||!nmN x.k&&(x.n !=0)))=true then 1
 else 0
def mQ:List Nd->Nat->Int
 |[],_=>0
 |x::r,i=>if kK x i=0 then mQ r (i+1) else kK x i
def ckF (f:List Nd):Int:=if f.length=0 then 1 else if xA f=true then 2 else mQ f 0
theorem fP {f:List Nd} {k:Nat} (d:k<f.length):mQ (f.drop k) k=if kK f[k] k=0 then mQ (f.drop (k+1)) (k+1) else kK f[k] k:=by
 rw[List.drop_eq_getElem_cons d];rfl
theorem lO {f:List Nd} {k:Nat} (d:f.length<=k):mQ (f.drop k) k=0:=by
 rw[List.drop_of_length_le d];rfl
theorem zE4 {f:List Nd} {k:Nat} (d:k<f.length):zCc (f.take (k+1))=zCc (f.take k)+if yI f[k].k=true then 1 else 0:=by
 unfold zCc;rw[List.take_succ_eq_append_getElem d,List.filter_append,List.length_append]
 by_cases h:yI f[k].k=true<;>simp[h]
theorem zHK (f:List Nd) (k:Nat):zCc (f.take k)<=k:=by
 unfold zCc;exact Nat.le_trans (List.length_filter_le _ _) (List.length_take_le _ _)
def nx (n h i:Nat):Nat:=if i+1=n then h else i+1
theorem aY {n h i:Nat} (e:i<n) (d:h<n):nx n h i<n:=by unfold nx;split<;>omega
def unt (n h:Nat) (a b:Nat->Bool):Nat->Nat->Bool
 |0,_=>false
 |k+1,p=>b p||a p&&unt n h a b k (nx n h p)
def rls (n h:Nat) (a b:Nat->Bool):Nat->Nat->Bool
 |0,_=>true
 |k+1,p=>b p&&(a p||rls n h a b k (nx n h p))
def La.n (l:La):Nat:=l.h.length+l.l.length
def La.at (l:La) (i:Nat):Int:=if i<l.h.length then l.h.getD i 0 else l.l.getD ((i-l.h.length)%l.l.length) 0
def nI (m:Int) (b:Nat):Bool:=m/(2:Int)^b%2==1
def gB (rows:List (List Bool)) (i p:Nat):Bool:=(rows.getD i []).getD p false
def tC (l:La) (rows:List (List Bool)) (x:Nd) (p:Nat):Bool:=
 if x.k=1 then true
 else if x.k=2 then nI (l.at p) x.n.toNat
 else if x.k=3 then !gB rows x.a.toNat p
 else if x.k=4 then gB rows x.a.toNat p&&gB rows x.b.toNat p
 else if x.k=5 then gB rows x.a.toNat p||gB rows x.b.toNat p
 else if x.k=6 then gB rows x.a.toNat (nx l.n l.h.length p)
 else if x.k=7 then unt l.n l.h.length (gB rows x.a.toNat) (gB rows x.b.toNat) l.n p
 else rls l.n l.h.length (gB rows x.a.toNat) (gB rows x.b.toNat) l.n p
def gX (l:La) (rows:List (List Bool)) (x:Nd):List Bool:=(List.range l.n).map (tC l rows x)
def yA (l:La) (f:List Nd):Nat->List (List Bool)
 |0=>[]
 |k+1=>yA l f k++[gX l (yA l f k) (f.getD k ⟨0,0,0,0⟩)]
def kU (l:La) (f:List Nd):List (List Bool):=yA l f f.length
theorem jA (l:La) (f:List Nd) (k:Nat):(yA l f k).length=k:=by
 induction k with
 |zero=>rfl
 |succ k ih=>simp[yA,ih]
theorem zBl (l:La) (d:List (List Bool)) (x:Nd):(gX l d x).length=l.n:=by simp[gX]
theorem bO (l:La) (f:List Nd) (k:Nat):∀r∈yA l f k,r.length=l.n:=by
 induction k with
 |zero=>simp[yA]
 |succ k ih=>
  intro r d;simp only[yA,List.mem_append,List.mem_singleton] at d
  rcases d with d|rfl
  ·exact ih r d
  exact zBl _ _ _
structure kO (n h:Nat) (D:Nat->Bool->Bool) (s:Bool) (out:List Bool):Prop where
 len:out.length=n
 keep:∀i,i<n->out.getD i s= !s->D i (out.getD (nx n h i) s)= !s
 inv:∀Inv:Nat->Bool->Prop,(∀ i,i<n->Inv i s)->(∀ i,i<n->∀b,Inv (nx n h i) b->Inv i (D i b))->∀i,i<n->Inv i (out.getD i s)
theorem kO.start (n h:Nat) (D:Nat->Bool->Bool) (s:Bool) (m:h<n):kO n h D s (List.replicate n s):=by
 have e:∀i,(List.replicate n s).getD i s=s:=fun i=>by
  rw[List.getD_eq_getElem?_getD,List.getElem?_replicate]
  split<;>rfl
 refine⟨by simp,fun i d g=>?_,fun Inv j _ i d=>by rw[e];exact j i d⟩
 rw[e] at g
 cases s<;>simp at g
theorem eB {out:List Bool} {i j:Nat} {v s:Bool} (d:i<out.length):(out.set i v).getD j s=if j=i then v else out.getD j s:=by
 rw[List.getD_eq_getElem?_getD,List.getElem?_set]
 by_cases h:i=j
 ·subst h;simp[d]
 rw[if_neg h,if_neg (fun e=>h e.symm),List.getD_eq_getElem?_getD]
theorem zFd {d o s:Bool} (g:o= !s->d= !s) (e:d≠o):d=(!s)/\o=s:=by
 revert g e
 cases d<;>cases o<;>cases s<;>decide
theorem kO.step {n h:Nat} {D:Nat->Bool->Bool} {s:Bool} {out:List Bool} (g:kO n h D s out) (hh:h<n) (hm:∀i,i<n->D i s= !s->D i (!s)= !s)
  {i:Nat} (U:i<n) (K:D i (out.getD (nx n h i) s)≠out.getD i s):kO n h D s (out.set i (D i (out.getD (nx n h i) s)))/\D i (out.getD (nx n h i) s)=(!s)/\out.getD i s=s:=by
 have e:i<out.length:=by rw[g.len];exact U
 obtain⟨N,ho⟩:=zFd (g.keep i U) K
 have up:∀j,j<n->D j (out.getD (nx n h j) s)=(!s)->D j ((out.set i (!s)).getD (nx n h j) s)=(!s):=by
  intro j d J;rw[eB e]
  split
  ·rename_i he
   rw[he,ho] at J;exact hm j d J
  exact J
 refine⟨⟨by rw[List.length_set];exact g.len,fun j d m=>?_,fun Inv O u j d=>?_⟩,N,ho⟩
 ·rw[N] at m ⊢
  apply up j d
  rw[eB e] at m
  split at m
  ·rename_i he;subst he;exact N
  exact g.keep j d m
 rw[eB e]
 split
 ·rename_i he;subst he
  exact u j d _ (g.inv Inv O u _ (aY d hh))
 exact g.inv Inv O u j d
def zBy (s:Bool) (out:List Bool):Nat:=out.count s
theorem zGs {s:Bool}:∀{out:List Bool} {i:Nat},i<out.length->out.getD i s=s->zBy s (out.set i (!s))+1=zBy s out:=by
 intro out
 induction out with
 |nil=>intro i d;simp at d
 |cons x r ih=>
  intro i d h
  cases i with
  |zero=>
   simp only[List.getD_cons_zero] at h;subst h;unfold zBy;rw[List.set_cons_zero,List.count_cons,List.count_cons]
   cases x<;>simp
  |succ i=>
   simp only[List.getD_cons_succ] at h;have:=ih (by simpa using d) h
   unfold zBy at this ⊢;rw[List.set_cons_succ,List.count_cons,List.count_cons];omega
def zBL (n h:Nat) (D:Nat->Bool->Bool) (s:Bool) (out:List Bool):Prop:=∀i,i<n->D i (out.getD (nx n h i) s)=out.getD i s
def itn (n h:Nat):Nat->Nat->Nat
 |0,p=>p
 |k+1,p=>itn n h k (nx n h p)
theorem mU (n h:Nat):∀(i j p:Nat),itn n h (i+j) p=itn n h j (itn n h i p):=by
 intro i
 induction i with
 |zero=>intro j p;simp[itn]
 |succ i ih=>intro j p;rw[Nat.succ_add];simp only[itn];exact ih j _
theorem uJ {n h:Nat}:∀(i p:Nat),p+i<n->itn n h i p=p+i:=by
 intro i
 induction i with
 |zero=>intro p _;rfl
 |succ i ih=>
  intro p d;have e:nx n h p=p+1:=by unfold nx;rw[if_neg (by omega)]
  simp only[itn,e];rw[ih (p+1) (by omega)]
  omega
theorem zBs {n h p:Nat} (e:p<n):itn n h (n-p) p=h:=by
 obtain⟨k,d⟩:∃k,n-p=k+1:=⟨n-p-1,by omega⟩
 rw[d,mU,uJ k p (by omega)]
 simp only[itn];unfold nx;rw[if_pos (by omega)]
theorem zFh {n h p:Nat} (j:h<n) (d:p<n):itn n h n p=itn n h h p:=by
 have i:itn n h n p=itn n h p h:=by
  have:n=(n-p)+p:=by omega
  rw[this,mU,<-this,zBs d]
 rw[i]
 rcases Nat.lt_or_ge (p+h) n with hl|hl
 ·rw[uJ _ _ (by omega),uJ _ _ (by omega)];omega
 have e:itn n h h p=itn n h (h+p-n) h:=by
  have:h=(n-p)+(h+p-n):=by omega
  conv=>lhs;rw[this]
  rw[mU];rw[<-this,zBs d]
 have g:itn n h p h=itn n h (h+p-n) h:=by
  have:p=(n-h)+(h+p-n):=by omega
  conv=>lhs;rw[this]
  rw[mU];rw[zBs j]
 rw[e,g]
theorem zIg {n h:Nat} {a b:Nat->Bool}:∀(k p:Nat),unt n h a b k p=true↔∃j,j<k/\b (itn n h j p)=true/\∀i,i<j->a (itn n h i p)=true:=by
 intro k
 induction k with
 |zero=>intro p;simp[unt]
 |succ k ih=>
  intro p;simp only[unt,Bool.or_eq_true,Bool.and_eq_true,ih]
  constructor
  ·rintro(d|⟨g,j,s,d,e⟩)
   ·exact⟨0,by omega,d,fun i e=>absurd e (by omega)⟩
   refine⟨j+1,by omega,d,fun i m=>?_⟩
   cases i with
   |zero=>exact g
   |succ i=>exact e i (by omega)
  rintro⟨j,s,d,e⟩
  cases j with
  |zero=>exact .inl d
  |succ j=>exact .inr ⟨e 0 (by omega),j,by omega,d,fun i u=>e (i+1) (by omega)⟩
theorem iB {n h:Nat} {a b:Nat->Bool} (K:h<n) {k p:Nat} (N:p<n) (s:unt n h a b k p=true):unt n h a b n p=true:=by
 rw[zIg] at s ⊢;obtain⟨j,_,g,d⟩:=s
 have m:∀j,b (itn n h j p)=true->(∀ i,i<j->a (itn n h i p)=true)->∃j,j<n/\b (itn n h j p)=true/\∀i,i<j->a (itn n h i p)=true:=by
  intro j
  induction j using Nat.strongRecOn with
  |_ j ih=>
   intro g d
   rcases Nat.lt_or_ge j n with hl|hl
   ·exact⟨j,hl,g,d⟩
   have e:itn n h j p=itn n h (j-n+h) p:=by
    have u:j=n+(j-n):=by omega
    have J:j-n+h=h+(j-n):=by omega
    rw[J,mU,<-zFh K N,<-mU,<-u]
   exact ih (j-n+h) (by omega) (by rw[<-e];exact g) (fun i O=>d i (by omega))
 exact m j g d
theorem zHI {n h:Nat} {a b:Nat->Bool}:∀(k p:Nat),rls n h a b k p= !unt n h (fun i=>!a i) (fun i=>!b i) k p:=by
 intro k
 induction k with
 |zero=>intro p;rfl
 |succ k ih=>intro p;simp only[rls,unt,ih];cases a p<;>cases b p<;>simp
theorem zFq {n h:Nat} {a b:Nat->Bool} {out:List Bool} (m:h<n) (O:kO n h (fun i u=>b i||a i&&u) false out) (N:zBL n h (fun i u=>b i||a i&&u) false out):
  ∀i,i<n->out.getD i false=unt n h a b n i:=by
 intro i g;rw[Bool.eq_iff_iff]
 constructor
 ·intro ho
  have:=O.inv (fun i v=>v=true->i<n->∃k,unt n h a b k i=true) (by simp) (fun j U v hv d _=>by
   simp only[Bool.or_eq_true,Bool.and_eq_true] at d
   rcases d with d|⟨d,h2⟩
   ·exact⟨1,by simp[unt,d]⟩
   obtain⟨k,e⟩:=hv h2 (aY U m);exact⟨k+1,by simp[unt,d,e]⟩) i g ho g
  obtain⟨k,e⟩:=this;exact iB m g e
 intro hu
 have s:∀k p,p<n->unt n h a b k p=true->out.getD p false=true:=by
  intro k
  induction k with
  |zero=>intro p _ K;simp[unt] at K
  |succ k ih=>
   intro p J e;rw[<-N p J];simp only[unt,Bool.or_eq_true,Bool.and_eq_true] at e
   rcases e with e|⟨d,h2⟩
   ·simp[e]
   simp only[d,ih _ (aY J m) h2,Bool.and_true,Bool.or_true]
 exact s n i g hu
theorem zBI {n h:Nat} {a b:Nat->Bool} {out:List Bool} (s:h<n) (O:kO n h (fun i nb=>b i&&(a i||nb)) true out) (N:zBL n h (fun i nb=>b i&&(a i||nb)) true out):
  ∀i,i<n->out.getD i true=rls n h a b n i:=by
 intro i m;have e:∀(x y:Bool),(x=false↔y=false)->x=y:=by decide
 apply e
 constructor
 ·intro ho
  have:=O.inv (fun i v=>v=false->i<n->∃k,rls n h a b k i=false) (by simp) (fun j U v hv g _=>by
   simp only[Bool.and_eq_false_iff,Bool.or_eq_false_iff] at g
   rcases g with g|⟨g,h2⟩
   ·exact⟨1,by simp[rls,g]⟩
   obtain⟨k,d⟩:=hv h2 (aY U s);exact⟨k+1,by simp[rls,g,d]⟩) i m ho m
  obtain⟨k,d⟩:=this;rw[zHI] at d ⊢;simp only[Bool.not_eq_false'] at d ⊢;exact iB s m d
 intro hu
 have u:∀k p,p<n->rls n h a b k p=false->out.getD p true=false:=by
  intro k
  induction k with
  |zero=>intro p _ K;simp[rls] at K
  |succ k ih=>
   intro p J d;rw[<-N p J];simp only[rls,Bool.and_eq_false_iff,Bool.or_eq_false_iff] at d
   rcases d with d|⟨g,h2⟩
   ·simp[d]
   simp only[g,ih _ (aY J s) h2,Bool.or_false,Bool.and_false]
 exact u n i m hu
theorem fI {n h:Nat} {V:Nat->Bool} {s:Bool} {out:List Bool} (d:zBL n h (fun i _=>V i) s out):∀i,i<n->out.getD i s=V i:=fun i e=>(d i e).symm
theorem mK {n:Nat} {s:Bool} {out:List Bool} {V:Nat->Bool} (e:out.length=n) (h:∀i,i<n->out.getD i s=V i):out=(List.range n).map V:=by
 apply List.ext_getElem
 ·simp[e]
 intro i d g;have:=h i (by omega)
 rw[List.getD_eq_getElem?_getD,List.getElem?_eq_getElem d] at this
 simpa using this
def plc (n h k:Nat):Nat:=if k<n then k else h+(k-h)%(n-h)
theorem zBY {n h k:Nat} (d:h<n) (g:n<=k):plc n h k=plc n h (k-(n-h)):=by
 unfold plc;rw[if_neg (by omega)]
 have e:k-h=(k-(n-h)-h)+(n-h):=by omega
 split
 ·rename_i h1
  rw[e,Nat.add_mod_right,Nat.mod_eq_of_lt (by omega)]
  omega
 rw[e,Nat.add_mod_right]
theorem eK {n h k:Nat} (d:h<n):plc n h k<n:=by
 unfold plc
 split
 ·assumption
 have:=Nat.mod_lt (k-h) (show 0<n-h by omega)
 omega
theorem dV {n h k:Nat} (i:h<n):nx n h (plc n h k)=plc n h (k+1):=by
 unfold plc nx
 by_cases h1:k<n
 ·rw[if_pos h1]
  by_cases h2:k+1=n
  ·rw[if_pos h2,if_neg (by omega)]
   have:k+1-h=n-h:=by omega
   rw[this,Nat.mod_self];omega
  rw[if_neg h2,if_pos (by omega)]
 have d:¬k+1<n:=by omega
 simp only[if_neg h1,if_neg d];have j:=Nat.mod_lt (k-h) (show 0<n-h by omega)
 have e:k+1-h=(k-h)+1:=by omega
 rw[e,Nat.add_mod];generalize (k-h)%(n-h)=r at *
 by_cases h2:h+r+1=n
 ·rw[if_pos h2]
  have g:r=n-h-1:=by omega
  rcases Nat.lt_or_ge (n-h) 2 with h3|h3
  ·have:n-h=1:=by omega
   rw[this]
   simp[Nat.mod_one]
  rw[g,Nat.mod_eq_of_lt (show 1<n-h by omega),show n-h-1+1=n-h by omega,Nat.mod_self]
  omega
 rw[if_neg h2]
 rcases Nat.lt_or_ge (n-h) 2 with h3|h3
 ·omega
 rw[Nat.mod_eq_of_lt (show 1<n-h by omega),Nat.mod_eq_of_lt (by omega)]
 omega
theorem zH7 {n h:Nat} {a b:Nat->Bool} (d:h<n) (m k:Nat):unt n h a b (m+1) (plc n h k)=(b (plc n h k)||a (plc n h k)&&unt n h a b m (plc n h (k+1))):=by
 simp only[unt,dV d]
theorem zIb {n h:Nat} {a b:Nat->Bool} (d:h<n) (m k:Nat):rls n h a b (m+1) (plc n h k)=(b (plc n h k)&&(a (plc n h k)||rls n h a b m (plc n h (k+1)))):=by
 simp only[rls,dV d]
theorem mF {n h p:Nat} (d:p<n):plc n h p=p:=by unfold plc;rw[if_pos d]
def Au.good (a:Au) (q:Int):Prop:=0<=q/\a.gs.getD q.toNat false=true
def xJ (a:Au) (u:Nat->Int):Prop:=∃r:Nat->Int,r 0∈a.fs/\(∀ i,(⟨r i,u i,r (i+1)⟩:Stp)∈a.ss)/\∀n,∃m,n<=m/\a.good (r m)
noncomputable def pV (a:Au) (u:Nat->Int):Bool:=@decide (xJ a u) (Classical.propDecidable _)
theorem wQ {a:Au} {u:Nat->Int}:pV a u=true↔xJ a u:=by
 unfold pV;exact @decide_eq_true_iff _ (Classical.propDecidable _)
inductive Way (a:Au) (u:Nat->Int):Bool->Nat->Int->Nat->Int->Prop
 |refl (i:Nat) (q:Int):Way a u false i q i q
 |go {g:Bool} {i j:Nat} {q p p':Int}:Way a u g i q j p->(⟨p,u j,p'⟩:Stp)∈a.ss->Way a u g i q (j+1) p'
 |hit {g:Bool} {i j:Nat} {q p p':Int}:Way a u g i q j p->(⟨p,u j,p'⟩:Stp)∈a.ss->a.good p'->Way a u true i q (j+1) p'
theorem Way.le {a:Au} {u:Nat->Int} {g:Bool} {i j:Nat} {q p:Int} (h:Way a u g i q j p):i<=j:=by
 induction h with
 |refl=>exact nLe
 |go _ _ ih=>omega
 |hit _ _ _ ih=>omega
theorem Way.lt {a:Au} {u:Nat->Int} {g:Bool} {i j:Nat} {q p:Int} (h:Way a u g i q j p) (d:g=true):i<j:=by
 cases h with
 |refl=>cases d
 |go h _=>have:=h.le;omega
 |hit h _ _=>have:=h.le;omega
theorem Way.trans {a:Au} {u:Nat->Int} {g g':Bool} {i j k:Nat} {q p s:Int} (h:Way a u g i q j p) (d:Way a u g' j p k s):Way a u (g||g') i q k s:=by
 induction d with
 |refl=>rw[Bool.or_false];exact h
 |go _ hs ih=>exact .go (ih h) hs
 |hit _ hs hg ih=>rw[Bool.or_true];exact .hit (ih h) hs hg
theorem Way.run {a:Au} {u:Nat->Int} {g:Bool} {i j:Nat} {q p:Int} (h:Way a u g i q j p):∃r:Nat->Int,r i=q/\r j=p/\(∀ k,i<=k->k<j->(⟨r k,u k,r (k+1)⟩:Stp)∈a.ss)/\(g=true->∃k,i<k/\k<=j/\a.good (r k)):=by
 induction h with
 |refl i q=>exact⟨fun _=>q,rfl,rfl,fun k s m=>absurd m (by omega),fun h=>by cases h⟩
 |@go g i j q p p' h hs ih=>
  obtain⟨r,s,m,J,O⟩:=ih;have e:=h.le;refine⟨fun k=>if k<=j then r k else p',by simp[e,s],by simp[show ¬j+1<=j by omega],fun k d N=>?_,fun K=>?_⟩
  ·rcases Nat.lt_or_ge k j with hk|hk
   ·simp only[show k<=j by omega,show k+1<=j by omega,if_true]
    exact J k d hk
   obtain rfl:k=j:=by omega
   simp only[Nat.le_refl,if_true,show ¬k+1<=k by omega,if_false,m]
   exact hs
  obtain⟨k,U,k2,k3⟩:=O K;exact⟨k,U,by omega,by simp only[k2,if_true];exact k3⟩
 |@hit g i j q p p' h hs K ih=>
  obtain⟨r,s,m,J,O⟩:=ih;have e:=h.le;refine⟨fun k=>if k<=j then r k else p',by simp[e,s],by simp[show ¬j+1<=j by omega],fun k d N=>?_,fun _=>?_⟩
  ·rcases Nat.lt_or_ge k j with hk|hk
   ·simp only[show k<=j by omega,show k+1<=j by omega,if_true]
    exact J k d hk
   obtain rfl:k=j:=by omega
   simp only[Nat.le_refl,if_true,show ¬k+1<=k by omega,if_false,m]
   exact hs
  exact⟨j+1,by omega,nLe,by simpa[show ¬j+1<=j by omega] using K⟩
theorem gK {a:Au} {u:Nat->Int} {f q:Int} {k c:Nat} (hf:f∈a.fs) (h0:Way a u false 0 f k q) (h1:Way a u true k q (k+c) q) (hu:∀i,k<=i->u (i+c)=u i):xJ a u:=by
 obtain⟨j,K,N,O,_⟩:=h0.run;obtain⟨m,b1,U,b3,b4⟩:=h1.run;obtain⟨d,g1,g2,g3⟩:=b4 rfl;have hc:0<c:=by have:=h1.lt rfl;omega
 have J:∀n i,k<=i->u (i+c*n)=u i:=by
  intro n
  induction n with
  |zero=>intro i _;rfl
  |succ n ih=>intro i hi;rw[Nat.mul_succ,<-Nat.add_assoc,hu _ (by omega),ih i hi]
 refine⟨fun t=>if t<k then j t else m (k+(t-k)%c),?_,fun t=>?_,fun n=>?_⟩
 ·show(if 0<k then j 0 else m (k+(0-k)%c))∈a.fs
  by_cases hk:0<k
  ·rw[if_pos hk,K];exact hf
  obtain rfl:k=0:=by omega
  simp only[Nat.lt_irrefl,if_false,Nat.sub_zero,Nat.zero_mod,Nat.add_zero];rw[b1,<-N,K];exact hf
 ·show(⟨if t<k then j t else m (k+(t-k)%c),u t,if t+1<k then j (t+1) else m (k+(t+1-k)%c)⟩:Stp)∈a.ss
  by_cases ht:t<k
  ·rw[if_pos ht]
   by_cases ht1:t+1<k
   ·rw[if_pos ht1];exact O t (Nat.zero_le _) ht
   rw[if_neg ht1];have e:t+1=k:=by omega
   have:=O t (Nat.zero_le _) ht;rw[e,N] at this;rw[show t+1-k=0 by omega,Nat.zero_mod,Nat.add_zero,b1]
   exact this
  rw[if_neg ht,if_neg (by omega)]
  have hm:=Nat.mod_lt (t-k) hc;have hdm:=Nat.mod_add_div (t-k) c
  have s:u t=u (k+(t-k)%c):=by
   rw[<-J ((t-k)/c) (k+(t-k)%c) (by omega)]
   congr 1
   omega
  have g:=b3 (k+(t-k)%c) (by omega) (by omega)
  rw[s]
  have e:(t+1-k)%c=if(t-k)%c+1=c then 0 else(t-k)%c+1:=by
   have e1:t+1-k=(t-k)%c+1+c*((t-k)/c):=by omega
   rw[e1,Nat.add_mul_mod_self_left]
   split
   ·rename_i h;rw[h,Nat.mod_self]
   exact Nat.mod_eq_of_lt (by omega)
  rw[e]
  split
  ·rename_i h
   have e2:k+(t-k)%c+1=k+c:=by omega
   rw[e2,U] at g;rw[Nat.add_zero,b1];exact g
  exact g
 refine⟨d+c*(n+1),?_,?_⟩
 ·have:=Nat.le_mul_of_pos_left (n+1) hc;omega
 show a.good (if d+c*(n+1)<k then j (d+c*(n+1)) else m (k+(d+c*(n+1)-k)%c))
 rw[if_neg (by omega)]
 have e:d+c*(n+1)-k=(d-k)+c*(n+1):=by omega
 rw[e,Nat.add_mul_mod_self_left]
 by_cases hg:d=k+c
 ·have:d-k=c:=by omega
  rw[this,Nat.mod_self,Nat.add_zero,b1,<-U,<-hg];exact g3
 rw[Nat.mod_eq_of_lt (by omega),show k+(d-k)=d by omega]
 exact g3
structure vG (a:Au):Prop where
 st1:1<=a.st
 st2:a.st<=300
 le1:1<=a.le
 le2:a.le<=8
 gl:(a.gs.length:Int)=a.st
 sl:a.ss.length<=6000
 fr:∀f∈a.fs,0<=f/\f<a.st
 fo:a.fs.Pairwise (·<·)
 sr:∀s∈a.ss,(0<=s.f/\s.f<a.st)/\(0<=s.t/\s.t<a.st)/\0<=s.l/\s.l<a.le
theorem zDS:∀(N:Nat) (f:Nat->Nat),(∀ i,i<=N->f i<N)->∃i j,i<j/\j<=N/\f i=f j
 |0,f,h=>absurd (h 0 nLe) (by omega)
 |M+1,f,h=>by
  by_cases m:∃i,i<=M/\f i=f (M+1)
  ·obtain⟨i,s,m⟩:=m
   exact⟨i,M+1,by omega,nLe,m⟩
  have d:∀i,i<=M->f i≠f (M+1):=fun i s e=>m ⟨i,s,e⟩
  obtain⟨i,j,u,O,g⟩:=zDS M (fun i=>if f i=M then f (M+1) else f i) (fun i s=>by
   have:=h i (by omega)
   have:=h (M+1) (by omega)
   have:=d i s;show(if f i=M then f (M+1) else f i)<M
   split<;>omega)
  refine⟨i,j,u,by omega,?_⟩
  have J:=d i (by omega)
  have K:=d j (by omega)
  have g:(if f i=M then f (M+1) else f i)=(if f j=M then f (M+1) else f j):=g
  split at g<;>split at g<;>omega
theorem zKH {P:Nat->Nat->Prop} (h:∀n,∃m,n<m/\P n m) (b:Nat):∃g:Nat->Nat,g 0=b/\∀k,g k<g (k+1)/\P (g k) (g (k+1)):=by
 refine⟨fun k=>Nat.rec b (fun _ x=>Classical.choose (h x)) k,rfl,fun k=>?_⟩
 exact Classical.choose_spec (h _)
theorem zBF {g:Nat->Nat} (h:∀k,g k<g (k+1)) {i j:Nat} (e:i<j):g i<g j:=by
 obtain⟨d,rfl⟩:∃d,j=i+1+d:=⟨j-i-1,by omega⟩
 clear e
 induction d with
 |zero=>exact h i
 |succ d ih=>exact Nat.lt_trans ih (h _)
def La.row (l:La):List Int:=l.h++l.l
theorem La.row_len (l:La):l.row.length=l.n:=by simp[La.row,La.n]
theorem zB1 {xs ys:List Int} {k:Nat}:(xs++ys).getD k 0=if k<xs.length then xs.getD k 0 else ys.getD (k-xs.length) 0:=by
 simp only[List.getD_eq_getElem?_getD]
 split
 ·rename_i h;rw[List.getElem?_append_left h]
 rename_i h;rw[List.getElem?_append_right (by omega)]
theorem La.row_plc {l:La} (d:0<l.l.length) (k:Nat):l.row.getD (plc l.n l.h.length k) 0=l.at k:=by
 unfold La.row La.at plc La.n;rw[zB1];have e:l.h.length+l.l.length-l.h.length=l.l.length:=by omega
 by_cases h1:k<l.h.length
 ·rw[if_pos (show k<l.h.length+l.l.length by omega),if_pos h1,if_pos h1]
 rw[if_neg h1]
 split
 ·rw[Nat.mod_eq_of_lt (by omega)]
 rw[e,if_neg (by omega),show l.h.length+(k-l.h.length)%l.l.length-l.h.length=(k-l.h.length)%l.l.length by omega]
theorem La.at_add {l:La} {k m:Nat} (d:l.h.length<=k):l.at (k+l.l.length*m)=l.at k:=by
 unfold La.at;rw[if_neg (by omega),if_neg (by omega),show k+l.l.length*m-l.h.length=k-l.h.length+l.l.length*m by omega,Nat.add_mul_mod_self_left]
inductive vT {α:Type} (E:α->α->Prop):α->α->Prop
 |one {x y:α}:E x y->vT E x y
 |on {x y z:α}:vT E x y->E y z->vT E x z
def SE (a:Au) (l:La) (x y:Int×Nat):Prop:=(⟨x.1,l.row.getD x.2 0,y.1⟩:Stp)∈a.ss/\y.2=nx l.n l.h.length x.2
def zFE (a:Au) (l:La):Prop:=∃f∈a.fs,∃x:Int×Nat,((f,0)=x\/vT (SE a l) (f,0) x)/\l.h.length<=x.2/\a.good x.1/\vT (SE a l) x x
theorem vT.way {a:Au} {l:La} (i:0<l.l.length) {x y:Int×Nat} (h:vT (SE a l) x y):∀k,plc l.n l.h.length k=x.2->∃j,k<j/\plc l.n l.h.length j=y.2/\Way a l.at false k x.1 j y.1:=by
 have g:l.h.length<l.n:=by unfold La.n;omega
 induction h with
 |@one y h=>
  intro k d;refine⟨k+1,by omega,by rw[<-dV g,d];exact h.2.symm,.go (.refl _ _) ?_⟩
  rw[<-La.row_plc i,d];exact h.1
 |@on y z _ h ih=>
  intro k d;obtain⟨j,s,e,m⟩:=ih k d;refine⟨j+1,by omega,by rw[<-dV g,e];exact h.2.symm,.go m ?_⟩
  rw[<-La.row_plc i,e];exact h.1
theorem vT.of_run {a:Au} {l:La} (j:0<l.l.length) {r:Nat->Int} (m:∀i,(⟨r i,l.at i,r (i+1)⟩:Stp)∈a.ss) (k d:Nat):vT (SE a l) (r k,plc l.n l.h.length k) (r (k+d+1),plc l.n l.h.length (k+d+1)):=by
 have g:l.h.length<l.n:=by unfold La.n;omega
 have e:∀i,SE a l (r i,plc l.n l.h.length i) (r (i+1),plc l.n l.h.length (i+1)):=fun i=>⟨by
  show(⟨r i,l.row.getD (plc l.n l.h.length i) 0,r (i+1)⟩:Stp)∈a.ss;rw[La.row_plc j];exact m i,(dV g).symm⟩
 induction d with
 |zero=>exact .one (e k)
 |succ d ih=>exact .on ih (e _)
theorem Way.hit_end {a:Au} {u:Nat->Int} {i j:Nat} {q p:Int} (h:Way a u false i q j p) (e:i<j) (d:a.good p):Way a u true i q j p:=by
 cases h with
 |refl=>omega
 |go h hs=>exact .hit h hs d
theorem zHe {n h k j:Nat} (O:h<n) (g:h<=plc n h k) (u:plc n h k=plc n h j) (K:k<j):∃m,j=k+(n-h)*m/\h<=k:=by
 have d:h<=k:=by
  rcases Nat.lt_or_ge k n with h1|h1
  ·unfold plc at g;rw[if_pos h1] at g;exact g
  omega
 have e:h<=j:=by omega
 have f:∀i,h<=i->(plc n h i)=h+(i-h)%(n-h):=by
  intro i U;unfold plc
  split
  ·rw[Nat.mod_eq_of_lt (by omega)];omega
  rfl
 rw[f k d,f j e] at u;have J:(k-h)%(n-h)=(j-h)%(n-h):=by omega
 have h1:=Nat.mod_add_div (k-h) (n-h);have N:=Nat.mod_add_div (j-h) (n-h);have s:(k-h)/(n-h)<=(j-h)/(n-h):=Nat.div_le_div_right (by omega)
 refine⟨(j-h)/(n-h)-(k-h)/(n-h),?_,d⟩;rw[Nat.mul_sub];have:=Nat.mul_le_mul_left (n-h) s;omega
theorem zD2 {a:Au} {l:La} (ho:vG a) (O:0<l.l.length):xJ a l.at↔zFE a l:=by
 have N:l.h.length<l.n:=by unfold La.n;omega
 have hL:l.n-l.h.length=l.l.length:=by unfold La.n;omega
 constructor
 ·rintro⟨r,h0,hs,hg⟩
  have hr:∀i,0<=r i/\r i<a.st:=fun i=>(ho.sr _ (hs i)).1
  obtain⟨g,g0,e⟩:=zKH (P:=fun _ m=>a.good (r m)) (fun n=>by obtain⟨m,h1,s⟩:=hg (n+1);exact⟨m,h1,s⟩) l.h.length
  obtain⟨i,j,hij,_,K⟩:=zDS (l.n*a.st.toNat) (fun k=>plc l.n l.h.length (g (k+1))+l.n*(r (g (k+1))).toNat) (fun k _=>by
   have h1:=eK (k:=g (k+1)) N;have s:=hr (g (k+1));have J:(r (g (k+1))).toNat+1<=a.st.toNat:=by omega
   have h4:=Nat.mul_le_mul_left l.n J;rw[Nat.mul_succ] at h4;omega)
  have K:plc l.n l.h.length (g (i+1))+l.n*(r (g (i+1))).toNat=plc l.n l.h.length (g (j+1))+l.n*(r (g (j+1))).toNat:=K
  have e1:plc l.n l.h.length (g (i+1))=plc l.n l.h.length (g (j+1)):=by
   have:=congrArg (·%l.n) K
   simp only[Nat.add_mul_mod_self_left] at this
   rwa[Nat.mod_eq_of_lt (eK N),Nat.mod_eq_of_lt (eK N)] at this
  have e2:r (g (i+1))=r (g (j+1)):=by
   rw[e1] at K;have s:=hr (g (i+1));have J:=hr (g (j+1));have:(r (g (i+1))).toNat=(r (g (j+1))).toNat:=Nat.eq_of_mul_eq_mul_left (show 0<l.n by omega) (by omega)
   omega
  have hlt:=zBF (fun k=>(e k).1) (show i+1<j+1 by omega)
  have hge:l.h.length<g (i+1):=by rw[<-g0];exact zBF (fun k=>(e k).1) (Nat.succ_pos i)
  refine⟨r 0,h0,(r (g (i+1)),plc l.n l.h.length (g (i+1))),.inr ?_,?_,(e i).2,?_⟩
  ·obtain⟨d,U⟩:∃d,g (i+1)=0+d+1:=⟨g (i+1)-1,by omega⟩
   have:=vT.of_run O hs 0 d;rw[<-U] at this
   rwa[show plc l.n l.h.length 0=0 from mF (by omega)] at this
  ·show l.h.length<=plc l.n l.h.length (g (i+1))
   unfold plc
   split<;>omega
  obtain⟨d,U⟩:∃d,g (j+1)=g (i+1)+d+1:=⟨g (j+1)-g (i+1)-1,by omega⟩
  have:=vT.of_run O hs (g (i+1)) d;rw[<-U,<-e1,<-e2] at this;exact this
 rintro⟨f,hf,x,hx,hb,hg,hc⟩
 obtain⟨k,hk,hw⟩:∃k,plc l.n l.h.length k=x.2/\Way a l.at false 0 f k x.1:=by
  rcases hx with rfl|hx
  ·exact⟨0,mF (by omega),.refl _ _⟩
  obtain⟨j,_,s,J⟩:=hx.way O 0 (mF (by omega))
  exact⟨j,s,J⟩
 obtain⟨j,u,hj,hw2⟩:=hc.way O k hk;obtain⟨m,rfl,hhk⟩:=zHe N (by rw[hk];exact hb) (hk.trans hj.symm) u
 rw[hL] at *;exact gK hf hw (hw2.hit_end u hg) (fun i hi=>La.at_add (by omega))
def qF (s t:Stp):Bool:=if s.f=t.f then(if s.l=t.l then decide (s.t<t.t) else decide (s.l<t.l)) else decide (s.f<t.f)
def nJ (st:Int) (fs:List Int):Bool:=fs.any fun n=>!btw n 0 (st-1)
def fT (fs:List Int) (i:Nat):Bool:=decide (fs.getD i 0<=fs.getD (i-1) 0)
def gP (fs:List Int):Nat->Nat->Bool
 |0,_=>false
 |m+1,i=>fT fs i||gP fs m (i+1)
def gJ (a:Au) (s:Stp):Bool:=!btw s.f 0 (a.st-1)||!btw s.t 0 (a.st-1)||!btw s.l 0 (a.le-1)
def dQ:Stp:=⟨0,0,0⟩
def qB (a:Au) (i:Nat):Int:=
 if gJ a (a.ss.getD i dQ)=true then 5
 else if(decide (0<i)&&!qF (a.ss.getD (i-1) dQ) (a.ss.getD i dQ))=true then 4
 else 0
def ckS (a:Au):Nat->Nat->Int
 |0,_=>0
 |m+1,i=>if qB a i=0 then ckS a m (i+1) else qB a i
def ckA (a:Au):Int:=
 if(!btw a.st 1 300||!btw a.le 1 8)=true then 3
 else if(a.gs.length:Int)≠a.st then 1
 else if 6000<(a.ss.length:Int) then 2
 else if nJ a.st a.fs=true then 5
 else if gP a.fs (a.fs.length-1) 1=true then 4
 else ckS a a.ss.length 0
theorem nW {a:Au}:∀(m i:Nat),ckS a m i=0↔∀k,i<=k->k<i+m->qB a k=0
 |0,i=>⟨fun _ k e g=>absurd g (by omega),fun _=>rfl⟩
 |m+1,i=>by
  unfold ckS
  by_cases h:qB a i=0
  ·rw[if_pos h,nW m (i+1)]
   constructor
   ·intro d k e g
    rcases Nat.eq_or_lt_of_le e with rfl|h3
    ·exact h
    exact d k h3 (by omega)
   intro d k e g;exact d k (by omega) (by omega)
  rw[if_neg h];exact⟨fun j=>absurd j h,fun d=>absurd (d i nLe (by omega)) h⟩
theorem eP {a:Au}:∀(m i k:Nat),i<=k->k<i+m->(∀ j,i<=j->j<k->qB a j=0)->qB a k≠0->ckS a m i=qB a k
 |0,i,k,h1,h2,_,_=>absurd h2 (by omega)
 |m+1,i,k,h1,h2,h3,h4=>by
  unfold ckS
  rcases Nat.eq_or_lt_of_le h1 with rfl|h5
  ·rw[if_neg h4]
  rw[if_pos (h3 i nLe h5)];exact eP m (i+1) k h5 (by omega) (fun j e d=>h3 j (by omega) d) h4
theorem kS {fs:List Int}:∀(m i:Nat),gP fs m i=false↔∀k,i<=k->k<i+m->fT fs k=false
 |0,i=>⟨fun _ k e g=>absurd g (by omega),fun _=>rfl⟩
 |m+1,i=>by
  unfold gP;rw[Bool.or_eq_false_iff,kS m (i+1)]
  constructor
  ·rintro⟨h,d⟩ k e g
   rcases Nat.eq_or_lt_of_le e with rfl|h3
   ·exact h
   exact d k h3 (by omega)
  intro d;exact⟨d i nLe (by omega),fun k e g=>d k (by omega) (by omega)⟩
theorem oX {fs:List Int} {m i k:Nat} (e:i<=k) (g:k<i+m) (d:fT fs k=true):gP fs m i=true:=by
 cases h:gP fs m i with
 |true=>rfl
 |false=>rw[(kS m i).1 h k e g] at d;cases d
theorem jX {s t:Stp}:qF s t=true↔s.f<t.f\/s.f=t.f/\(s.l<t.l\/s.l=t.l/\s.t<t.t):=by
 unfold qF
 split
 ·rename_i h
  split
  ·rename_i h2;simp[h,h2]
  rename_i h2
  simp only[decide_eq_true_eq]
  constructor
  ·intro d;exact .inr ⟨h,.inl d⟩
  rintro(d|⟨_,d|⟨d,_⟩⟩)
  ·omega
  ·exact d
  exact absurd d h2
 rename_i h
 simp only[decide_eq_true_eq]
 constructor
 ·exact .inl
 rintro(d|⟨d,_⟩)
 ·exact d
 exact absurd d h
theorem aH {s t u:Stp} (h:qF s t=true) (d:qF t u=true):qF s u=true:=by
 rw[jX] at *;omega
theorem zA6 (s:Stp):qF s s=false:=by
 cases h:qF s s with
 |false=>rfl
 |true=>rw[jX] at h;omega
theorem wN {α:Type} {R:α->α->Prop} (e:∀x y z:α,R x y->R y z->R x z):∀(xs:List α),(∀ i,(h:i+1<xs.length)->R xs[i] xs[i+1])->xs.Pairwise R
 |[],_=>.nil
 |[x],_=>by simp
 |x::y::r,h=>by
  have g:=wN e (y::r) (fun i j=>h (i+1) (Nat.succ_lt_succ j))
  refine List.Pairwise.cons ?_ g;intro z hz;have d:R x y:=h 0 (by simp)
  rcases List.mem_cons.1 hz with rfl|hz
  ·exact d
  exact e _ _ _ d (List.rel_of_pairwise_cons g hz)
theorem dJ {α:Type} {R:α->α->Prop} {xs:List α} (d:xs.Pairwise R) (i:Nat) (h:i+1<xs.length):R xs[i] xs[i+1]:=
 List.pairwise_iff_getElem.1 d i (i+1) (by omega) h (by omega)
def xV (ss:List Stp):Prop:=ss.Pairwise fun s t=>qF s t=true
theorem zAa {n a b:Int}:btw n a b=false↔¬(a<=n/\n<=b):=by
 rw[<-xH];simp
theorem zX {α:Type} {xs:List α} {i:Nat} {d:α} (h:i<xs.length):xs.getD i d=xs[i]:=by rw[List.getD_eq_getElem?_getD,List.getElem?_eq_getElem h];rfl
theorem yP {a:Au}:ckA a=0↔vG a/\xV a.ss:=by
 unfold ckA
 constructor
 ·intro h
  split at h
  ·cases h
  rename_i g
  split at h
  ·cases h
  rename_i O
  split at h
  ·cases h
  rename_i h3
  split at h
  ·cases h
  rename_i h4
  split at h
  ·cases h
  rename_i h5
  simp only[Bool.or_eq_true,Bool.not_eq_true',not_or,Bool.not_eq_false,xH] at g
  have U:∀i,(e:i<a.ss.length)->gJ a a.ss[i]=false/\(0<i->qF (a.ss.getD (i-1) dQ) a.ss[i]=true):=by
   intro i e;have:=(nW _ _).1 h i (Nat.zero_le _) (by omega)
   unfold qB at this;rw[zX e] at this
   split at this
   ·cases this
   rename_i h7
   split at this
   ·cases this
   rename_i h8
   refine⟨by simpa using h7,fun N=>?_⟩
   simp only[Bool.and_eq_true,decide_eq_true_eq,Bool.not_eq_true',not_and,Bool.not_eq_false] at h8;exact h8 N
  refine⟨⟨g.1.1,g.1.2,g.2.1,g.2.2,by simpa using O,by omega,?_,?_,?_⟩,?_⟩
  ·intro f J
   simp only[nJ,List.any_eq_true,not_exists,not_and,Bool.not_eq_true',Bool.not_eq_false,xH] at h4;have:=h4 f J;omega
  ·refine wN (R:=fun x y:Int=>x<y) (fun _ _ _ h m=>Int.lt_trans h m) _ fun i e=>?_
   have u:gP a.fs (a.fs.length-1) 1=false:=by simpa using h5
   have:=(kS _ _).1 u (i+1) (by omega) (by omega)
   unfold fT at this;rw[zX e,Nat.add_sub_cancel,zX (by omega)] at this
   simpa using this
  ·intro s K
   obtain⟨i,e,rfl⟩:=List.getElem_of_mem K;have:=(U i e).1;simp only[gJ,Bool.or_eq_false_iff,Bool.not_eq_false',xH] at this;omega
  refine wN (R:=fun s t=>qF s t=true) (fun _ _ _ h m=>aH h m) _ fun i e=>?_
  have:=(U (i+1) e).2 (by omega)
  rwa[Nat.add_sub_cancel,zX (by omega)] at this
 rintro⟨d,K⟩;rw[if_neg,if_neg,if_neg,if_neg,if_neg,nW]
 ·intro k _ hk
  have j:k<a.ss.length:=by omega
  unfold qB;rw[zX j,if_neg,if_neg]
  ·simp only[Bool.and_eq_true,decide_eq_true_eq,Bool.not_eq_true',not_and,Bool.not_eq_false]
   intro N;rw[zX (by omega)]
   have:=dJ K (k-1) (by omega)
   simpa[show k-1+1=k by omega] using this
  have:=d.sr _ (List.getElem_mem j);simp only[gJ,Bool.or_eq_true,Bool.not_eq_true',zAa];omega
 ·have:gP a.fs (a.fs.length-1) 1=false:=by
   rw[kS];intro k g O;unfold fT;rw[zX (by omega),zX (by omega)]
   have:=dJ d.fo (k-1) (by omega)
   simpa[show k-1+1=k by omega] using this
  simp[this]
 ·simp only[nJ,List.any_eq_true,not_exists,not_and,Bool.not_eq_true',Bool.not_eq_false,xH]
  intro f J;have:=d.fr f J;omega
 ·have:=d.sl;omega
 ·have:=d.gl;omega
 simp only[Bool.or_eq_true,Bool.not_eq_true',zAa];have:=d.st1;have:=d.st2;have:=d.le1;have:=d.le2;omega
def kp (keep:List Bool) (q:Int):Bool:=keep.getD q.toNat false
def pos (keep:List Bool) (i:Nat):Nat:=(keep.take i).count true
theorem sM {keep:List Bool} {i:Nat} (h:i<keep.length):pos keep (i+1)=pos keep i+if keep.getD i false=true then 1 else 0:=by
 unfold pos;rw[List.take_succ_eq_append_getElem h,List.count_append,List.getD_eq_getElem?_getD,List.getElem?_eq_getElem h]
 cases keep[i]<;>simp
theorem zGB {keep:List Bool} {i j:Nat} (h:i<=j):pos keep i<=pos keep j:=by
 unfold pos;rw[<-List.take_append_drop i (keep.take j),List.take_take,Nat.min_eq_left h,List.count_append];omega
theorem zEs {keep:List Bool} {i:Nat} (h:keep.getD i false=true):i<keep.length:=by
 rcases Nat.lt_or_ge i keep.length with h1|h1
 ·exact h1
 rw[List.getD_eq_getElem?_getD,List.getElem?_eq_none h1] at h;cases h
theorem uE {keep:List Bool} {i j:Nat} (d:keep.getD i false=true) (h:i<j):pos keep i<pos keep j:=by
 have e:=sM (zEs d);rw[if_pos d] at e;have:=zGB (keep:=keep) (show i+1<=j by omega)
 omega
theorem zHL {keep:List Bool} {i j:Nat} (d:keep.getD i false=true) (e:keep.getD j false=true) (h:pos keep i=pos keep j):i=j:=by
 rcases Nat.lt_trichotomy i j with h1|h1|h1
 ·have:=uE d h1;omega
 ·exact h1
 have:=uE e h1;omega
def xI (keep:List Bool) (q:Int):Int:=(pos keep q.toNat:Nat)
def zI0 (keep:List Bool) (s:Stp):Stp:=⟨xI keep s.f,s.l,xI keep s.t⟩
def zY (gs:List Bool) (keep:List Bool) (k:Nat):List Bool:=((List.range k).filter fun i=>keep.getD i false).map fun i=>gs.getD i false
def yF (a:Au) (keep:List Bool) (k:Nat):List Int:=((a.fs.take k).filter (kp keep)).map (xI keep)
def yD (a:Au) (keep:List Bool) (k:Nat):List Stp:=((a.ss.take k).filter fun s=>kp keep s.f&&kp keep s.t).map (zI0 keep)
def qD (a:Au) (keep:List Bool):Au:=
 if pos keep a.st.toNat=0 then⟨1,a.le,[],[false],[]⟩
 else⟨(pos keep a.st.toNat:Nat),a.le,yF a keep a.fs.length,zY a.gs keep a.st.toNat,yD a keep a.ss.length⟩
theorem bG (gs keep:List Bool) (k:Nat):zY gs keep (k+1)=zY gs keep k++if keep.getD k false=true then[gs.getD k false] else[]:=by
 unfold zY;rw[List.range_succ,List.filter_append,List.map_append]
 congr 1
 by_cases h:keep.getD k false=true
 ·rw[List.filter_cons,if_pos h,if_pos h];rfl
 rw[List.filter_cons,if_neg h,if_neg h];rfl
theorem fJ {gs keep:List Bool} {k:Nat} (h:k<=keep.length):(zY gs keep k).length=pos keep k:=by
 induction k with
 |zero=>rfl
 |succ k ih=>
  rw[bG,List.length_append,ih (by omega),sM (by omega)]
  split<;>simp
theorem zAj {gs keep:List Bool}:∀{k i:Nat},k<=keep.length->i<k->keep.getD i false=true->(zY gs keep k).getD (pos keep i) false=gs.getD i false
 |0,i,_,h,_=>absurd h (by omega)
 |k+1,i,hk,h,hi=>by
  rw[bG,List.getD_eq_getElem?_getD];have d:=fJ (gs:=gs) (show k<=keep.length by omega)
  rcases Nat.lt_or_ge i k with h1|h1
  ·have:=uE hi h1
   rw[List.getElem?_append_left (by omega),<-List.getD_eq_getElem?_getD]
   exact zAj (by omega) h1 hi
  obtain rfl:i=k:=by omega
  rw[List.getElem?_append_right (by omega),d,if_pos hi]
  simp
theorem iL (a:Au) (keep:List Bool) {k:Nat} (h:k<a.fs.length):yF a keep (k+1)=yF a keep k++if kp keep a.fs[k]=true then[xI keep a.fs[k]] else[]:=by
 unfold yF;rw[List.take_succ_eq_append_getElem h,List.filter_append,List.map_append]
 congr 1
 by_cases h:kp keep a.fs[k]=true
 ·simp[List.filter_cons,h]
 simp[List.filter_cons,h]
theorem eQ (a:Au) (keep:List Bool) {k:Nat} (h:k<a.ss.length):yD a keep (k+1)=yD a keep k++if(kp keep a.ss[k].f&&kp keep a.ss[k].t)=true then[zI0 keep a.ss[k]] else[]:=by
 unfold yD;rw[List.take_succ_eq_append_getElem h,List.filter_append,List.map_append]
 congr 1
 by_cases h:(kp keep a.ss[k].f&&kp keep a.ss[k].t)=true
 ·rw[List.filter_cons,if_pos h,if_pos h];rfl
 rw[List.filter_cons,if_neg h,if_neg h];rfl
structure zGy (a:Au) (keep:List Bool):Prop where
 len:(keep.length:Int)=a.st
 fs:∀f∈a.fs,kp keep f=true
 ss:∀s∈a.ss,kp keep s.f=true->kp keep s.t=true
theorem zCb {keep:List Bool} {p q:Int} (g:0<=p) (i:0<=q) (d:kp keep p=true) (e:kp keep q=true) (h:xI keep p=xI keep q):p=q:=by
 unfold xI at h;have:=zHL d e (by omega)
 omega
theorem zC7 {a:Au} {keep:List Bool} (N:vG a) (hk:zGy a keep) (u:Nat->Int):xJ (qD a keep) u↔xJ a u:=by
 have hl:=hk.len;have hst:=N.st1;unfold qD
 by_cases h0:pos keep a.st.toNat=0
 ·rw[if_pos h0]
  constructor
  ·rintro⟨r,h,_⟩
   simp at h
  rintro⟨r,h,_⟩;have O:=N.fr _ h;have K:=hk.fs _ h;have:=uE K (show(r 0).toNat<a.st.toNat by omega)
  omega
 rw[if_neg h0]
 have J:∀s,s∈yD a keep a.ss.length↔∃t∈a.ss,kp keep t.f=true/\kp keep t.t=true/\zI0 keep t=s:=by
  intro s;simp only[yD,List.take_length,List.mem_map,List.mem_filter,Bool.and_eq_true,and_assoc]
 have d:∀q:Int,0<=q->q<a.st->kp keep q=true->((⟨(pos keep a.st.toNat:Nat),a.le,yF a keep a.fs.length,zY a.gs keep a.st.toNat,yD a keep a.ss.length⟩:Au).good (xI keep q)↔a.good q):=by
  intro q O K h3;unfold Au.good xI;simp only[Int.toNat_natCast];rw[zAj (by omega) (show q.toNat<a.st.toNat by omega) h3]
  constructor
  ·rintro⟨_,h⟩;exact⟨O,h⟩
  rintro⟨_,h⟩;exact⟨by omega,h⟩
 constructor
 ·rintro⟨r,e,U,hg⟩
  have st:∀i,∃t∈a.ss,kp keep t.f=true/\kp keep t.t=true/\zI0 keep t=⟨r i,u i,r (i+1)⟩:=fun i=>(J _).1 (U i)
  have pr:∀i,0<=(Classical.choose (st i)).f/\(Classical.choose (st i)).f<a.st/\kp keep (Classical.choose (st i)).f=true/\xI keep (Classical.choose (st i)).f=r i:=fun i=>by
   have h:=Classical.choose_spec (st i);have O:=(N.sr _ h.1).1;have K:=congrArg Stp.f h.2.2.2;exact⟨O.1,O.2,h.2.1,K⟩
  refine⟨fun i=>(Classical.choose (st i)).f,?_,fun i=>?_,fun n=>?_⟩
  ·simp only[yF,List.take_length,List.mem_map,List.mem_filter] at e
   obtain⟨f,⟨hf,hkf⟩,he⟩:=e;have p0:=pr 0;have:=zCb p0.1 (N.fr f hf).1 p0.2.2.1 hkf (by rw[p0.2.2.2,he])
   show(Classical.choose (st 0)).f∈a.fs;rw[this];exact hf
  ·have h:=Classical.choose_spec (st i)
   have p1:=pr (i+1);have h3:=congrArg Stp.t h.2.2.2;have K:=congrArg Stp.l h.2.2.2;have:=zCb (N.sr _ h.1).2.1.1 p1.1 h.2.2.1 p1.2.2.1 (by rw[p1.2.2.2];exact h3)
   show(⟨(Classical.choose (st i)).f,u i,(Classical.choose (st (i+1))).f⟩:Stp)∈a.ss
   have hx:∀(t:Stp) (x:Int),t∈a.ss->t.l=u i->t.t=x->(⟨t.f,u i,x⟩:Stp)∈a.ss:=fun t x ht e1 e2=>by rw[<-e1,<-e2];exact ht
   exact hx _ _ h.1 K this
  obtain⟨m,hm,g⟩:=hg n;have p:=pr m;rw[<-p.2.2.2] at g;exact⟨m,hm,(d _ p.1 p.2.1 p.2.2.1).1 g⟩
 rintro⟨r,e,U,hg⟩;have hr:∀i,0<=r i/\r i<a.st:=fun i=>(N.sr _ (U i)).1
 have j:∀i,kp keep (r i)=true:=by
  intro i
  induction i with
  |zero=>exact hk.fs _ e
  |succ i ih=>exact hk.ss _ (U i) ih
 refine⟨fun i=>xI keep (r i),?_,fun i=>?_,fun n=>?_⟩
 ·simp only[yF,List.take_length,List.mem_map,List.mem_filter]
  exact⟨r 0,⟨e,j 0⟩,rfl⟩
 ·exact(J _).2 ⟨_,U i,j i,j (i+1),rfl⟩
 obtain⟨m,hm,g⟩:=hg n;exact⟨m,hm,(d _ (hr m).1 (hr m).2 (j m)).2 g⟩
theorem zBv {keep:List Bool} {p q:Int} (e:0<=p) (d:kp keep p=true) (h:p<q):xI keep p<xI keep q:=by
 unfold xI;have:=uE d (show p.toNat<q.toNat by omega)
 omega
theorem zH2 {a:Au} {keep:List Bool} (U:ckA a=0) (hl:(keep.length:Int)=a.st):ckA (qD a keep)=0:=by
 obtain⟨e,m⟩:=yP.1 U;have h1:=e.st1;have h2:=e.st2
 have hpl:pos keep a.st.toNat<=a.st.toNat:=by
  unfold pos;exact Nat.le_trans (List.count_le_length) (List.length_take_le _ _)
 unfold qD
 by_cases h0:pos keep a.st.toNat=0
 ·rw[if_pos h0]
  exact yP.2 ⟨⟨Int.le_refl 1,show(1:Int)<=300 by decide,e.le1,e.le2,rfl,by simp,by simp,.nil,by simp⟩,.nil⟩
 rw[if_neg h0]
 have d:∀q:Int,0<=q->q<a.st->kp keep q=true->0<=xI keep q/\xI keep q<(pos keep a.st.toNat:Nat):=fun q a1 a2 O=>by
  unfold xI;have:=uE O (show q.toNat<a.st.toNat by omega)
  omega
 refine yP.2 ⟨⟨by show 1<=((pos keep a.st.toNat:Nat):Int);omega,by show((pos keep a.st.toNat:Nat):Int)<=300;omega,e.le1,e.le2,?_,?_,?_,?_,?_⟩,?_⟩
 ·show((zY a.gs keep a.st.toNat).length:Int)=(pos keep a.st.toNat:Nat)
  rw[fJ (by omega)]
 ·show(yD a keep a.ss.length).length<=6000
  unfold yD;rw[List.length_map];have:=List.length_filter_le (fun s:Stp=>kp keep s.f&&kp keep s.t) (a.ss.take a.ss.length)
  have:=List.length_take_le a.ss.length a.ss;have:=e.sl;omega
 ·intro f J
  simp only[yF,List.take_length,List.mem_map,List.mem_filter] at J;obtain⟨q,⟨K,hk⟩,rfl⟩:=J;have:=e.fr q K;exact d q this.1 this.2 hk
 ·show(yF a keep a.fs.length).Pairwise (·<·)
  unfold yF;rw[List.take_length,List.pairwise_map,List.pairwise_filter];refine e.fo.imp_of_mem (fun{p q} hp K hpq g j=>?_)
  exact zBv (e.fr p hp).1 g hpq
 ·intro s i
  simp only[yD,List.take_length,List.mem_map,List.mem_filter,Bool.and_eq_true] at i;obtain⟨t,⟨u,g,j⟩,rfl⟩:=i;have:=e.sr t u;exact⟨d t.f this.1.1 this.1.2 g,d t.t this.2.1.1 this.2.1.2 j,this.2.2⟩
 show xV (yD a keep a.ss.length);unfold xV yD;rw[List.take_length,List.pairwise_map,List.pairwise_filter];refine m.imp_of_mem (fun{s t} i u hst g j=>?_)
 simp only[Bool.and_eq_true] at g j;have N:=e.sr s i;have rt:=e.sr t u;rw[jX] at *;show xI keep s.f<xI keep t.f\/xI keep s.f=xI keep t.f/\(s.l<t.l\/s.l=t.l/\xI keep s.t<xI keep t.t)
 rcases hst with h|⟨h,h'⟩
 ·exact .inl (zBv N.1.1 g.1 h)
 rw[h];refine .inr ⟨rfl,?_⟩
 rcases h' with h'|⟨h',h''⟩
 ·exact .inl h'
 exact .inr ⟨h',zBv N.2.1.1 g.2 h''⟩
inductive Rch (a:Au):Int->Prop
 |first{f:Int}:f∈a.fs->Rch a f
 |step {s:Stp}:Rch a s.f->s∈a.ss->Rch a s.t
structure nK (a:Au) (keep:List Bool):Prop where
 len:(keep.length:Int)=a.st
 iff:∀q:Int,0<=q->q<a.st->(kp keep q=true↔Rch a q)
theorem nK.ok {a:Au} {keep:List Bool} (e:vG a) (h:nK a keep):zGy a keep:=
 ⟨h.len,fun f d=>(h.iff f (e.fr f d).1 (e.fr f d).2).2 (.first d),fun s g i=>by
  have r:=e.sr s g;exact(h.iff s.t r.2.1.1 r.2.1.2).2 (.step ((h.iff s.f r.1.1 r.1.2).1 i) g)⟩
theorem nK.unique {a:Au} {k j:List Bool} (h:nK a k) (g:nK a j):k=j:=by
 have u:=h.len;have J:=g.len;refine List.ext_getElem (by omega) fun i m s=>?_
 have d:=h.iff (i:Int) (by omega) (by omega)
 have e:=g.iff (i:Int) (by omega) (by omega)
 unfold kp at d e;rw[Int.toNat_natCast,zX m] at d;rw[Int.toNat_natCast,zX s] at e;rw[Bool.eq_iff_iff,d,e]
end
section
open Go
theorem zCU {out:List Bool} {p q:Int} (e:0<=p) (g:0<=q) (d:p<out.length):kp (out.set p.toNat true) q=true↔kp out q=true\/q=p:=by
 unfold kp;rw[List.getD_eq_getElem?_getD,List.getD_eq_getElem?_getD,List.getElem?_set]
 by_cases h:p.toNat=q.toNat
 ·have:q=p:=by omega
  subst this;rw[if_pos rfl,if_pos (by omega)]
  simp
 rw[if_neg h]
 constructor
 ·exact .inl
 rintro(h1|h1)
 ·exact h1
 exact absurd (by rw[h1]) h
theorem zEc {out:List Bool} {i:Nat} {q:Int} (h:kp out q=true):kp (out.set i true) q=true:=by
 have d:=zEs h;unfold kp at h ⊢;rw[List.getD_eq_getElem?_getD] at h ⊢;rw[List.getElem?_set]
 split
 ·rename_i he
  rw[if_pos (by omega)];rfl
 exact h
theorem zJH {out:List Bool} {i:Nat} {q:Int} (h:q.toNat=i) (d:i<out.length):kp (out.set i true) q=true:=by
 unfold kp;rw[h,List.getD_eq_getElem?_getD,List.getElem?_set_self d];rfl
def qM (l:List Int) (out:List Bool):List Bool:=l.foldl (fun o q=>o.set q.toNat true) out
theorem pA:∀(l:List Int) (out:List Bool),(qM l out).length=out.length
 |[],_=>rfl
 |q::l,out=>by
  show(qM l (out.set q.toNat true)).length=_;rw[pA l,List.length_set]
theorem aI (l:List Int) (q:Int) (out:List Bool):qM (l++[q]) out=(qM l out).set q.toNat true:=by
 unfold qM;rw[List.foldl_append];rfl
theorem uM:∀(l:List Int) (out:List Bool),(∀ q∈l,0<=q/\q<out.length)->∀q:Int,0<=q->(kp (qM l out) q=true↔kp out q=true\/q∈l)
 |[],_,_,q,_=>by simp[qM]
 |p::l,out,h,q,hq=>by
  show kp (qM l (out.set p.toNat true)) q=true↔_;have d:=h p (List.mem_cons_self ..);rw[uM l _ (fun x e=>by rw[List.length_set];exact h x (List.mem_cons_of_mem _ e)) q hq,zCU d.1 hq d.2,List.mem_cons,or_assoc]
theorem lT {out:List Bool} {i:Nat} (d:i<out.length) (h:out.getD i false=false):(out.set i true).count false+1=out.count false:=by
 induction out generalizing i with
 |nil=>simp at d
 |cons x out ih=>
  cases i with
  |zero=>
   have:x=false:=h
   subst this
   simp[List.count_cons]
  |succ i=>
   rw[List.set_cons_succ,List.count_cons,List.count_cons];have:=ih (i:=i) (by simpa using d) (by simpa using h)
   omega
theorem zA7 {N:Int}:∀(l:List Int) (lo:Int),l.Pairwise (·<·)->(∀ x∈l,lo<=x/\x<N)->lo<=N->(l.length:Int)<=N-lo
 |[],lo,_,_,h=>by simp;omega
 |x::l,lo,hp,h,hN=>by
  have g:=h x (List.mem_cons_self ..);have d:=List.pairwise_cons.1 hp;have:=zA7 l (x+1) d.2 (fun y e=>⟨d.1 y e,(h y (List.mem_cons_of_mem _ e)).2⟩) (by omega)
  rw[List.length_cons];omega
theorem vG.fs_le {a:Au} (d:vG a):(a.fs.length:Int)<=a.st:=by
 have:=zA7 a.fs 0 d.fo d.fr (by have:=d.st1;omega)
 omega
structure AuR (a:Au):Prop where
 st1:1<=a.st
 fr:∀f∈a.fs,0<=f/\f<a.st
 fo:a.fs.Pairwise (·<·)
 sr:∀s∈a.ss,(0<=s.f/\s.f<a.st)/\(0<=s.t/\s.t<a.st)/\0<=s.l/\s.l<a.le
theorem vG.rng {a:Au} (d:vG a):AuR a:=⟨d.st1,d.fr,d.fo,d.sr⟩
theorem AuR.fs_le {a:Au} (d:AuR a):(a.fs.length:Int)<=a.st:=by
 have:=zA7 a.fs 0 d.fo d.fr (by have:=d.st1;omega)
 omega
structure RcM (a:Au) (out:List Bool) (left:List Int) (n:Nat) (op:Option Int):Prop where
 len:(out.length:Int)=a.st
 lok:∀q∈left,0<=q/\q<a.st/\kp out q=true
 sound:∀q:Int,0<=q->kp out q=true->Rch a q
 first:∀f∈a.fs,kp out f=true
 closed:∀s∈a.ss,kp out s.f=true->s.f∈left\/some s.f=op\/kp out s.t=true
 opk:∀x,op=some x->kp out x=true/\0<=x
 meas:out.count false+left.length<=n
 few:(out.count false:Int)+left.length<=a.st+a.fs.length
theorem RcM.start {a:Au} (g:AuR a) (n:Nat) (u:(n:Int)=a.st):RcM a (qM a.fs (List.replicate n false)) a.fs (n+a.fs.length) none:=by
 have e:=uM a.fs (List.replicate n false) (fun q d=>by have:=g.fr q d;simp;omega)
 have i:∀q,kp (List.replicate n false) q=true↔False:=fun q=>by
  unfold kp;rw[List.getD_eq_getElem?_getD]
  by_cases h:q.toNat<n<;>simp[List.getElem?_replicate,h]
 have m:(qM a.fs (List.replicate n false)).length=n:=by rw[pA,List.length_replicate]
 refine⟨by rw[m];exact u,fun q d=>?_,fun q d h=>?_,fun f j=>?_,fun s J h=>?_,fun x h=>(by cases h),?_,?_⟩
 ·have:=g.fr q d
  exact⟨this.1,this.2,(e q this.1).2 (.inr d)⟩
 ·rcases(e q d).1 h with h1|h1
  ·exact((i q).1 h1).elim
  exact .first h1
 ·exact(e f (g.fr f j).1).2 (.inr j)
 ·rcases(e s.f (g.sr s J).1.1).1 h with h1|h1
  ·exact((i _).1 h1).elim
  exact .inl h1
 ·have:=List.count_le_length (a:=false) (l:=qM a.fs (List.replicate n false))
  omega
 have:=List.count_le_length (a:=false) (l:=qM a.fs (List.replicate n false));omega
theorem RcM.pop {a:Au} {out:List Bool} {left:List Int} {x:Int} {n:Nat} (h:RcM a out (left++[x]) n none):RcM a out left (n-1) (some x)/\0<n/\0<=x/\x<a.st:=by
 have e:=h.meas;rw[List.length_append,List.length_cons,List.length_nil] at e;have d:=h.lok x (by simp)
 refine⟨⟨h.len,fun q i=>h.lok q (List.mem_append_left _ i),h.sound,h.first,fun s j g=>?_,fun y m=>?_,by omega,by have:=h.few;rw[List.length_append,List.length_cons,List.length_nil] at this;omega⟩,by omega,d.1,d.2.1⟩
 ·rcases h.closed s j g with h3|h3|h3
  ·rcases List.mem_append.1 h3 with h4|h4
   ·exact .inl h4
   exact .inr (.inl (by rw[List.mem_singleton.1 h4]))
  ·cases h3
  exact .inr (.inr h3)
 obtain rfl:x=y:=by simpa using m
 exact⟨d.2.2,d.1⟩
theorem RcM.add {a:Au} (j:AuR a) {out:List Bool} {left:List Int} {x:Int} {n:Nat} (h:RcM a out left n (some x)) {s:Stp} (K:s∈a.ss) (N:s.f=x) (U:kp out s.t=false):RcM a (out.set s.t.toNat true) (left++[s.t]) n (some x):=by
 have m:=(j.sr s K).2.1;have hl:=h.len;have d:∀q:Int,0<=q->(kp (out.set s.t.toNat true) q=true↔kp out q=true\/q=s.t):=fun q e=>zCU m.1 e (by omega)
 refine⟨by rw[List.length_set];exact hl,fun q e=>?_,fun q e u=>?_,fun f O=>?_,fun t ht J=>?_,fun y hy=>?_,?_,?_⟩
 ·rcases List.mem_append.1 e with h1|h1
  ·have:=h.lok q h1
   exact⟨this.1,this.2.1,(d q this.1).2 (.inl this.2.2)⟩
  rw[List.mem_singleton.1 h1];exact⟨m.1,m.2,(d _ m.1).2 (.inr rfl)⟩
 ·rcases(d q e).1 u with h1|rfl
  ·exact h.sound q e h1
  exact .step (h.sound s.f (j.sr s K).1.1 (by rw[N];exact(h.opk x rfl).1)) K
 ·exact(d f (j.fr f O).1).2 (.inl (h.first f O))
 ·have g:=j.sr t ht
  rcases(d t.f g.1.1).1 J with h1|h1
  ·rcases h.closed t ht h1 with h3|h3|h3
   ·exact .inl (List.mem_append_left _ h3)
   ·exact .inr (.inl h3)
   exact .inr (.inr ((d _ g.2.1.1).2 (.inl h3)))
  exact .inl (List.mem_append_right _ (by rw[h1];exact List.mem_singleton.2 rfl))
 ·have:=h.opk y hy
  exact⟨(d y this.2).2 (.inl this.1),this.2⟩
 ·have:=lT (out:=out) (i:=s.t.toNat) (by omega) U
  have:=h.meas;rw[List.length_append,List.length_cons,List.length_nil];omega
 have:=lT (out:=out) (i:=s.t.toNat) (by omega) U
 have:=h.few;rw[List.length_append,List.length_cons,List.length_nil];omega
theorem RcM.shut {a:Au} {out:List Bool} {left:List Int} {x:Int} {n:Nat} (h:RcM a out left n (some x)) (e:∀s∈a.ss,s.f=x->kp out s.t=true):RcM a out left n none:=by
 refine⟨h.len,h.lok,h.sound,h.first,fun s d g=>?_,fun y i=>(by cases i),h.meas,h.few⟩
 rcases h.closed s d g with h1|h1|h1
 ·exact .inl h1
 ·exact .inr (.inr (e s d (Option.some.inj h1)))
 exact .inr (.inr h1)
theorem RcM.done {a:Au} (g:AuR a) {out:List Bool} {n:Nat} (h:RcM a out [] n none):nK a out:=by
 refine⟨h.len,fun q d h1=>⟨h.sound q d,fun e=>?_⟩⟩
 clear d h1
 induction e with
 |first hf=>exact h.first _ hf
 |step _ hs ih=>
  rcases h.closed _ hs ih with h1|h1|h1
  ·cases h1
  ·cases h1
  exact h1
end
section
section
variable {a:Au} {now good:List Bool} {c:Int} {k:Nat} {x y:List Bool}
end
end
section
open Go Go.RowKit Go.Sort
theorem jM {P:Program} {f:FuncId} {args:Array Value} {w:World} {v:Value} (h:∀W,Below w w W->Calls P f args W fun e w'=>e=.returned v/\Below W W w'):
  ∀d os,Calls P f args (grow (redrawn w d) os) fun e g=>e=.returned v/\∃p:Regrown,g=grow (redrawn w p.d) p.os:=fun d os=>Calls.regrown_of (h _ (below_regrown w d os))
theorem wS {w0 w:World} {B:Nat} (h:Below B w0 w) (e:B<=w.heap.size) (d:Nat) (os:Array Obj):Below B w0 (grow (redrawn w d) os):=h.trans ((below_regrown w d os).mono e)
end
section
open Go Go.RowKit
theorem zGY (n a b:Int) (w:World):Calls Tryz.prog 35 #[n,a,b] w fun e w'=>e=.returned (.bool (btw n a b))/\w=w':=by
 go_enter Tryz.func35,Tryz.ntmps35
 go_wp2
 all_goals(go_ret;refine⟨yJ ?_,rfl⟩;unfold btw;simp[*])
 omega
theorem mW {xs:List Int} {i:Nat} (h:i<xs.length):xs.getD i 0=xs[i]:=by rw[List.getD_eq_getElem?_getD,List.getElem?_eq_getElem h];rfl
def xX (w:World) (b:Bool) (e:Ending) (w':World):Prop:=e=.returned (.bool b)/\Below w w w'
theorem zT {B:Nat} {w w':World} (d:Below B w w') {b o:Nat} (h:b<B):w'.cell? ⟨b,o,none⟩=w.cell? ⟨b,o,none⟩:=d.cell (p:=⟨b,o,none⟩) h
end
end Go.Proofs.YtoglgeaiiipchaaGreatDoor
