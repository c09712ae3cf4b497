import Derived.Test.YtoglgeaiiipchaaGreatDoorLRY11
set_option linter.unusedSimpArgs false
set_option linter.unusedVariables false
set_option maxRecDepth 100000
set_option maxHeartbeats 8000000
namespace Go.Proofs.YtoglgeaiiipchaaGreatDoor
section
open Go Go.RowKit Go.Shelf
attribute [local go_sem] Oper.semAt_some
theorem zFG {x:Int} (d:-9000000000000000000<=x) (e:x<=9000000000000000000):IntKind.i64.wrap x=x:=IntWalk.i64_in _ (by omega)
def prW (w:World) (a b:Au) (A B C D E F:Option Addr) (ca cb cc cd ce cf N:Nat):World:=
 (((((bT w a b A B C D E F ca cb cc cd ce cf).alloc (.cells #[(0:Int),(0:Int),(),(),()] 31)).alloc
  (.cells #[a.st,a.le,.slice A a.fs.length ca,.slice B a.gs.length cb,.slice C a.ss.length cc,b.st,b.le,.slice D b.fs.length cd,.slice E b.gs.length ce,.slice F b.ss.length cf] 156)).alloc
  (.cells #[(⟨w.heap.size+3,0,none⟩:Addr)] 154)).alloc (.cells #[(3*a.st*b.st),a.le,(),.slice (some ⟨w.heap.size+6,0,none⟩) N N,()] 31)).alloc (.cells (madeCells #[Value.bool false] N) 4)
structure PrW (w:World) (a b:Au) (A B C D E F:Option Addr) (ca cb cc cd ce cf N V:Nat) (W:World):Prop where
 below:Below w w W
 size:W.heap.size=V+7
 v:V=w.heap.size
 at1:yG W V a A B C ca cb cc
 at2:yG W (V+1) b D E F cd ce cf
 res:W.heap[V+2]?=some (.cells #[(0:Int),(0:Int),(),(),()] 31 (0,0))
 pr:cK W (V+3) a b A B C D E F ca cb cc cd ce cf
 pp:W.heap[V+4]?=some (.cells #[(⟨V+3,0,none⟩:Addr)] 154 (0,0))
 out:W.heap[V+5]?=some (.cells #[(3*a.st*b.st),a.le,(),.slice (some ⟨V+6,0,none⟩) N N,()] 31 (0,0))
 row:zU W (V+6) (List.replicate N false)
theorem zJY (w:World) (a b:Au) (A B C D E F:Option Addr) (ca cb cc cd ce cf N:Nat):PrW w a b A B C D E F ca cb cc cd ce cf N w.heap.size (prW w a b A B C D E F ca cb cc cd ce cf N):=by
 have h:=cJ w a b A B C D E F ca cb cc cd ce cf;unfold prW;obtain⟨W1,g⟩:∃W,W=bT w a b A B C D E F ca cb cc cd ce cf:=⟨_,rfl⟩;rw[<-g] at h ⊢;clear g;obtain⟨u,hs,m,s⟩:=h
 have J:=World.alloc_heap_new W1 (.cells #[(0:Int),(0:Int),(),(),()] 31)
 have b1:Below W1 W1 (W1.alloc (.cells #[(0:Int),(0:Int),(),(),()] 31)):=bLa
 have s1:(W1.alloc (.cells #[(0:Int),(0:Int),(),(),()] 31)).heap.size=W1.heap.size+1:=by simp
 generalize W1.alloc (.cells #[(0:Int),(0:Int),(),(),()] 31)=W2 at *
 have K:=World.alloc_heap_new W2 (.cells #[a.st,a.le,.slice A a.fs.length ca,.slice B a.gs.length cb,.slice C a.ss.length cc,b.st,b.le,.slice D b.fs.length cd,.slice E b.gs.length ce,.slice F b.ss.length cf] 156)
 have i:Below W2 W2 (W2.alloc (.cells #[a.st,a.le,.slice A a.fs.length ca,.slice B a.gs.length cb,.slice C a.ss.length cc,b.st,b.le,.slice D b.fs.length cd,.slice E b.gs.length ce,.slice F b.ss.length cf] 156)):=bLa
 have s2:(W2.alloc (.cells #[a.st,a.le,.slice A a.fs.length ca,.slice B a.gs.length cb,.slice C a.ss.length cc,b.st,b.le,.slice D b.fs.length cd,.slice E b.gs.length ce,.slice F b.ss.length cf] 156)).heap.size=W2.heap.size+1:=by simp
 generalize W2.alloc (.cells #[a.st,a.le,.slice A a.fs.length ca,.slice B a.gs.length cb,.slice C a.ss.length cc,b.st,b.le,.slice D b.fs.length cd,.slice E b.gs.length ce,.slice F b.ss.length cf] 156)=W3 at *
 have O:=World.alloc_heap_new W3 (.cells #[(⟨w.heap.size+3,0,none⟩:Addr)] 154);have b3:Below W3 W3 (W3.alloc (.cells #[(⟨w.heap.size+3,0,none⟩:Addr)] 154)):=bLa
 have s3:(W3.alloc (.cells #[(⟨w.heap.size+3,0,none⟩:Addr)] 154)).heap.size=W3.heap.size+1:=by simp
 generalize W3.alloc (.cells #[(⟨w.heap.size+3,0,none⟩:Addr)] 154)=W4 at *
 have U:=World.alloc_heap_new W4 (.cells #[(3*a.st*b.st),a.le,(),.slice (some ⟨w.heap.size+6,0,none⟩) N N,()] 31)
 have b4:Below W4 W4 (W4.alloc (.cells #[(3*a.st*b.st),a.le,(),.slice (some ⟨w.heap.size+6,0,none⟩) N N,()] 31)):=bLa
 have s4:(W4.alloc (.cells #[(3*a.st*b.st),a.le,(),.slice (some ⟨w.heap.size+6,0,none⟩) N N,()] 31)).heap.size=W4.heap.size+1:=by simp
 generalize W4.alloc (.cells #[(3*a.st*b.st),a.le,(),.slice (some ⟨w.heap.size+6,0,none⟩) N N,()] 31)=W5 at *;have j:=zU.new W5 N
 have b5:Below W5 W5 (W5.alloc (.cells (madeCells #[Value.bool false] N) 4)):=bLa
 have s5:(W5.alloc (.cells (madeCells #[Value.bool false] N) 4)).heap.size=W5.heap.size+1:=by simp
 generalize W5.alloc (.cells (madeCells #[Value.bool false] N) 4)=W6 at *;have d:Below W1 W1 W6:=((((b1.trans (i.mono (by omega))).trans (b3.mono (by omega))).trans (b4.mono (by omega))).trans (b5.mono (by omega)))
 refine⟨zA u d (by omega),by omega,rfl,m.below d (by omega),s.below d (by omega),?_,?_,?_,?_,?_⟩
 ·rw[show w.heap.size+2=W1.heap.size by omega]
  rw[b5.block _ (by omega),b4.block _ (by omega),b3.block _ (by omega),i.block _ (by omega)]
  exact J
 ·have e:W6.heap[w.heap.size+3]?=some (.cells #[a.st,a.le,.slice A a.fs.length ca,.slice B a.gs.length cb,.slice C a.ss.length cc,b.st,b.le,.slice D b.fs.length cd,.slice E b.gs.length ce,.slice F b.ss.length cf] 156):=by
   rw[show w.heap.size+3=W2.heap.size by omega,b5.block _ (by omega),b4.block _ (by omega),b3.block _ (by omega)]
   exact K
  refine⟨by omega,?_,?_,?_,?_,?_,?_,?_,?_,?_,?_⟩<;>simp[World.cell?,e]
 ·rw[show w.heap.size+4=W3.heap.size by omega,b5.block _ (by omega),b4.block _ (by omega)]
  exact O
 ·rw[show w.heap.size+5=W4.heap.size by omega,b5.block _ (by omega)]
  exact U
 rw[show W5.heap.size=w.heap.size+6 by omega] at j
 exact j
def mkG (M k:Nat):List Bool:=(List.range (3*M)).map fun i=>decide (i%3=2/\i/3<k)
theorem zIY (M k:Nat):(mkG M k).length=3*M:=by simp[mkG]
theorem zFU (M:Nat):mkG M 0=List.replicate (3*M) false:=by
 apply List.ext_getElem
 ·simp[mkG]
 intro i d e
 simp[mkG]
theorem zIp (M:Nat):mkG M M=yS M:=by
 unfold mkG yS;refine List.map_congr_left fun i d=>?_
 have:=List.mem_range.1 d
 apply decide_eq_decide.2
 omega
theorem zHh (M k:Nat):mkG M (k+1)=(mkG M k).set (3*k+2) true:=by
 apply List.ext_getElem
 ·simp[mkG]
 intro i d e;rw[List.getElem_set];simp only[mkG,List.getElem_map,List.getElem_range]
 by_cases h:3*k+2=i
 ·rw[if_pos h];simp;omega
 rw[if_neg h]
 apply decide_eq_decide.2
 omega
theorem zU.ownR {W:World} {B g n:Nat} {xs:List Bool} (h:zU W g xs) (d:B<=g) (e:n=xs.length) (i:n<=1000000):W.ownsRow B 4 1 (.slice (some ⟨g,0,none⟩) n n) xs.length (xs.flatMap vbL):=by
 subst e;refine⟨zN (sz:=1) (fun _=>rfl) xs,.inr ⟨g,xs.length,_,rfl,d,h,nLe,by unfold maxLen;omega,by simp,?_⟩⟩
 have:∀xs:List Bool,xs.flatMap vbL=xs.map Value.bool:=by
  intro xs
  induction xs with
  |nil=>rfl
  |cons x xs ih=>rw[List.flatMap_cons,ih];rfl
 rw[this xs,Nat.mul_one];exact List.take_of_length_le (by simp)
def rP (a b:Au) (k:Nat):List Int:=(a.fs.take k).flatMap fun x=>b.fs.map fun y=>qK b x y 0
theorem zCv (a b:Au):rP a b a.fs.length=yR a b:=by unfold rP yR;rw[List.take_length]
theorem zAr (a b:Au) {k:Nat} (h:k<a.fs.length):rP a b (k+1)=rP a b k++b.fs.map fun y=>qK b a.fs[k] y 0:=by
 unfold rP;rw[List.take_succ_eq_append_getElem h,List.flatMap_append]
 simp
theorem iZ (a b:Au):∀k,k<=a.fs.length->(rP a b k).length=k*b.fs.length
 |0,_=>by simp[rP]
 |k+1,h=>by rw[zAr a b (by omega),List.length_append,iZ a b k (by omega),List.length_map,Nat.add_mul,Nat.one_mul]
theorem jT.fs_le {a:Au} (h:jT a):(a.fs.length:Int)<=a.st:=by
 have d:(a.fs.map Int.toNat).Nodup:=by
  unfold List.Nodup;rw[List.pairwise_map]
  exact h.fo.imp_of_mem (fun{x y} e g hlt he=>by
   have:=h.fr x e;have:=h.fr y g;omega)
 have:=lN a.st.toNat (a.fs.map Int.toNat) d (fun x e=>by
  obtain⟨y,g,rfl⟩:=List.mem_map.1 e;have:=h.fr y g;omega)
 rw[List.length_map] at this;have:=h.st1;omega
def frT (V:Nat) (v12 v13 v14 v15 v16 v17 v78 v79 v88 v89 v96:Value) (u:Nat->Value):Array Value:=#[u 0,u 1,.pointer (some ⟨V,0,none⟩),.pointer (some ⟨V+1,0,none⟩),.pointer (some ⟨V+2,0,none⟩),.pointer (some ⟨V+4,0,none⟩),.pointer (some ⟨V+5,0,none⟩),u 7,u 8,u 9,u 10,u 11,v12,v13,v14,v15,v16,v17,u 18,u 19,u 20,u 21,u 22,u 23,u 24,u 25,u 26,u 27,u 28,u 29,u 30,u 31,u 32,u 33,u 34,u 35,u 36,u 37,u 38,u 39,u 40,u 41,u 42,u 43,u 44,u 45,u 46,u 47,u 48,u 49,u 50,u 51,u 52,u 53,u 54,u 55,u 56,u 57,u 58,u 59,u 60,u 61,u 62,u 63,u 64,u 65,u 66,u 67,u 68,u 69,u 70,u 71,u 72,u 73,u 74,u 75,u 76,u 77,v78,v79,u 80,u 81,u 82,u 83,u 84,u 85,u 86,u 87,v88,v89,u 90,u 91,u 92,u 93,u 94,u 95,v96,u 97,u 98,u 99,u 100,u 101,u 102,u 103,u 104,u 105,u 106,u 107,u 108,u 109,u 110,u 111,u 112,u 113,u 114,u 115,u 116,u 117,u 118,u 119,u 120,u 121,u 122,u 123,u 124,u 125,u 126,u 127,u 128,u 129,u 130,u 131,u 132,u 133,u 134,u 135,u 136,u 137,u 138]
def FrP (V:Nat) (v12 v13 v14 v15 v16 v17 v78 v79 v88 v89 v96:Value) (ds:List Deferred) (a:Act):Prop:=∃u:Nat->Value,a={tmps:=frT V v12 v13 v14 v15 v16 v17 v78 v79 v88 v89 v96 u,defers:=ds}
theorem FrP.mk {V:Nat} {v12 v13 v14 d v16 v17 e g j m s:Value} {u:List Deferred} {a:Act} (h:a={tmps:=frT V v12 v13 v14 d v16 v17 e g j m s (fun i=>a.tmps.getD i undef),defers:=u}):FrP V v12 v13 v14 d v16 v17 e g j m s u a:=⟨_,h⟩
def zJ0 (w:World) (r:Au) (e:Ending) (w':World):Prop:=∃A B C ca cb cc,e=.returned (.agg #[r.st,r.le,.slice A r.fs.length ca,.slice B r.gs.length cb,.slice C r.ss.length cc])/\zM w' w.heap.size r A B C ca cb cc/\Below w w w'
theorem zKW (a b:Au) (A B C D E F:Option Addr) (ca cb cc cd ce cf:Nat) (w:World) (ha:zM w 0 a A B C ca cb cc) (hb:zM w 0 b D E F cd ce cf) (hfa:jT a) (hfb:jT b) (hst:3*a.st*b.st<=1000000) (hsa:a.ss.length<=1000000) (hsb:b.ss.length<=1000000) (hsn:jP a b<=100000000):
  Calls Tryz.prog 69 #[.agg #[a.st,a.le,.slice A a.fs.length ca,.slice B a.gs.length cb,.slice C a.ss.length cc],.agg #[b.st,b.le,.slice D b.fs.length cd,.slice E b.gs.length ce,.slice F b.ss.length cf]] w (zJ0 w (fO a b (dd (zR (rG a b))))):=by
 have hst1:=hfa.st1;have hst2:=hfb.st1;obtain⟨NA,hNA⟩:=Int.eq_ofNat_of_zero_le (show 0<=a.st by omega)
 obtain⟨NB,hNB⟩:=Int.eq_ofNat_of_zero_le (show 0<=b.st by omega)
 obtain⟨M,hM⟩:∃M,M=NA*NB:=⟨_,rfl⟩;have hab:a.st*b.st=(M:Int):=by rw[hNA,hNB,hM];simp
 have h3ab:3*a.st*b.st=((3*M:Nat):Int):=by rw[Int.mul_assoc,hab];simp
 have hNN:3*M<=1000000:=by omega
 have hNAl:NA<=1000000:=by
  have:NA*1<=NA*NB:=Nat.mul_le_mul_left _ (by omega)
  omega
 have hNBl:NB<=1000000:=by
  have:1*NB<=NA*NB:=Nat.mul_le_mul_right _ (by omega)
  omega
 have hmk:=jV (3*a.st*b.st) (3*M) h3ab.symm hNN;have q1:IntKind.i64.wrap (3*a.st)=3*a.st:=zFG (by omega) (by omega)
 have q2:IntKind.i64.wrap (3*a.st*b.st)=3*a.st*b.st:=zFG (by omega) (by omega)
 have q3:IntKind.i64.wrap (a.st*b.st)=(M:Int):=by rw[zFG (by omega) (by omega)];exact hab
 have U:=hId (zJY w a b A B C D E F ca cb cc cd ce cf (3*M));have HRA:=hId ha;have HRB:=hId hb;have HFA:=hId hfa;have HFB:=hId hfb;have HNA:=hId hNA;have HNB:=hId hNB;have HAB:=hId hab;have H3AB:=hId h3ab
 have HMM:=hId hM;clear ha hb hfa hfb hNA hNB hab h3ab hM;refine(callsIn_wide (n:=12)).1 ?_;refine callsIn_of_wp_marks Tryz.func69 rfl trivial ?_
 simp only[Tryz.ntmps69,List.size_toArray,List.length_cons,List.length_nil,Nat.reduceAdd,Nat.reduceSub,Array.replicate_succ,Array.replicate_zero,List.push_toArray,List.append_toArray,List.nil_append,List.cons_append]
 gi_wp2
 show Code.wpIn _ _ _ _ _ _ (prW w a b A B C D E F ca cb cc cd ce cf (3*M));obtain⟨V,hV⟩:∃V,V=w.heap.size:=⟨_,rfl⟩;simp only[Nat.add_assoc,Nat.reduceAdd];rw[<-hV] at U ⊢;clear hV
 generalize prW w a b A B C D E F ca cb cc cd ce cf (3*M)=W7 at *;clear hmk q1 q2 q3
 have HOB:Hid (∀ wr,W7.grownBy wr (some (V+6))->wr.heap[V+5]?=some (.cells #[(3*a.st*b.st),a.le,(),.slice (some ⟨V+6,0,none⟩) (3*M) (3*M),()] 31 (0,0))):=fun wr h=>
  (h.block (V+5) (by have:=U.o.size;omega) (by simp)).trans U.o.out
 gi_loopw [7,40] (fun _ v40 wr=>∃k:Nat,k<=M/\v40=(k:Int)/\Hid (zU wr (V+6) (mkG M k))/\Hid (W7.grownBy wr (some (V+6)))) (fun _ v40 _=>M-(intOf v40).toNat)
 case atStart=>exact⟨0,Nat.zero_le _,rfl,by show zU _ _ _;rw[zFU];exact U.o.row,World.grownBy.refl _ _⟩
 obtain⟨k,O,rfl,HR,HG⟩:=hrel
 by_cases hkM:k<M
 ·have q1:(k:Int)<(M:Int):=by omega
  obtain⟨z1,z2⟩:=HR.o.getD_ (i:=3*k+2) (by rw[zIY];omega) false
  obtain⟨_,_,_,c3,_,_,_,_,f3,_⟩:=zZ (HOB.o _ HG.o)
  have HR2:Hid (zU (wr.setCell ⟨V+6,3*k+2,none⟩ (.bool true)) (V+6) (mkG M (k+1))):=by
   show zU _ _ _;rw[zHh];exact HR.o.set_ (3*k+2) true
  have HG2:=hId (lB HG.o (aV wr (V+6) (3*k+2) (.bool true)));have HX:=hId hkM;have q4:3*(k:Int)+2<3*(M:Int):=by omega
  gi_wp2
  go_roundw
  case rel=>exact⟨k+1,HX.o,by go_num,HR2.o,HG2.o⟩
  case measure=>simp[intOf];have:=HX.o;omega
 have q1:¬(k:Int)<(M:Int):=by omega
 obtain rfl:k=M:=by omega
 rw[zIp] at HR
 have HN0:Hid (AuN (V+5) (V+5) (3*a.st*b.st) a.le [] (yS k) [] () (.slice (some ⟨V+6,0,none⟩) (3*k) (3*k)) () wr):=
  ⟨nLe,HOB.o _ HG.o,World.ownsRow_nil _ _ _ _,HR.o.ownR (by omega) (by simp[yS]) hNN,World.ownsRow_nil _ _ _ _⟩
 have HB0:Hid (Below (V+5) W7 wr):=bRf.grown HG.o (by have:=U.o.size;omega) (fun k O=>by simp at O;omega)
 clear HOB q1 O HR HG;obtain⟨w1,hw1⟩:∃w1:World,w1=wr:=⟨_,rfl⟩;rw[<-hw1] at HN0 HB0 ⊢;clear hw1 wr
 have HV:Hid (∀ wr,Below (V+5) W7 wr->yG wr V a A B C ca cb cc/\yG wr (V+1) b D E F cd ce cf/\cK wr (V+3) a b A B C D E F ca cb cc cd ce cf/\wr.cell? ⟨V+4,0,none⟩=some (.pointer (some ⟨V+3,0,none⟩))/\zM wr 0 a A B C ca cb cc/\zM wr 0 b D E F cd ce cf):=fun wr h=>by
  have hs:=U.o.size;have hv:=U.o.v;have h5:wr.heap[V+4]?=some (.cells #[(⟨V+3,0,none⟩:Addr)] 154 (0,0)):=(h.block (V+4) (by omega)).trans U.o.pp
  have hbw:Below w w wr:=U.o.below.trans (h.mono (by omega))
  exact⟨U.o.at1.below h (by omega),U.o.at2.below h (by omega),U.o.pr.below h (by omega),by simp[World.cell?,h5],HRA.o.below hbw,HRB.o.below hbw⟩
 have hfl:a.fs.length<=1000000:=by have:=HFA.o.fs_le;have:=HNA.o;omega
 have hfl2:b.fs.length<=1000000:=by have:=HFB.o.fs_le;have:=HNB.o;omega
 have HFL:Hid (∀ i,i<=a.fs.length->(rP a b i).length<=1000000):=fun i hi=>by
  rw[iZ a b i hi];have J:=HFA.o.fs_le;have h2:=HFB.o.fs_le;rw[HNA.o] at J;rw[HNB.o] at h2;have:=HMM.o;have:i*b.fs.length<=NA*NB:=Nat.mul_le_mul (by omega) (by omega)
  omega
 obtain⟨⟨_,c0,c1,c2,c3,c4⟩,-,-,-,hra,hrb⟩:=HV.o _ HB0.o;have fle:=hra.fs.le;have fle2:=hrb.fs.le;clear hra hrb
 gi_wp2
 gi_loopw [9,53] (fun _ v53 wr=>∃(i:Nat) (fv:Value),i<=a.fs.length/\v53=(i:Int)/\Hid (AuN (V+5) (V+5) (3*a.st*b.st) a.le (rP a b i) (yS k) [] fv (.slice (some ⟨V+6,0,none⟩) (3*k) (3*k)) () wr)/\Hid (Below (V+5) W7 wr)) (fun _ v53 _=>a.fs.length-(intOf v53).toNat)
 case atStart=>exact⟨0,_,Nat.zero_le _,rfl,HN0.o,HB0.o⟩
 obtain⟨i,fv,hi,rfl,HN,HB⟩:=hrel;obtain⟨⟨_,c0,c1,c2,c3,c4⟩,⟨_,d0,d1,d2,d3,d4⟩,-,-,hra,hrb⟩:=HV.o _ HB.o
 by_cases hif:i<a.fs.length
 ·have q1:(i:Int)<(a.fs.length:Int):=by omega
  obtain⟨ab,ao,rfl,_,_,y0⟩:=zE.at_ hra.fs hif;have HX:=hId hif;have HXR:=hId (HFA.o.fr _ (List.getElem_mem hif));have HFS:=hId (zAr a b hif)
  revert y0 HXR HFS
  generalize a.fs[i]=x;intro y0 HXR HFS;clear hra hrb
  gi_wp2
  gi_loopw [11,60] (fun _ v60 wr=>∃(j:Nat) (fv:Value),j<=b.fs.length/\v60=(j:Int)/\Hid (AuN (V+5) (V+5) (3*a.st*b.st) a.le (rP a b i++(b.fs.take j).map fun y=>qK b x y 0) (yS k) [] fv (.slice (some ⟨V+6,0,none⟩) (3*k) (3*k)) () wr)/\Hid (Below (V+5) W7 wr)) (fun _ v60 _=>b.fs.length-(intOf v60).toNat)
  case atStart=>exact⟨0,fv,Nat.zero_le _,rfl,by show AuN _ _ _ _ _ _ _ _ _ _ _;rw[List.take_zero,List.map_nil,List.append_nil];exact HN.o,HB.o⟩
  clear c0 c1 c2 c3 c4 d0 d1 d2 d3 d4 y0 HN HB;obtain⟨j,fv,hj,rfl,HN,HB⟩:=hrel;obtain⟨⟨_,c0,c1,c2,c3,c4⟩,⟨_,d0,d1,d2,d3,d4⟩,hpr,N,hra,hrb⟩:=HV.o _ HB.o
  by_cases hjf:j<b.fs.length
  ·have q2:(j:Int)<(b.fs.length:Int):=by omega
   obtain⟨bb,bo,rfl,_,_,y1⟩:=zE.at_ hrb.fs hjf;have hdw:Below wr wr wr.drew:=bRf.drew;have HND:=hId (HN.o.on hdw);obtain⟨-,-,hpr,N,-,-⟩:=HV.o wr.drew (zA HB.o hdw (by have:=HN.o.lt;omega))
   have HX2:=hId hjf;have HYR:=hId (HFB.o.fr _ (List.getElem_mem hjf))
   have HLS:Hid (rP a b i++(b.fs.take (j+1)).map (fun y=>qK b x y 0)=(rP a b i++(b.fs.take j).map fun y=>qK b x y 0)++[qK b x b.fs[j] 0]):=by show _=_;rw[List.take_succ_eq_append_getElem hjf,List.map_append,List.append_assoc];rfl
   have HLL:Hid ((rP a b i++(b.fs.take j).map fun y=>qK b x y 0).length<=2000000):=by
    have J:=HFL.o i hi;show _<=_;rw[List.length_append,List.length_map,List.length_take];omega
   revert y1 HYR HLS
   generalize b.fs[j]=y;intro y1 HYR HLS;clear hra hrb c0 c1 c2 c3 c4 d0 d1 d2 d3 d4
   gi_wp2
   clear y1;generalize rP a b i++(b.fs.take j).map (fun y=>qK b x y 0)=fl at *
   obtain⟨T,c,rfl,hlc,hcm,T3,c3,w3,hrun,q4,f4,hgr,hNN3,hBB3⟩:=HND.o.appF (qK b x y 0) (Nat.le_trans HLL.o (by decide))
   obtain⟨_,_,g2,_,_,_⟩:=zZ HND.o.obj;have hal:Below wr.drew.heap.size wr.drew (wr.drew.alloc (.cells #[(qK b x y 0)] 3)):=bLa;have hG5:V+5<wr.drew.heap.size:=HND.o.lt
   have hb3:Below (V+5) wr.drew w3:=(hal.mono (Nat.le_of_lt hG5)).grown hgr (by have:=hal.size;omega) (fun k O=>(HND.o.f.lt k O).1)
   have HN3:=hId hNN3;have HB3:Hid (Below (V+5) W7 (w3.setCell ⟨V+5,2,none⟩ (.slice T3 (fl.length+1) c3))):=(zA HB.o hdw (by have:=HN.o.lt;omega)).trans hBB3
   have g25:(wr.drew.alloc (.cells #[(qK b x y 0)] 3)).cell? ⟨V+5,2,none⟩=some (.slice T fl.length c):=(hal.cell (p:=⟨V+5,2,none⟩) hG5).trans g2
   have hpp5:(wr.drew.alloc (.cells #[(qK b x y 0)] 3)).cell? ⟨V+4,0,none⟩=some (.pointer (some ⟨V+3,0,none⟩)):=(hal.cell (p:=⟨V+4,0,none⟩) (show V+4<_ by omega)).trans N
   have hpr5:=hpr.below hal (by omega)
   have hpp3:w3.cell? ⟨V+4,0,none⟩=some (.pointer (some ⟨V+3,0,none⟩)):=(hb3.cell (p:=⟨V+4,0,none⟩) (show V+4<_ by omega)).trans N
   have hpr3:=hpr.below hb3 (by omega)
   have HRUN:=hId hrun;clear hNN3 hBB3 hrun hgr hb3 hal
   refine xK (fun w'=>w'.cell? ⟨V+5,2,none⟩=some (.slice T fl.length c)/\w'.cell? ⟨V+4,0,none⟩=some (.pointer (some ⟨V+3,0,none⟩))/\cK w' (V+3) a b (some ⟨ab,ao,none⟩) B C (some ⟨bb,bo,none⟩) E F ca cb cc cd ce cf) 9 (by kernel_rfl) ?_
   refine tZ 0 ?v0 ?hy0 ⟨g2,N,hpr⟩ ?rest0
   case hy0=>(intro w' d;obtain⟨h0,J,h2⟩:=d;go_simp;(try with_reducible rfl))
   (try simp only[lAy])
   refine tZ 1 ?v1 ?hy1 ⟨g2,N,hpr⟩ ?rest1
   case hy1=>(intro w' d;obtain⟨h0,J,h2⟩:=d;go_simp;(try with_reducible rfl))
   (try simp only[lAy])
   refine tZ 2 ?v2 ?hy2 ⟨g2,N,hpr⟩ ?rest2
   case hy2=>(intro w' d;obtain⟨h0,J,h2⟩:=d;go_simp;(try with_reducible rfl))
   (try simp only[lAy])
   refine tZ 3 ?v3 ?hy3 ⟨g2,N,hpr⟩ ?rest3
   case hy3=>(intro w' d;obtain⟨h0,J,h2⟩:=d;go_simp;(try with_reducible rfl))
   (try simp only[lAy])
   refine tZ 4 ?v4 ?hy4 ⟨g2,N,hpr⟩ ?rest4
   case hy4=>(intro w' d;obtain⟨h0,J,h2⟩:=d;go_simp;(try with_reducible rfl))
   (try simp only[lAy])
   refine xT (i:=5) (v:=.int .i64 (qK b x y 0)) rfl (by kernel_rfl) (by kernel_rfl) (by kernel_rfl) (by kernel_rfl) (by kernel_rfl) (by kernel_rfl) (fun _ _ _ h=>h) (qW (f:=104) (args:=#[.pointer (some ⟨V+3,0,none⟩),.int .i64 x,.int .i64 y,.int .i64 0]) (fun _ _ _ _=>trivial) (by rfl) ?hx5 (fun h=>(by cases h)) ?hc5) ⟨g2,N,hpr⟩ ?rest5
   case hx5=>(intro w';go_simp;(try with_reducible rfl))
   case hc5=>(intro w' d;exact(callsIn_wide.2 (zA3 a b (some ⟨ab,ao,none⟩) B C (some ⟨bb,bo,none⟩) E F ca cb cc cd ce cf (V+3) x y 0 w' d.2.2 HXR.o.1 (by have:=HXR.o.2;have:=HNA.o;omega) HYR.o.1 (by have:=HYR.o.2;have:=HNB.o;omega) (by omega) (by omega) hst2 (by have:=HNB.o;omega))).mono (fun e w'' h=>⟨h.1,h.2.symm⟩))
   (try simp only[lAy])
   refine zI (i:=6) rfl (by kernel_rfl) rfl (fun K hK=>?_)
   go_simp
   refine hK.out _ _ (.inr ⟨g25,hpp5,hpr5⟩) ?_;clear hK K
   (try simp only[lAy])
   refine zI (i:=7) rfl (by kernel_rfl) rfl (fun K hK=>?_)
   refine pF (.tmp 65) (.tmp 70) _ _ rfl (.slice T fl.length c) (.slice (some ⟨wr.drew.heap.size,0,none⟩) 1 1) (.slice T3 (fl.length+1) c3) (by go_simp) (by go_simp) HRUN.o ?_
   refine hK.out _ _ (.inr ⟨q4,hpp3,hpr3⟩) ?_;clear hK K
   (try simp only[lAy])
   refine tZ 8 ?v8 ?hy8 ⟨q4,hpp3,hpr3⟩ ?rest8
   case hy8=>(intro w' d;obtain⟨h0,J,h2⟩:=d;go_simp;(try with_reducible rfl))
   (try simp only[lAy])
   refine zI (i:=9) rfl (by kernel_rfl) rfl (fun K hK=>?_)
   go_simp
   refine hK.out _ _ (.inl rfl) ?_;clear hK K;refine xL (by kernel_rfl) (xB ?_) _
   gi_wp2
   go_roundw
   case rel=>exact⟨j+1,_,HX2.o,by go_num,by show AuN _ _ _ _ _ _ _ _ _ _ _;rw[HLS.o];exact HN3.o,HB3.o⟩
   case measure=>simp[intOf];have:=HX2.o;omega
  have q2:¬(j:Int)<(b.fs.length:Int):=by omega
  obtain rfl:j=b.fs.length:=by omega
  have HN2:Hid (AuN (V+5) (V+5) (3*a.st*b.st) a.le (rP a b (i+1)) (yS k) [] fv (.slice (some ⟨V+6,0,none⟩) (3*k) (3*k)) () wr):=by
   have:=HN.o;rw[List.take_length] at this;show AuN _ _ _ _ _ _ _ _ _ _ _;rw[HFS.o];exact this
  clear hra hrb hpr N c0 c1 c2 c3 c4 d0 d1 d2 d3 d4
  gi_wp2
  go_roundw
  case rel=>exact⟨i+1,fv,HX.o,by go_num,HN2.o,HB.o⟩
  case measure=>simp[intOf];have:=HX.o;omega
 have q1:¬(i:Int)<(a.fs.length:Int):=by omega
 obtain rfl:i=a.fs.length:=by omega
 rw[zCv] at HN;clear hra hrb HN0 HB0 HFL;have HFB2:Hid (Calls Tryz.prog 50 _ wr _):=zCq b D E F cd ce cf wr
 gi_wp2
 refine⟨trivial,?_⟩;refine(callsIn_wide.2 HFB2.o).mono ?_;rintro e w5 ⟨VB,rfl,hVl,hVA,hb5⟩;have hba:Below w5 w5 (w5.alloc (.cells #[.func (.func 89) #[] #[(⟨VB,0,none⟩:Addr)]] 84)):=bLa
 clear c0 c1 c2 c3 c4 d0 d1 d2 d3 d4;obtain⟨⟨_,c0,c1,c2,c3,c4⟩,-,-,-,-,-⟩:=HV.o w5 (zA HB.o hb5 (by have:=HN.o.lt;omega))
 gi_wp2
 obtain⟨X,hX⟩:∃X,X=w5.heap.size:=⟨_,rfl⟩;have hw15:Below wr wr (w5.alloc (.cells #[.func (.func 89) #[] #[(⟨VB,0,none⟩:Addr)]] 84)):=zA hb5 hba hb5.size;have hs7:=U.o.size
 have hs0:kX V [] [V+5] wr:=HN.o.sane (by omega) (fun k O=>by cases O)
 have HN5:=hId (HN.o.on hw15);have HB5:Hid (Below (V+5) W7 (w5.alloc (.cells #[.func (.func 89) #[] #[(⟨VB,0,none⟩:Addr)]] 84))):=zA HB.o hw15 (by have:=HN.o.lt;omega)
 have HAB:=hId (hVA.below hba hVA.lt);have HGB:Hid (yC V [] [V+5] (w5.alloc (.cells #[.func (.func 89) #[] #[(⟨VB,0,none⟩:Addr)]] 84)) VB):=yC.new hs0 hw15 hVl (Nat.lt_of_lt_of_le hVA.lt hba.size)
 have HGX:Hid (yC V [] [V+5] (w5.alloc (.cells #[.func (.func 89) #[] #[(⟨VB,0,none⟩:Addr)]] 84)) X):=yC.new hs0 hw15 (by rw[hX];exact hb5.size) (by rw[hX];simp)
 have HCX:Hid ((w5.alloc (.cells #[.func (.func 89) #[] #[(⟨VB,0,none⟩:Addr)]] 84)).cell? ⟨X,0,none⟩=some (.func (.func 89) #[] #[(⟨VB,0,none⟩:Addr)])):=by
  show _=_;rw[hX];go_simp
 rw[<-hX];clear hX hw15 hs0 hVA hVl hba hb5 HN HB HFB2 c0 c1 c2 c3 c4;generalize w5.alloc (.cells #[.func (.func 89) #[] #[(⟨VB,0,none⟩:Addr)]] 84)=W5 at *
 refine wpIn_loop_ghost (fun n aa W=>∃(x:Nat) (ds:List Deferred) (sv v13 v14 v15 v16 v17 v88 v89 v96:Value),n+x=NA/\FrP V (.pointer (some ⟨X,0,none⟩)) v13 v14 v15 v16 v17 a.st (.int .i64 (x:Int)) v88 v89 v96 ds aa/\
  Hid (AuN (V+5) (V+5) (3*a.st*b.st) a.le (yR a b) (yS k) (rX a b x) fv (.slice (some ⟨V+6,0,none⟩) (3*k) (3*k)) sv W)/\Hid (Off V [] [V+5] W5 W)/\Hid (vI V [] [V+5] W ds)) NA
  ⟨0,[],_,_,_,_,_,_,_,_,_,rfl,FrP.mk rfl,HN5.o,Off.refl (HN5.o.sane (by omega) (fun k O=>by cases O)),vI.nil _ _ _ _⟩ ?_
 rintro n aa wq ⟨x,ds,sv,v13,v14,v15,v16,v17,v88,v89,v96,hn,hfr,HN,HO,HMK⟩;obtain⟨u,rfl⟩:=hfr;unfold frT;have HBW:Hid (Below (V+5) W7 wq):=HB5.o.trans (HN5.o.below_off HO.o (fun k O=>by cases O))
 obtain⟨⟨_,c0,c1,c2,c3,c4⟩,-,-,-,-,-⟩:=HV.o wq HBW.o
 by_cases hx:x<NA
 ·have q1:(x:Int)<a.st:=by have:=HNA.o;omega
  gi_wp2
  have hba:Below wq wq (wq.alloc (.cells #[(x:Int)] 3)):=bLa
  have hdw:Below (wq.alloc (.cells #[(x:Int)] 3)).heap.size (wq.alloc (.cells #[(x:Int)] 3)) (wq.alloc (.cells #[(x:Int)] 3)).drew:=bRf.drew
  have hbd:=zA hba hdw hba.size;obtain⟨Xx,hXx⟩:∃Xx,Xx=wq.heap.size:=⟨_,rfl⟩;have hcx:(wq.alloc (.cells #[(x:Int)] 3)).drew.cell? ⟨Xx,0,none⟩=some (.int .i64 (x:Int)):=by rw[hXx];go_simp
  have hxl:Xx<(wq.alloc (.cells #[(x:Int)] 3)).drew.heap.size:=by rw[hXx];simp
  have hlq:=HN.o.lt;obtain⟨hA6,-,-,-,-,-⟩:=HV.o _ (zA HBW.o hbd (by omega))
  have HBD:=hId hbd;have HXX:=hId hXx;rw[<-hXx];clear hba hdw hbd hXx c0 c1 c2 c3 c4;refine xK (fun w'=>yG w' V a A B C ca cb cc/\w'.cell? ⟨Xx,0,none⟩=some (.int .i64 (x:Int))) 3 (by kernel_rfl) ?_
  generalize (wq.alloc (.cells #[(x:Int)] 3)).drew=W6 at *;refine tZ 0 ?v0b ?hy0b ⟨hA6,hcx⟩ ?rest0b
  case hy0b=>(intro w' d;obtain⟨⟨_,h0,J,h2,h3,h4⟩,h5⟩:=d;go_simp;(try with_reducible rfl))
  (try simp only[lAy])
  refine tZ 2 ?v2b ?hy2b ⟨hA6,hcx⟩ ?rest2b
  case hy2b=>(intro w' d;obtain⟨⟨_,h0,J,h2,h3,h4⟩,h5⟩:=d;go_simp;(try with_reducible rfl))
  (try simp only[lAy])
  refine zI (i:=1) rfl (by kernel_rfl) rfl (fun K hK=>?_)
  refine vJ (f:=50) (args:=#[.agg #[.int .i64 a.st,.int .i64 a.le,.slice A a.fs.length ca,.slice B a.gs.length cb,.slice C a.ss.length cc]]) (by go_simp;(try with_reducible rfl)) (fun _ h=>by cases h) (fun _=>trivial) (fun h=>(by cases h)) ?_
  refine(callsIn_wide.2 (zCq a A B C ca cb cc W6)).mono ?_;rintro e w7 ⟨VA,rfl,hVl,hVA,hb7⟩;refine⟨_,rfl,?_⟩;have hcx7:=(hb7.cell (p:=⟨Xx,0,none⟩) hxl).trans hcx;have hA7:=hA6.below hb7 hA6.lt
  refine hK.out _ _ (.inr ⟨hA7,hcx7⟩) ?_;clear hK K
  (try simp only[lAy])
  refine zI (i:=3) rfl (by kernel_rfl) rfl (fun K hK=>?_)
  refine vJ (f:=89) (args:=#[.int .i64 (x:Int),.pointer (some ⟨VA,0,none⟩)]) (by go_simp;(try with_reducible rfl)) (fun _ h=>by cases h) (fun _=>trivial) (fun h=>(by cases h)) ?_
  have hbq7:=zA HBD.o hb7 HBD.o.size;refine(callsIn_wide.2 (zCg a A B C ca cb cc VA (x:Int) w7 hVA (HV.o w7 (zA HBW.o hbq7 (by omega))).2.2.2.2.1.ss HFA.o.so hsa)).mono ?_
  rintro e w8 ⟨X3,Y3,i3,rfl,hX3,hY3,hS3,hLB3,hb8⟩;refine⟨_,rfl,?_⟩;refine hK.out _ _ (.inl rfl) ?_;clear hK K
  (try simp only[lAy])
  refine xL (by kernel_rfl) (xB ?_) _
  have hq8:Below wq wq w8:=zA hbq7 hb8 hbq7.size
  have hsq:kX V [] [V+5] wq:=HO.o.sane
  have hs7:=U.o.size;have HN8:=hId (HN.o.on hq8);have HO8:=hId (HO.o.trans (Off.of_below hsq hq8));have HB8:Hid (Below (V+5) W7 w8):=zA HBW.o hq8 (by omega)
  have hVA8:=hVA.below hb8 hVA.lt;have h67:=HBD.o.size;have HGVA:Hid (yC V [] [V+5] w8 VA):=yC.new hsq hq8 (Nat.le_trans h67 hVl) hVA8.lt
  have HGX3:Hid (yC V [] [V+5] w8 X3):=yC.new hsq hq8 (Nat.le_trans hbq7.size hX3) hS3.lx
  have HGY3:Hid (yC V [] [V+5] w8 Y3):=yC.new hsq hq8 (Nat.le_trans hbq7.size hY3) hS3.ly
  have HKx:Hid (Kc V (V+5) w8 Xx 0 (.int .i64 (x:Int))):=⟨yC.new hsq hq8 (by have:=HXX.o;omega) (Nat.lt_of_lt_of_le hxl (Nat.le_trans hb7.size hb8.size)),(hb8.cell (p:=⟨Xx,0,none⟩) (Nat.lt_of_lt_of_le hxl hb7.size)).trans ((hb7.cell (p:=⟨Xx,0,none⟩) hxl).trans hcx)⟩
  have HKX:Hid (Kc V (V+5) w8 X 0 (.func (.func 89) #[] #[(⟨VB,0,none⟩:Addr)])):=Kc.off ⟨HGX.o,HCX.o⟩ HO8.o
  have HAB8:=hId (HAB.o.off HGB.o HO8.o);have HGB8:=hId (HGB.o.off HO8.o);have HMK8:=hId (HMK.o.off (Off.of_below hsq hq8))
  have nb8:∀k,yC V [] [V+5] w8 k->¬Bad [w8.heap.size+1] [V+5] w8 k:=fun k O h=>h.of_cons.elim (fun h=>by have:=O.lt;omega) O.not
  have hG8:V+5<w8.heap.size:=HN8.o.lt
  have hv:=U.o.v
  have hsq8:=pP a A B C ca cb cc VA X3 Y3 i3 (x:Int) [w8.heap.size+1] [V+5] w w8 hVA8 (nb8 _ HGVA.o) HRA.o.ss (U.o.below.trans (HB8.o.mono (by omega))) hS3.x hS3.y hS3.lx hS3.ly (fun k O=>by rw[List.mem_singleton.1 O];exact hG8) (nb8 _ HGX3.o) (nb8 _ HGY3.o) HFA.o.so hsa hLB3 11 (by omega)
  rw[<-hv] at hsq8;have HSQ:=hId hsq8;clear hv hsq8 hVA8 hS3 hLB3 hb8 hb7 hVA hVl hcx7 hA7 hA6 hcx hxl hq8 hsq hbq7 hX3 hY3 h67 hlq HXX HBD HN
  gi_wp2
  refine wF (gf:=93) (lb:=#[.pointer (some ⟨VA,0,none⟩),.pointer (some ⟨X3,0,none⟩),.pointer (some ⟨Y3,0,none⟩)]) (by omega) rfl (enters_of Tryz.func93 (by kernel_rfl) rfl)
   HSQ.o
   (fun J h2=>J.trans h2) ?kb ?sane bRf (fun _=>rfl)
   (fun h7 W'=>(∃ sv,Hid (AuN (V+5) (V+5) (3*a.st*b.st) a.le (yR a b) (yS k) (rX a b x++rS a b h7) fv (.slice (some ⟨V+6,0,none⟩) (3*k) (3*k)) sv W'))/\Hid (Off V [] [V+5] w8 W'))
   (fun _ _ _=>False)
   ?hI ?hIx ?h0
   (fun s a' W'=>∃Yb,kX V [] [V+5] W'/\yC V [] [V+5] W' Yb/\W'.heap[Yb]?=some (.cells #[s.f,s.l,s.t] 80)/\FrP V (.pointer (some ⟨X,0,none⟩)) (.pointer (some ⟨Xx,0,none⟩)) (.pointer (some ⟨Yb,0,none⟩)) v15 v16 v17 a.st (.int .i64 (x:Int)) v88 v89 v96 [] a')
   ?hAx ?assign ?body ?done ?stop
  case kb=>
   intro W' r r' h hs;exact Off.put hs (List.mem_cons_self ..) h rfl rfl
  case sane=>
   intro r;have J:Below w8 w8 ((w8.alloc (.deferred (some []))).alloc (.loop r)):=(bLa).alloc (by simp) _
   exact(Off.of_below HO8.o.sane J).sane.cons (by omega) (by simp)
  case hI=>
   rintro h7 A' B' rw⟨⟨sv',J⟩,h2⟩ hg hrw;exact⟨⟨sv',J.o.own hg (fun r hr=>(hrw r hr).2)⟩,h2.o.own (fun k O=>by rw[List.mem_singleton.1 O];exact hG8) hg hrw⟩
  case hIx=>exact fun _ s A' B' rw hs _ _=>hs.elim
  case h0=>exact⟨⟨sv,by show AuN (V+5) (V+5) (3*a.st*b.st) a.le (yR a b) (yS k) (rX a b x++rS a b []) fv (.slice (some ⟨V+6,0,none⟩) (3*k) (3*k)) sv w8;rw[show rX a b x++rS a b []=rX a b x from List.append_nil _];exact HN8.o⟩,Off.refl HO8.o.sane⟩
  case hAx=>
   rintro s a' _ A' B' rw⟨Yb,h0,J,h2,h3⟩ hg hrw;have hF:∀F∈[V+5],F<w8.heap.size:=fun k O=>by rw[List.mem_singleton.1 O];exact hG8
   refine⟨Yb,h0.own hF hg hrw,J.own hF h0 hg hrw,(hg.block Yb J.lt fun e=>?_).trans h2,h3⟩
   obtain⟨_,o',h4,h5⟩:=hrw _ e.symm;rw[h2] at h4;rw[<-Option.some.inj h4] at h5;cases h5
  case assign=>
   rintro l' h7 s W' KK ⟨⟨sv',HN'⟩,HO'⟩ hKK;have HKK:=hId hKK;have J:Below W' W' (W'.alloc (.cells #[s.f,s.l,s.t] 80)):=bLa;have HF1:=hId (Off.of_below HO'.o.sane J)
   have HG1:Hid (yC V [] [V+5] (W'.alloc (.cells #[s.f,s.l,s.t] 80)) W'.heap.size):=yC.new HO'.o.sane J nLe (by simp)
   have HB1:=hId J;clear hKK J
   gi_wp2
   exact HKK.o _ _ ((KeepsOthers.alloc _ _).from _) (KpO.of_below HB1.o) ⟨⟨sv',HN'.o.on HB1.o⟩,HO'.o.trans HF1.o⟩ ⟨W'.heap.size,HF1.o.sane,HG1.o,World.alloc_heap_new _ _,FrP.mk rfl⟩
  case body=>
   rintro l' h7 s a' W' hl' hrec ⟨⟨sv',HN'⟩,HO'⟩ ⟨Yb,hsn,hgd,hyb,hfr⟩ hpre;obtain⟨u2,rfl⟩:=hfr;unfold frT;have hG8':V+5<W'.heap.size:=HN'.o.lt
   have HB1:Hid (Below (V+5) W7 W'):=HB8.o.trans (HN8.o.below_off HO'.o (fun k O=>by cases O))
   have HKx1:=hId (HKx.o.off HO'.o);have HKX1:=hId (HKX.o.off HO'.o);have HAB1:=hId (HAB8.o.off HGB8.o HO'.o);have HGB1:=hId (HGB8.o.off HO'.o)
   have HKs1:Hid (Kc V (V+5) W' Yb 1 s.l):=⟨hgd,by simp[World.cell?,hyb]⟩
   have HKs2:Hid (Kc V (V+5) W' Yb 2 s.t):=⟨hgd,by simp[World.cell?,hyb]⟩
   have HPRE:Hid (h7++[s]<+:sfr a (x:Int)):=hpre
   obtain⟨hsa1,hsx⟩:=List.mem_filter.1 (hpre.subset (List.mem_append_right _ (List.mem_singleton.2 rfl)));have HSA:=hId (HFA.o.sr s hsa1);have HSX:Hid (s.f=(x:Int)):=by show _=_;simpa using hsx
   have HREC:=hId hrec;have HLL:=hId hl';obtain⟨-,⟨_,d0,d1,d2,d3,d4⟩,-,-,-,-⟩:=HV.o W' HB1.o;clear hsn hgd hyb hpre hsa1 hsx hrec hl' HSQ HGVA HGX3 HGY3 HMK8
   gi_wp2
   clear d0 d1 d2 d3 d4
   gi_loopw [89] (fun v89 wr=>∃(y:Nat) (sv:Value),y<=NB/\v89=(y:Int)/\Hid (AuN (V+5) (V+5) (3*a.st*b.st) a.le (yR a b) (yS k) (rX a b x++(rS a b h7++rY a b s y)) fv (.slice (some ⟨V+6,0,none⟩) (3*k) (3*k)) sv wr)/\Hid (Off V [] [V+5] W' wr)) (fun v89 _=>NB-(intOf v89).toNat)
   case atStart=>exact⟨0,sv',Nat.zero_le _,rfl,by show AuN (V+5) (V+5) (3*a.st*b.st) a.le (yR a b) (yS k) (rX a b x++(rS a b h7++rY a b s 0)) fv (.slice (some ⟨V+6,0,none⟩) (3*k) (3*k)) sv' W';rw[show rS a b h7++rY a b s 0=rS a b h7 from List.append_nil _];exact HN'.o,Off.refl HO'.o.sane⟩
   obtain⟨y,sw,hy,rfl,HNr,HOr⟩:=hrel
   by_cases hyb:y<NB
   ·have q2:(y:Int)<b.st:=by have:=HNB.o;omega
    have hba:Below wr wr (wr.alloc (.cells #[(y:Int)] 3)):=bLa
    have HBA:=hId hba;have HOA:=hId (HOr.o.trans (Off.of_below HOr.o.sane hba));have HNA2:=hId (HNr.o.on hba);have cX:=(HKX1.o.off HOA.o).2
    have HBr:Hid (Below (V+5) W7 (wr.alloc (.cells #[(y:Int)] 3))):=HB1.o.trans (HN'.o.below_off HOA.o (fun k O=>by cases O))
    have HCY:Hid (Kc V (V+5) (wr.alloc (.cells #[(y:Int)] 3)) wr.heap.size 0 (.int .i64 (y:Int))):=⟨yC.new HOr.o.sane hba nLe (by simp),by go_simp⟩
    clear hba
    gi_wp2
    refine⟨trivial,?_⟩;clear cX;obtain⟨Xy,hXy⟩:∃Xy,Xy=wr.heap.size:=⟨_,rfl⟩;rw[<-hXy] at HCY ⊢;clear hXy;generalize (wr.alloc (.cells #[(y:Int)] 3))=W2 at *
    refine(show CallsIn (Fence.wide.inRound l') _ _ _ _ _ (eO _ _ _ _ _ _ _ _ _ _) from callsIn_wide.2 (zCg b D E F cd ce cf VB (y:Int) W2 (HAB1.o.off HGB1.o HOA.o) (HV.o W2 HBr.o).2.2.2.2.2.ss HFB.o.so hsb)).mono ?_
    rintro e w9 ⟨X4,Y4,i4,rfl,hX4,hY4,hS4,hLB4,hb9⟩;have hF9:=Off.of_below HOA.o.sane hb9;have HO9:=hId (HOA.o.trans hF9);have HN9:=hId (HNA2.o.on hb9)
    have HB9:Hid (Below (V+5) W7 w9):=HB1.o.trans (HN'.o.below_off HO9.o (fun k O=>by cases O))
    have HKy:=hId (HCY.o.off hF9);have HGX4:Hid (yC V [] [V+5] w9 X4):=yC.new HOA.o.sane hb9 hX4 hS4.lx;have HGY4:Hid (yC V [] [V+5] w9 Y4):=yC.new HOA.o.sane hb9 hY4 hS4.ly;have HAB9:=hId (HAB1.o.off HGB1.o HO9.o)
    have HGB9:=hId (HGB1.o.off HO9.o);have nb9:∀k,yC V [] [V+5] w9 k->¬Bad [w9.heap.size] [V+5] w9 k:=fun k O h=>h.of_cons.elim (fun h=>by have:=O.lt;omega) O.not
    have hG9:V+5<w9.heap.size:=HN9.o.lt
    have hv:=U.o.v;have hs7:=U.o.size
    have hsq9:=pP b D E F cd ce cf VB X4 Y4 i4 (y:Int) [w9.heap.size] [V+5] w w9 HAB9.o (nb9 _ HGB9.o) HRB.o.ss (U.o.below.trans (HB9.o.mono (by omega))) hS4.x hS4.y hS4.lx hS4.ly (fun k O=>by rw[List.mem_singleton.1 O];exact hG9) (nb9 _ HGX4.o) (nb9 _ HGY4.o) HFB.o.so hsb hLB4 9 (by omega)
    rw[<-hv] at hsq9;have HSQ9:=hId hsq9
    have hrl:∃r,w9.heap[l']?=some (.loop r):=by
     obtain⟨r,hr⟩:=HREC.o;have hg:=HN'.o.good_obj (lo:=V) hr rfl;exact⟨r,(HO9.o.block l' hg.lt hg.not).trans hr⟩
    obtain⟨r0,hr0⟩:=hrl;clear hv hsq9 hS4 hLB4 hb9 hX4 hY4 hF9 hs7
    gi_wp2
    refine oM hr0 (gf:=93) (lb:=#[.pointer (some ⟨VB,0,none⟩),.pointer (some ⟨X4,0,none⟩),.pointer (some ⟨Y4,0,none⟩)]) (by omega) rfl (enters_of Tryz.func93 (by kernel_rfl) rfl)
     HSQ9.o
     (fun J h2=>J.trans h2) ?kb2 ?sane2 bRf (fun _=>rfl)
     (fun pre2 W''=>(∃ sv,Hid (AuN (V+5) (V+5) (3*a.st*b.st) a.le (yR a b) (yS k) (rX a b x++(rS a b h7++(rY a b s y++rT a b s pre2))) fv (.slice (some ⟨V+6,0,none⟩) (3*k) (3*k)) sv W''))/\Hid (Off V [] [V+5] w9 W''))
     (fun _ _ _=>False)
     ?hI2 ?hIx2 ?h02
     (fun t a' W''=>∃Yt,kX V [] [V+5] W''/\yC V [] [V+5] W'' Yt/\W''.heap[Yt]?=some (.cells #[t.f,t.l,t.t] 80)/\∃v17 v88 v89 v96,FrP V (.pointer (some ⟨X,0,none⟩)) (.pointer (some ⟨Xx,0,none⟩)) (.pointer (some ⟨Yb,0,none⟩)) (.pointer (some ⟨Xy,0,none⟩)) (.pointer (some ⟨Yt,0,none⟩)) v17 a.st (.int .i64 (x:Int)) v88 v89 v96 [] a')
     ?hAx2 ?assign2 ?body2 ?done2 ?stop2
    case kb2=>
     intro W' r r' h hs;exact Off.put hs (List.mem_cons_self ..) h rfl rfl
    case sane2=>
     intro r;have J:Below w9 w9 (w9.alloc (.loop r)):=bLa;exact(Off.of_below HO9.o.sane J).sane.cons (by omega) (by simp)
    case hI2=>
     rintro h7 A' B' rw⟨⟨sv',J⟩,h2⟩ hg hrw;exact⟨⟨sv',J.o.own hg (fun r hr=>(hrw r hr).2)⟩,h2.o.own (fun k O=>by rw[List.mem_singleton.1 O];exact hG9) hg hrw⟩
    case hIx2=>exact fun _ s A' B' rw hs _ _=>hs.elim
    case h02=>exact⟨⟨sw,by show AuN (V+5) (V+5) (3*a.st*b.st) a.le (yR a b) (yS k) (rX a b x++(rS a b h7++(rY a b s y++rT a b s []))) fv (.slice (some ⟨V+6,0,none⟩) (3*k) (3*k)) sw w9;rw[show rY a b s y++rT a b s []=rY a b s y from List.append_nil _];exact HN9.o⟩,Off.refl HO9.o.sane⟩
    case hAx2=>
     rintro t a' _ A' B' rw⟨Yt,h0,J,h2,h3⟩ hg hrw;have hF:∀F∈[V+5],F<w9.heap.size:=fun k O=>by rw[List.mem_singleton.1 O];exact hG9
     refine⟨Yt,h0.own hF hg hrw,J.own hF h0 hg hrw,(hg.block Yt J.lt fun e=>?_).trans h2,h3⟩
     obtain⟨_,o',h4,h5⟩:=hrw _ e.symm;rw[h2] at h4;rw[<-Option.some.inj h4] at h5;cases h5
    case assign2=>
     rintro l2 pre2 t W'' KK ⟨⟨sv2,HN2⟩,HO2⟩ hKK;have HKK:=hId hKK;have J:Below W'' W'' (W''.alloc (.cells #[t.f,t.l,t.t] 80)):=bLa;have HF1:=hId (Off.of_below HO2.o.sane J)
     have HG1:Hid (yC V [] [V+5] (W''.alloc (.cells #[t.f,t.l,t.t] 80)) W''.heap.size):=yC.new HO2.o.sane J nLe (by simp)
     have HB1:=hId J;clear hKK J
     gi_wp2
     exact HKK.o _ _ ((KeepsOthers.alloc _ _).from _) (KpO.of_below HB1.o) ⟨⟨sv2,HN2.o.on HB1.o⟩,HO2.o.trans HF1.o⟩ ⟨W''.heap.size,HF1.o.sane,HG1.o,World.alloc_heap_new _ _,_,_,_,_,FrP.mk rfl⟩
    case body2=>
     rintro l2 pre2 t a' W'' hl2 hrec2 ⟨⟨sv2,HN2⟩,HO2⟩ ⟨Yt,hsn2,hgd,hyt,v17,v88,v89,v96,hfr⟩ hpre2;obtain⟨u3,rfl⟩:=hfr;unfold frT;have hGw9:V+5<w9.heap.size:=hG9;have HO92:=hId (HO9.o.trans HO2.o)
     have HKx2:=hId (HKx1.o.off HO92.o);have HKs12:=hId (HKs1.o.off HO92.o);have HKs22:=hId (HKs2.o.off HO92.o);have HKy2:=hId (HKy.o.off HO2.o)
     have HKt1:Hid (Kc V (V+5) W'' Yt 1 t.l):=⟨hgd,by simp[World.cell?,hyt]⟩
     have HKt2:Hid (Kc V (V+5) W'' Yt 2 t.t):=⟨hgd,by simp[World.cell?,hyt]⟩
     have HPRE2:Hid (pre2++[t]<+:sfr b (y:Int)):=hpre2
     obtain⟨hta1,htx⟩:=List.mem_filter.1 (hpre2.subset (List.mem_append_right _ (List.mem_singleton.2 rfl)));have HTA:=hId (HFB.o.sr t hta1);have HTX:Hid (t.f=(y:Int)):=by show _=_;simpa using htx
     have HLEN:Hid (∀ z,z<=3->(sV a b x h7 s y pre2 t (z)).length<=100000000):=fun z hz=>Nat.le_trans (zH0 (by have:=HNA.o;omega) HPRE.o (by have:=HNB.o;omega) HPRE2.o hz) hsn
     have HXB:Hid ((x:Int)<=1000000/\(y:Int)<=1000000):=⟨by omega,by omega⟩
     clear hsn2 hgd hyt hpre2 hta1 htx hrec2 hl2 HSQ9 HGX4 HGY4 hr0
     gi_wp2
     gi_loopw [96] (fun v96 wr=>∃(z:Nat) (sv:Value),z<=3/\v96=(z:Int)/\Hid (AuN (V+5) (V+5) (3*a.st*b.st) a.le (yR a b) (yS k) (sV a b x h7 s y pre2 t (z)) fv (.slice (some ⟨V+6,0,none⟩) (3*k) (3*k)) sv wr)/\Hid (Off V [] [V+5] W'' wr)) (fun v96 _=>3-(intOf v96).toNat)
     case atStart=>exact⟨0,sv2,by omega,rfl,by show AuN (V+5) (V+5) (3*a.st*b.st) a.le (yR a b) (yS k) (sV a b x h7 s y pre2 t (0)) fv (.slice (some ⟨V+6,0,none⟩) (3*k) (3*k)) sv2 W'';unfold sV;rw[zDK,List.append_nil];exact HN2.o,Off.refl HO2.o.sane⟩
     obtain⟨z,sz,hz,rfl,HNz,HOz⟩:=hrel;have hs1:=(HKs12.o.off HOz.o).2;have ht1:=(HKt1.o.off HOz.o).2
     by_cases hz3:z<3
     ·have q3:(z:Int)<3:=by omega
      by_cases hst:s.l=t.l
      ·have hst1':(s.l==t.l)=true:=by simp[hst]
       have HTR:Hid (sV a b x h7 s y pre2 t (z+1)=sV a b x h7 s y pre2 t (z)++[(yE a b s t (z:Int))]):=by
        show _=_;unfold sV;rw[zDD hst];simp only[List.append_assoc]
       clear hst;have hdw:Below wr wr wr.drew:=bRf.drew;have HND:=hId (HNz.o.on hdw);have hOd:=HOz.o.trans (Off.of_below HOz.o.sane hdw);have HOD:=hId hOd
       have hBd:Below (V+5) W7 wr.drew:=HB9.o.trans (HN9.o.below_off (HO2.o.trans hOd) (fun k O=>by cases O))
       have HKX3:=hId (HKx2.o.off hOd);have HKY3:=hId (HKy2.o.off hOd);have HKS1:=hId (HKs12.o.off hOd);have HKS2:=hId (HKs22.o.off hOd);have HKT2:=hId (HKt2.o.off hOd);have hLz:=HLEN.o z hz
       gi_wp2
       generalize sV a b x h7 s y pre2 t (z)=cl at *;obtain⟨T,c,rfl,hlc,hcm,T3,c3,w3,hrun,q4,f4,hgr,hNN3,hOO3⟩:=HND.o.appSO (yE a b s t (z:Int)) (Nat.le_trans hLz (by decide))
       have hal:Below wr.drew.heap.size wr.drew (wr.drew.alloc (.cells #[.int .i64 (yE a b s t (z:Int)).f,.int .i64 (yE a b s t (z:Int)).l,.int .i64 (yE a b s t (z:Int)).t] 80)):=bLa
       have hG5:V+5<wr.drew.heap.size:=HND.o.lt
       have hb3:Below (V+5) wr.drew w3:=(hal.mono (Nat.le_of_lt hG5)).grown hgr (by have:=hal.size;omega) (fun k O=>(HND.o.s.lt k O).1)
       have k3:∀(k o:Nat) (v:Value),Kc V (V+5) wr.drew k o v->w3.cell? ⟨k,o,none⟩=some v:=fun k o v h=>
        (zP ((hgr.block k (Nat.lt_of_lt_of_le h.1.lt hal.size) (fun e=>h.1.not (HND.o.bad.2 (.inr (.inr (.inr (.inr e.symm))))))).trans (hal.block k h.1.lt)) o).trans h.2
       have k2:∀(k o:Nat) (v:Value),Kc V (V+5) wr.drew k o v->(wr.drew.alloc (.cells #[.int .i64 (yE a b s t (z:Int)).f,.int .i64 (yE a b s t (z:Int)).l,.int .i64 (yE a b s t (z:Int)).t] 80)).cell? ⟨k,o,none⟩=some v:=fun k o v h=>(zP (hal.block k h.1.lt) o).trans h.2
       obtain⟨_,_,_,_,g4,_⟩:=zZ HND.o.obj
       have HS1:Hid (Below (V+5) W7 wr.drew/\wr.drew.cell? ⟨V+5,4,none⟩=some (.slice T cl.length c)/\wr.drew.cell? ⟨Xx,0,none⟩=some (.int .i64 (x:Int))/\wr.drew.cell? ⟨Xy,0,none⟩=some (.int .i64 (y:Int))/\wr.drew.cell? ⟨Yb,1,none⟩=some (.int .i64 s.l)/\wr.drew.cell? ⟨Yb,2,none⟩=some (.int .i64 s.t)/\wr.drew.cell? ⟨Yt,2,none⟩=some (.int .i64 t.t)):=
        ⟨hBd,g4,HKX3.o.2,HKY3.o.2,HKS1.o.2,HKS2.o.2,HKT2.o.2⟩
       have HS2:Hid (Below (V+5) W7 (wr.drew.alloc (.cells #[.int .i64 (yE a b s t (z:Int)).f,.int .i64 (yE a b s t (z:Int)).l,.int .i64 (yE a b s t (z:Int)).t] 80))/\(wr.drew.alloc (.cells #[.int .i64 (yE a b s t (z:Int)).f,.int .i64 (yE a b s t (z:Int)).l,.int .i64 (yE a b s t (z:Int)).t] 80)).cell? ⟨V+5,4,none⟩=some (.slice T cl.length c)/\(wr.drew.alloc (.cells #[.int .i64 (yE a b s t (z:Int)).f,.int .i64 (yE a b s t (z:Int)).l,.int .i64 (yE a b s t (z:Int)).t] 80)).cell? ⟨Xx,0,none⟩=some (.int .i64 (x:Int))/\(wr.drew.alloc (.cells #[.int .i64 (yE a b s t (z:Int)).f,.int .i64 (yE a b s t (z:Int)).l,.int .i64 (yE a b s t (z:Int)).t] 80)).cell? ⟨Xy,0,none⟩=some (.int .i64 (y:Int))/\(wr.drew.alloc (.cells #[.int .i64 (yE a b s t (z:Int)).f,.int .i64 (yE a b s t (z:Int)).l,.int .i64 (yE a b s t (z:Int)).t] 80)).cell? ⟨Yb,1,none⟩=some (.int .i64 s.l)/\(wr.drew.alloc (.cells #[.int .i64 (yE a b s t (z:Int)).f,.int .i64 (yE a b s t (z:Int)).l,.int .i64 (yE a b s t (z:Int)).t] 80)).cell? ⟨Yb,2,none⟩=some (.int .i64 s.t)/\(wr.drew.alloc (.cells #[.int .i64 (yE a b s t (z:Int)).f,.int .i64 (yE a b s t (z:Int)).l,.int .i64 (yE a b s t (z:Int)).t] 80)).cell? ⟨Yt,2,none⟩=some (.int .i64 t.t)):=
        ⟨hBd.trans (hal.mono (Nat.le_of_lt hG5)),(hal.cell (p:=⟨V+5,4,none⟩) hG5).trans g4,k2 _ _ _ HKX3.o,k2 _ _ _ HKY3.o,k2 _ _ _ HKS1.o,k2 _ _ _ HKS2.o,k2 _ _ _ HKT2.o⟩
       have HS3:Hid (Below (V+5) W7 w3/\w3.cell? ⟨V+5,4,none⟩=some (.slice T cl.length c)/\w3.cell? ⟨Xx,0,none⟩=some (.int .i64 (x:Int))/\w3.cell? ⟨Xy,0,none⟩=some (.int .i64 (y:Int))/\w3.cell? ⟨Yb,1,none⟩=some (.int .i64 s.l)/\w3.cell? ⟨Yb,2,none⟩=some (.int .i64 s.t)/\w3.cell? ⟨Yt,2,none⟩=some (.int .i64 t.t)):=
        ⟨hBd.trans hb3,q4,k3 _ _ _ HKX3.o,k3 _ _ _ HKY3.o,k3 _ _ _ HKS1.o,k3 _ _ _ HKS2.o,k3 _ _ _ HKT2.o⟩
       have HN3:=hId hNN3;have HO3:Hid (Off V [] [V+5] W'' (w3.setCell ⟨V+5,4,none⟩ (.slice T3 (cl.length+1) c3))):=hOd.trans (hOO3 V [] (by omega) (fun k O=>by cases O))
       have HRUN:=hId hrun;have HPF:Hid ((yE a b s t (z:Int)).f=qK b (x:Int) (y:Int) (z:Int)):=by show qK b s.f t.f (z:Int)=_;rw[HSX.o,HTX.o]
       have HPT:Hid ((yE a b s t (z:Int)).t=qK b s.t t.t (qO a b (x:Int) (y:Int) (z:Int))):=by show qK b s.t t.t (qO a b s.f t.f (z:Int))=_;rw[HSX.o,HTX.o]
       have HPL:Hid ((yE a b s t (z:Int)).l=s.l):=rfl
       have HPW2:=hId (cU a b (x:Int) (y:Int) (z:Int) ⟨by omega,q3⟩)
       have HX:=hId hz3;obtain⟨ps,hps⟩:∃ps,ps=(yE a b s t (z:Int)):=⟨_,rfl⟩;rw[<-hps] at HPF HPT HPL HTR HRUN HN3 HS2;rw[HPF.o,HPT.o,HPL.o] at HS2 HRUN
       clear hps hs1 ht1 hrun hNN3 hOO3 hgr hb3 hal k2 k3 hOd hBd hdw g4 q4
       refine xK (fun w'=>Below (V+5) W7 w'/\w'.cell? ⟨V+5,4,none⟩=some (.slice T cl.length c)/\w'.cell? ⟨Xx,0,none⟩=some (.int .i64 (x:Int))/\w'.cell? ⟨Xy,0,none⟩=some (.int .i64 (y:Int))/\w'.cell? ⟨Yb,1,none⟩=some (.int .i64 s.l)/\w'.cell? ⟨Yb,2,none⟩=some (.int .i64 s.t)/\w'.cell? ⟨Yt,2,none⟩=some (.int .i64 t.t)) 24 (by kernel_rfl) ?_
       have m:=HS1.o;refine tZ 0 ?v0c ?hy0c m ?rest0c
       case hy0c=>(intro w' d;obtain⟨hb,J,h2,h3,h4,h5,h6⟩:=d;obtain⟨-,-,-,N,-,-⟩:=HV.o w' hb;go_simp;(try with_reducible rfl))
       (try simp only[lAy])
       refine tZ 1 ?v1c ?hy1c m ?rest1c
       case hy1c=>(intro w' d;obtain⟨hb,J,h2,h3,h4,h5,h6⟩:=d;obtain⟨-,-,-,N,-,-⟩:=HV.o w' hb;go_simp;(try with_reducible rfl))
       (try simp only[lAy])
       refine tZ 2 ?v2c ?hy2c m ?rest2c
       case hy2c=>(intro w' d;obtain⟨hb,J,h2,h3,h4,h5,h6⟩:=d;obtain⟨-,-,-,N,-,-⟩:=HV.o w' hb;go_simp;(try with_reducible rfl))
       (try simp only[lAy])
       refine tZ 3 ?v3c ?hy3c m ?rest3c
       case hy3c=>(intro w' d;obtain⟨hb,J,h2,h3,h4,h5,h6⟩:=d;obtain⟨-,-,-,N,-,-⟩:=HV.o w' hb;go_simp;(try with_reducible rfl))
       (try simp only[lAy])
       refine tZ 4 ?v4c ?hy4c m ?rest4c
       case hy4c=>(intro w' d;obtain⟨hb,J,h2,h3,h4,h5,h6⟩:=d;obtain⟨-,-,-,N,-,-⟩:=HV.o w' hb;go_simp;(try with_reducible rfl))
       (try simp only[lAy])
       refine tZ 5 ?v5c ?hy5c m ?rest5c
       case hy5c=>(intro w' d;obtain⟨hb,J,h2,h3,h4,h5,h6⟩:=d;obtain⟨-,-,-,N,-,-⟩:=HV.o w' hb;go_simp;(try with_reducible rfl))
       (try simp only[lAy])
       refine xT (i:=6) (v:=.int .i64 (qK b (x:Int) (y:Int) (z:Int))) rfl (by kernel_rfl) (by kernel_rfl) (by kernel_rfl) (by kernel_rfl) (by kernel_rfl) (by kernel_rfl) (fun _ _ _ h=>h) (qW (f:=104) (args:=#[.pointer (some ⟨V+3,0,none⟩),.int .i64 (x:Int),.int .i64 (y:Int),.int .i64 (z:Int)]) (fun _ _ _ _=>trivial) (by rfl) ?hx6c (fun h=>(by cases h)) ?hc6c) m ?rest6c
       case hx6c=>(intro w';go_simp;(try with_reducible rfl))
       case hc6c=>(intro w' d;exact(show CallsIn (Fence.wide.inRound l2) _ _ _ _ _ (fun e w''=>e=.returned (.int .i64 (qK b (x:Int) (y:Int) (z:Int)))/\w'=w'') from callsIn_wide.2 (zA3 a b A B C D E F ca cb cc cd ce cf (V+3) (x:Int) (y:Int) (z:Int) w' (HV.o w' d.1).2.2.1 (by omega) HXB.o.1 (by omega) HXB.o.2 (by omega) (by omega) hst2 (by have:=HNB.o;omega))).mono (fun e w'' h=>⟨h.1,h.2.symm⟩))
       (try simp only[lAy])
       refine tZ 7 ?v7c ?hy7c m ?rest7c
       case hy7c=>(intro w' d;obtain⟨hb,J,h2,h3,h4,h5,h6⟩:=d;obtain⟨-,-,-,N,-,-⟩:=HV.o w' hb;go_simp;(try with_reducible rfl))
       (try simp only[lAy])
       refine tZ 8 ?v8c ?hy8c m ?rest8c
       case hy8c=>(intro w' d;obtain⟨hb,J,h2,h3,h4,h5,h6⟩:=d;obtain⟨-,-,-,N,-,-⟩:=HV.o w' hb;go_simp;(try with_reducible rfl))
       (try simp only[lAy])
       refine tZ 9 ?v9c ?hy9c m ?rest9c
       case hy9c=>(intro w' d;obtain⟨hb,J,h2,h3,h4,h5,h6⟩:=d;obtain⟨-,-,-,N,-,-⟩:=HV.o w' hb;go_simp;(try with_reducible rfl))
       (try simp only[lAy])
       refine tZ 10 ?v10c ?hy10c m ?rest10c
       case hy10c=>(intro w' d;obtain⟨hb,J,h2,h3,h4,h5,h6⟩:=d;obtain⟨-,-,-,N,-,-⟩:=HV.o w' hb;go_simp;(try with_reducible rfl))
       (try simp only[lAy])
       refine tZ 11 ?v11c ?hy11c m ?rest11c
       case hy11c=>(intro w' d;obtain⟨hb,J,h2,h3,h4,h5,h6⟩:=d;obtain⟨-,-,-,N,-,-⟩:=HV.o w' hb;go_simp;(try with_reducible rfl))
       (try simp only[lAy])
       refine tZ 12 ?v12c ?hy12c m ?rest12c
       case hy12c=>(intro w' d;obtain⟨hb,J,h2,h3,h4,h5,h6⟩:=d;obtain⟨-,-,-,N,-,-⟩:=HV.o w' hb;go_simp;(try with_reducible rfl))
       (try simp only[lAy])
       refine tZ 13 ?v13c ?hy13c m ?rest13c
       case hy13c=>(intro w' d;obtain⟨hb,J,h2,h3,h4,h5,h6⟩:=d;obtain⟨-,-,-,N,-,-⟩:=HV.o w' hb;go_simp;(try with_reducible rfl))
       (try simp only[lAy])
       refine tZ 14 ?v14c ?hy14c m ?rest14c
       case hy14c=>(intro w' d;obtain⟨hb,J,h2,h3,h4,h5,h6⟩:=d;obtain⟨-,-,-,N,-,-⟩:=HV.o w' hb;go_simp;(try with_reducible rfl))
       (try simp only[lAy])
       refine tZ 15 ?v15c ?hy15c m ?rest15c
       case hy15c=>(intro w' d;obtain⟨hb,J,h2,h3,h4,h5,h6⟩:=d;obtain⟨-,-,-,N,-,-⟩:=HV.o w' hb;go_simp;(try with_reducible rfl))
       (try simp only[lAy])
       refine tZ 16 ?v16c ?hy16c m ?rest16c
       case hy16c=>(intro w' d;obtain⟨hb,J,h2,h3,h4,h5,h6⟩:=d;obtain⟨-,-,-,N,-,-⟩:=HV.o w' hb;go_simp;(try with_reducible rfl))
       (try simp only[lAy])
       refine tZ 17 ?v17c ?hy17c m ?rest17c
       case hy17c=>(intro w' d;obtain⟨hb,J,h2,h3,h4,h5,h6⟩:=d;obtain⟨-,-,-,N,-,-⟩:=HV.o w' hb;go_simp;(try with_reducible rfl))
       (try simp only[lAy])
       refine xT (i:=18) (v:=.int .i64 (qO a b (x:Int) (y:Int) (z:Int))) rfl (by kernel_rfl) (by kernel_rfl) (by kernel_rfl) (by kernel_rfl) (by kernel_rfl) (by kernel_rfl) (fun _ _ _ h=>h) (qW (f:=105) (args:=#[.pointer (some ⟨V+3,0,none⟩),.int .i64 (x:Int),.int .i64 (y:Int),.int .i64 (z:Int)]) (fun _ _ _ _=>trivial) (by rfl) ?hx18c (fun h=>(by cases h)) ?hc18c) m ?rest18c
       case hx18c=>(intro w';go_simp;(try with_reducible rfl))
       case hc18c=>(intro w' d;exact(show CallsIn (Fence.wide.inRound l2) _ _ _ _ _ (fun e w''=>e=.returned (.int .i64 (qO a b (x:Int) (y:Int) (z:Int)))/\w'=w'') from callsIn_wide.2 (zK0 a b A B C D E F ca cb cc cd ce cf (V+3) (x:Int) (y:Int) (z:Int) w' (HV.o w' d.1).2.2.1 (HV.o w' d.1).2.2.2.2.1.gs (HV.o w' d.1).2.2.2.2.2.gs (by omega) (by have:=HFA.o.gl;have:=HNA.o;omega) (by omega) (by have:=HFB.o.gl;have:=HNB.o;omega) (by omega) (by omega))).mono (fun e w'' h=>⟨h.1,h.2.symm⟩))
       (try simp only[lAy])
       refine xT (i:=19) (v:=.int .i64 (qK b s.t t.t (qO a b (x:Int) (y:Int) (z:Int)))) rfl (by kernel_rfl) (by kernel_rfl) (by kernel_rfl) (by kernel_rfl) (by kernel_rfl) (by kernel_rfl) (fun _ _ _ h=>h) (qW (f:=104) (args:=#[.pointer (some ⟨V+3,0,none⟩),.int .i64 s.t,.int .i64 t.t,.int .i64 (qO a b (x:Int) (y:Int) (z:Int))]) (fun _ _ _ _=>trivial) (by rfl) ?hx19c (fun h=>(by cases h)) ?hc19c) m ?rest19c
       case hx19c=>(intro w';go_simp;(try with_reducible rfl))
       case hc19c=>(intro w' d;exact(show CallsIn (Fence.wide.inRound l2) _ _ _ _ _ (fun e w''=>e=.returned (.int .i64 (qK b s.t t.t (qO a b (x:Int) (y:Int) (z:Int))))/\w'=w'') from callsIn_wide.2 (zA3 a b A B C D E F ca cb cc cd ce cf (V+3) (s.t) (t.t) (qO a b (x:Int) (y:Int) (z:Int)) w' (HV.o w' d.1).2.2.1 HSA.o.2.1.1 (by have:=HSA.o.2.1.2;have:=HNA.o;omega) HTA.o.2.1.1 (by have:=HTA.o.2.1.2;have:=HNB.o;omega) HPW2.o.1 (by have:=HPW2.o.2;omega) hst2 (by have:=HNB.o;omega))).mono (fun e w'' h=>⟨h.1,h.2.symm⟩))
       (try simp only[lAy])
       refine tZ 20 ?v20c ?hy20c m ?rest20c
       case hy20c=>(intro w' d;obtain⟨hb,J,h2,h3,h4,h5,h6⟩:=d;obtain⟨-,-,-,N,-,-⟩:=HV.o w' hb;go_simp;(try with_reducible rfl))
       (try simp only[lAy])
       refine zI (i:=21) rfl (by kernel_rfl) rfl (fun K hK=>?_)
       go_simp
       refine hK.out _ _ (.inr HS2.o) ?_;clear hK K
       (try simp only[lAy])
       refine zI (i:=22) rfl (by kernel_rfl) rfl (fun K hK=>?_)
       refine pF (.tmp 105) (.tmp 125) _ _ rfl (.slice T cl.length c) (.slice (some ⟨wr.drew.heap.size,0,none⟩) 1 1) (.slice T3 (cl.length+1) c3) (by go_simp) (by go_simp) HRUN.o ?_
       refine hK.out _ _ (.inr HS3.o) ?_;clear hK K
       (try simp only[lAy])
       refine tZ 23 ?v23c ?hy23c HS3.o ?rest23c
       case hy23c=>(intro w' d;obtain⟨hb,J,h2,h3,h4,h5,h6⟩:=d;obtain⟨-,-,-,N,-,-⟩:=HV.o w' hb;go_simp;(try with_reducible rfl))
       (try simp only[lAy])
       refine zI (i:=24) rfl (by kernel_rfl) rfl (fun K hK=>?_)
       have q44:=HS3.o.2.1;go_simp
       refine hK.out _ _ (.inl rfl) ?_;clear hK K;refine xL (by kernel_rfl) (xB ?_) _
       clear m
       gi_wp2
       go_roundw
       case rel=>exact⟨z+1,_,HX.o,by go_num,by show AuN (V+5) (V+5) (3*a.st*b.st) a.le (yR a b) (yS k) (sV a b x h7 s y pre2 t (z+1)) fv (.slice (some ⟨V+6,0,none⟩) (3*k) (3*k)) _ _;rw[HTR.o];exact HN3.o,HO3.o⟩
       case measure=>simp[intOf];have:=HX.o;omega
      have hst1':(s.l==t.l)=false:=by simp[hst]
      have HN3:Hid (AuN (V+5) (V+5) (3*a.st*b.st) a.le (yR a b) (yS k) (sV a b x h7 s y pre2 t (z+1)) fv (.slice (some ⟨V+6,0,none⟩) (3*k) (3*k)) sz wr):=by
       have:=HNz.o;show AuN (V+5) (V+5) (3*a.st*b.st) a.le (yR a b) (yS k) (sV a b x h7 s y pre2 t (z+1)) fv (.slice (some ⟨V+6,0,none⟩) (3*k) (3*k)) sz wr;unfold sV at *;rw[zGi hst] at *;exact this
      have HX:=hId hz3;clear hst
      gi_wp2
      go_roundw
      case rel=>exact⟨z+1,sz,HX.o,by go_num,HN3.o,HOz.o⟩
      case measure=>simp[intOf];have:=HX.o;omega
     have q3:¬(z:Int)<3:=by omega
     obtain rfl:z=3:=by omega
     have HF:Hid (KeepsFrom w9.heap.size W'' wr/\KpO V [w9.heap.size] [V+5] W'' wr/\(∃ sv,Hid (AuN (V+5) (V+5) (3*a.st*b.st) a.le (yR a b) (yS k) (rX a b x++(rS a b h7++(rY a b s y++rT a b s (pre2++[t])))) fv (.slice (some ⟨V+6,0,none⟩) (3*k) (3*k)) sv wr))/\Hid (Off V [] [V+5] w9 wr)):=
      ⟨HOz.o.keeps HO2.o.sane (fun k O=>by cases O) (fun k O=>by rw[List.mem_singleton.1 O];exact hGw9),fun hs=>HOz.o.cons (by omega) (hs.bad _ (.inl (List.mem_cons_self ..))).2,⟨sz,by
       show AuN (V+5) (V+5) (3*a.st*b.st) a.le (yR a b) (yS k) (rX a b x++(rS a b h7++(rY a b s y++rT a b s (pre2++[t])))) fv (.slice (some ⟨V+6,0,none⟩) (3*k) (3*k)) sz wr;rw[zH8]
       exact HNz.o⟩,HO2.o.trans HOz.o⟩
     clear hs1 ht1
     gi_wp2
     exact HF.o
    case done2=>
     rintro W'' ⟨⟨sv2,HN2⟩,HO2⟩
     have HN3:Hid (AuN (V+5) (V+5) (3*a.st*b.st) a.le (yR a b) (yS k) (rX a b x++(rS a b h7++rY a b s (y+1))) fv (.slice (some ⟨V+6,0,none⟩) (3*k) (3*k)) sv2 W''):=by
      have:=HN2.o
      rwa[show rY a b s y++rT a b s (zG b (y:Int))=rY a b s (y+1) from(zHM a b s y).symm] at this
     have HO3:=hId (HO9.o.trans HO2.o);have HX:=hId hyb;clear HN2 HO2
     gi_wp2
     go_roundw
     case rel=>exact⟨y+1,sv2,HX.o,by go_num,HN3.o,HO3.o⟩
     case measure=>simp[intOf];have:=HX.o;omega
    case stop2=>exact fun _ _ _ _ h=>h.elim
   have q2:¬(y:Int)<b.st:=by have:=HNB.o;omega
   obtain rfl:y=NB:=by omega
   have HF:Hid (KeepsFrom w8.heap.size W' wr/\KpO V [w8.heap.size+1] [V+5] W' wr/\(∃ sv,Hid (AuN (V+5) (V+5) (3*a.st*b.st) a.le (yR a b) (yS k) (rX a b x++rS a b (h7++[s])) fv (.slice (some ⟨V+6,0,none⟩) (3*k) (3*k)) sv wr))/\Hid (Off V [] [V+5] w8 wr)):=
    ⟨HOr.o.keeps HO'.o.sane (fun k O=>by cases O) (fun k O=>by rw[List.mem_singleton.1 O];exact hG8),fun hs=>HOr.o.cons (by have:=U.o.size;omega) (hs.bad _ (.inl (List.mem_cons_self ..))).2,⟨sw,by
     show AuN (V+5) (V+5) (3*a.st*b.st) a.le (yR a b) (yS k) (rX a b x++rS a b (h7++[s])) fv (.slice (some ⟨V+6,0,none⟩) (3*k) (3*k)) sw wr;rw[zIc,show b.st.toNat=y by have:=HNB.o;omega]
     exact HNr.o⟩,HO'.o.trans HOr.o⟩
   gi_wp2
   exact HF.o
  case done=>
   rintro Dm W' hDm ⟨⟨sv',HN'⟩,HO'⟩ hD
   have HN3:Hid (AuN (V+5) (V+5) (3*a.st*b.st) a.le (yR a b) (yS k) (rX a b (x+1)) fv (.slice (some ⟨V+6,0,none⟩) (3*k) (3*k)) sv' W'):=by
    have:=HN'.o
    rwa[show rX a b x++rS a b (zG a (x:Int))=rX a b (x+1) from(zIu a b x).symm] at this
   have HO3:=hId (HO8.o.trans HO'.o)
   have HMK3:Hid (vI V [] [V+5] W' ({target:=.collected Dm,args:=#[]}::ds)):=by
    have hgd:=HN'.o.good_obj (lo:=V) hD rfl;obtain⟨Ds,rfl,h2,h3⟩:=HMK8.o;refine⟨Dm::Ds,rfl,List.nodup_cons.2 ⟨fun hm=>?_,h2⟩,fun D' hm=>?_⟩
    ·have:=(h3 Dm hm).2.1.lt
     omega
    rcases List.mem_cons.1 hm with rfl|hm
    ·exact⟨by omega,hgd,hD⟩
    obtain⟨a1,a2,a3⟩:=h3 D' hm;exact⟨a1,a2.off HO'.o,(HO'.o.block D' a2.lt a2.not).trans a3⟩
   have HX:=hId hx;clear HN' HO' HN8 HO8 hD hDm
   gi_wp2
   exact⟨n-1,by have:=HX.o;omega,x+1,_,sv',_,_,_,_,_,_,_,_,by have:=HX.o;omega,FrP.mk rfl,HN3.o,HO3.o,HMK3.o⟩
  case stop=>exact fun _ _ _ _ _ _ h=>h.elim
 have q1:¬(x:Int)<a.st:=by have:=HNA.o;omega
 obtain rfl:x=NA:=by omega
 obtain⟨rw,hrw⟩:∃l,l=rG a b:=⟨_,rfl⟩;have HRX:Hid (rX a b x=rw):=by show _=_;rw[hrw];unfold rG;rw[HNA.o];rfl
 have HRW:=hId hrw;have hrl:rw.length<=100000000:=by rw[hrw];exact Nat.le_trans (zBb a b) hsn
 rw[HRX.o] at HN;obtain⟨_,_,_,_,g4,_⟩:=zZ HN.o.obj;have HSC:Hid (Calls Tryz.prog 79 _ wq _):=zG7 wq (V+5) sv rw HN.o.s (by omega)
 clear c0 c1 c2 c3 c4 hrw
 gi_wp2
 refine⟨trivial,?_⟩;refine(callsIn_wide.2 HSC.o).mono ?_;rintro e ws ⟨rfl,hown,hgs⟩;have HNs:=hId (HN.o.reS hown hgs)
 have HBs:Hid (Below (V+5) W7 ws):=HBW.o.grown hgs (by have:=HN.o.lt;omega) (fun k O=>(HN.o.s.lt k O).1)
 have HMs:Hid (vI V [] [V+5] ws ds):=by
  obtain⟨Ds,J,h2,h3⟩:=HMK.o;refine⟨Ds,J,h2,fun D hD=>?_⟩
  obtain⟨a1,a2,a3⟩:=h3 D hD;have e:=(hgs.block D a2.lt (fun e=>a2.not (HN.o.bad.2 (.inr (.inr (.inr (.inr e.symm))))))).trans a3
  exact⟨a1,HNs.o.good_obj e rfl,e⟩
 obtain⟨_,_,_,_,g4',_⟩:=zZ HNs.o.obj;have HCC:Hid (Calls Tryz.prog 81 _ ws _):=zAt ws (V+5) sv (zR rw) HNs.o.s (by rw[kW];omega)
 clear hown hgs g4 HMK HN HBW HSC
 gi_wp2
 refine⟨trivial,?_⟩;refine(callsIn_wide.2 HCC.o).mono ?_;rintro e wc ⟨vc,rfl,hown,hgs,hvb⟩;obtain⟨TC,cC,rfl,_,_,_⟩:=zF hown;obtain⟨hNc,hob⟩:=HNs.o.putS2 hown hgs
 have hfl3:(yR a b).length<=1000000:=by
  rw[<-zCv,iZ a b _ nLe];have J:=HFA.o.fs_le;have h2:=HFB.o.fs_le;rw[HNA.o] at J;rw[HNB.o] at h2;have:=HMM.o;have:a.fs.length*b.fs.length<=x*NB:=Nat.mul_le_mul (by omega) (by omega)
  omega
 have hdl:(dd (zR rw)).length<=100000000:=Nat.le_trans (sJ _ _) (by rw[kW];exact hrl)
 obtain⟨A',B',C',ca',cb',cc',rfl,hgv,hsv,hrd⟩:=hNc.rd (by omega) (by simp[yS];omega) (by omega)
 simp only[Value.slice.injEq] at hgv hsv;obtain⟨rfl,hgl,rfl⟩:=hgv;obtain⟨rfl,_,rfl⟩:=hsv;have HNc:=hId hNc
 have HBc:Hid (Below (V+5) W7 (wc.setCell ⟨V+5,4,none⟩ (.slice TC (dd (zR rw)).length cC))):=(HBs.o.grown hgs (by have:=HNs.o.lt;omega) (fun k O=>(HNs.o.s.lt k O).1)).setCell (p:=⟨V+5,4,none⟩) nLe _
 have HMc:Hid (vI V [] [V+5] (wc.setCell ⟨V+5,4,none⟩ (.slice TC (dd (zR rw)).length cC)) ds):=by
  obtain⟨Ds,J,h2,h3⟩:=HMs.o;refine⟨Ds,J,h2,fun D hD=>?_⟩
  obtain⟨a1,a2,a3⟩:=h3 D hD;have hne:D≠V+5:=fun e=>a2.not (HNs.o.bad.2 (.inr (.inl e)))
  have e:=(Below.heap_setCell wc ⟨V+5,4,none⟩ (.slice TC (dd (zR rw)).length cC) D hne).trans ((hgs.block D a2.lt (fun e=>a2.not (HNs.o.bad.2 (.inr (.inr (.inr (.inr e.symm))))))).trans a3)
  exact⟨a1,HNc.o.good_obj e rfl,e⟩
 obtain⟨e0,e1,e2,e3,e4,e5,e6,e7,e8,e9⟩:=zZ hob;obtain⟨n0,n1,n2,n3,n4,_⟩:=zZ hNc.obj
 have HRS:Hid ((wc.setCell ⟨V+5,4,none⟩ (.slice TC (dd (zR rw)).length cC)).heap[V+2]?=some (.cells #[(0:Int),(0:Int),(),(),()] 31 (0,0))):=(HBc.o.block (V+2) (by omega)).trans U.o.res
 obtain⟨s0,s1,s2,s3,s4,t0,t1,t2,t3,t4⟩:=zZ HRS.o
 have HFI:Hid (∀ W,W=set5 (wc.setCell ⟨V+5,4,none⟩ (.slice TC (dd (zR rw)).length cC)) (V+2) (.int .i64 (3*a.st*b.st)) a.le (.slice A' (yR a b).length ca') (.slice (some ⟨V+6,0,none⟩) (3*k) (3*k)) (.slice TC (dd (zR rw)).length cC)->
   AuN (V+5) (V+5) (3*a.st*b.st) a.le (yR a b) (yS k) (dd (zR rw)) (.slice A' (yR a b).length ca') (.slice (some ⟨V+6,0,none⟩) (3*k) (3*k)) (.slice TC (dd (zR rw)).length cC) W/\
   W.heap[V+2]?=some (.cells #[(3*a.st*b.st),a.le,.slice A' (yR a b).length ca',.slice (some ⟨V+6,0,none⟩) (3*k) (3*k),.slice TC (dd (zR rw)).length cC] 31 (0,0))/\Below w w W/\vI V [] [V+5] W ds):=fun W hW=>by
  subst hW;have hs7:=U.o.size;have hv:=U.o.v;have hbw:Below w w (wc.setCell ⟨V+5,4,none⟩ (.slice TC (dd (zR rw)).length cC)):=U.o.below.trans (HBc.o.mono (by omega))
  have hfar:∀j,j≠V+2->(set5 (wc.setCell ⟨V+5,4,none⟩ (.slice TC (dd (zR rw)).length cC)) (V+2) (.int .i64 (3*a.st*b.st)) a.le (.slice A' (yR a b).length ca') (.slice (some ⟨V+6,0,none⟩) (3*k) (3*k)) (.slice TC (dd (zR rw)).length cC)).heap[j]?=(wc.setCell ⟨V+5,4,none⟩ (.slice TC (dd (zR rw)).length cC)).heap[j]?:=fun j hj=>pB _ _ _ _ _ _ _ hj
  have hg2:(wc.setCell ⟨V+5,4,none⟩ (.slice TC (dd (zR rw)).length cC)).grownBy (set5 (wc.setCell ⟨V+5,4,none⟩ (.slice TC (dd (zR rw)).length cC)) (V+2) (.int .i64 (3*a.st*b.st)) a.le (.slice A' (yR a b).length ca') (.slice (some ⟨V+6,0,none⟩) (3*k) (3*k)) (.slice TC (dd (zR rw)).length cC)) (some (V+2)):=
   ⟨rfl,rfl,rfl,Nat.le_of_eq (uG _ _ _ _ _ _ _).symm,fun j _ hj=>hfar j (fun e=>hj (by rw[e]))⟩
  have kp:∀{v:Value} {e:TypeId} {sz n:Nat} {xs:List Value},(wc.setCell ⟨V+5,4,none⟩ (.slice TC (dd (zR rw)).length cC)).ownsRow (V+5) e sz v n xs->(set5 (wc.setCell ⟨V+5,4,none⟩ (.slice TC (dd (zR rw)).length cC)) (V+2) (.int .i64 (3*a.st*b.st)) a.le (.slice A' (yR a b).length ca') (.slice (some ⟨V+6,0,none⟩) (3*k) (3*k)) (.slice TC (dd (zR rw)).length cC)).ownsRow (V+5) e sz v n xs:=fun{v e sz n xs} ho=>by
   refine World.ownsRow.kept ho hg2 ?_
   cases hvo:v.ownBlock with
   |none=>exact .inl rfl
   |some r=>exact .inr (fun e=>by have:=(ho.lt r hvo).1;have:=Option.some.inj e;omega)
  refine⟨⟨HNc.o.lo,(hfar (V+5) (by omega)).trans HNc.o.obj,kp HNc.o.f,kp HNc.o.g,kp HNc.o.s⟩,zW HRS.o _ _ _ _ _,zS hbw (by omega) _ _ _ _ _,?_⟩
  obtain⟨Ds,J,h2,h3⟩:=HMc.o;refine⟨Ds,J,h2,fun D hD=>?_⟩
  obtain⟨a1,a2,a3⟩:=h3 D hD
  have hne:D≠V+2:=fun e=>by
   have h4:=HRS.o;rw[<-e,a3] at h4;cases h4
  have e:=(hfar D hne).trans a3
  have hAU:AuN (V+5) (V+5) (3*a.st*b.st) a.le (yR a b) (yS k) (dd (zR rw)) (.slice A' (yR a b).length ca') (.slice (some ⟨V+6,0,none⟩) (3*k) (3*k)) (.slice TC (dd (zR rw)).length cC) _:=⟨HNc.o.lo,(hfar (V+5) (by omega)).trans HNc.o.obj,kp HNc.o.f,kp HNc.o.g,kp HNc.o.s⟩
  exact⟨a1,hAU.good_obj e rfl,e⟩
 unfold set5 at HFI;have HFS3:=hId hfl3;have HDL:=hId hdl
 have HPO:Hid ((⟨3*a.st*b.st,a.le,yR a b,yS k,dd (zR rw)⟩:Au)=fO a b (dd (zR (rG a b)))):=by
  show _=_;unfold fO;rw[HRW.o,HNA.o,HNB.o];simp only[Int.toNat_natCast];rw[HMM.o]
 clear hNc hown hgs hvb HCC g4' HMs HBs HNs hrd hgl hfl3 hdl HMc HRS HBc
 gi_wp2
 obtain⟨hau,hres,hbw,hmk⟩:=HFI.o _ rfl
 refine fH (v:=undef) (B:=V) (I:=fun _ W=>AuN (V+5) (V+5) (3*a.st*b.st) a.le (yR a b) (yS k) (dd (zR rw)) (.slice A' (yR a b).length ca') (.slice (some ⟨V+6,0,none⟩) (3*k) (3*k)) (.slice TC (dd (zR rw)).length cC) W/\
   W.heap[V+2]?=some (.cells #[(3*a.st*b.st),a.le,.slice A' (yR a b).length ca',.slice (some ⟨V+6,0,none⟩) (3*k) (3*k),.slice TC (dd (zR rw)).length cC] 31 (0,0))/\Below w w W) ?_ ?_ ds _ hmk.marks ⟨hau,hres,hbw⟩
 ·rintro _ P' Q' row ⟨i1,i2,i3⟩ hg hr
  refine⟨i1.own hg (fun r h=>(hr r h).2),(hg.block (V+2) (gLt i2) (fun e=>?_)).trans i2,i3.grown hg i3.size (fun k O=>by have:=(hr k O).1;have:=U.o.v;omega)⟩
  obtain⟨_,o',h4,h5⟩:=hr _ e.symm;rw[i2] at h4;rw[<-Option.some.inj h4] at h5;cases h5
 rintro W ⟨i1,i2,i3⟩;obtain⟨A2,B2,C2,ca2,cb2,cc2,r1,r2,r3,hrd⟩:=i1.rd (by have:=HFS3.o;omega) (by simp[yS];omega) (by have:=HDL.o;omega)
 simp only[Value.slice.injEq] at r1 r2 r3;obtain⟨rfl,_,rfl⟩:=r1;obtain⟨rfl,hgl2,rfl⟩:=r2;obtain⟨rfl,_,rfl⟩:=r3;refine⟨_,zEm Tryz.results69 _ _ (V+2) rfl i2,?_⟩;rw[<-HPO.o]
 exact⟨A',some ⟨V+6,0,none⟩,TC,ca',3*k,cC,by rw[show(yS k).length=3*k from hgl2.symm],hrd.low (by have:=U.o.v;omega),i3⟩
end
end Go.Proofs.YtoglgeaiiipchaaGreatDoor
