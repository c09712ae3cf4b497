import Derived.Test.YtoglgeaiiipchaaGreatDoorLRY9
import Derived.Sort.BigQuietIn
import Derived.Test.YtoglgeaiiipchaaGreatDoorSrR
import Derived.Shelf.SlSortCmp.NoneTotal
set_option linter.unusedSimpArgs false
set_option linter.unusedVariables false
set_option maxRecDepth 100000
set_option maxHeartbeats 8000000
namespace Go.Proofs.YtoglgeaiiipchaaGreatDoor
section
def fN (ss:List Stp) (c:Int):Nat:=ss.countP fun s=>decide (s.l=c)
theorem zEO (s:Stp) (ss:List Stp) (c:Int):fN (s::ss) c=fN ss c+if s.l=c then 1 else 0:=by
 unfold fN;rw[List.countP_cons]
 simp
theorem zEZ (ss:List Stp) {k:Nat} (h:k<ss.length) (c:Int):fN (ss.take (k+1)) c=fN (ss.take k) c+if ss[k].l=c then 1 else 0:=by
 unfold fN;rw[List.take_succ_eq_append_getElem h,List.countP_append]
 simp[List.countP_cons]
theorem zAz (ss:List Stp) (c:Int):fN ss c<=ss.length:=List.countP_le_length
def jP (a b:Au):Nat:=(a.ss.map fun s=>3*fN b.ss s.l).sum
def jB (a b:Au) (k:Nat):Nat:=((a.ss.take k).map fun s=>3*fN b.ss s.l).sum
theorem sY (a b:Au) {k:Nat} (h:k<a.ss.length):jB a b (k+1)=jB a b k+3*fN b.ss a.ss[k].l:=by
 unfold jB;rw[List.take_succ_eq_append_getElem h,List.map_append,List.sum_append]
 simp
theorem nT (a b:Au):jB a b a.ss.length=jP a b:=by unfold jB jP;rw[List.take_length]
theorem rA (a b:Au):∀k,jB a b k<=k*(3*b.ss.length)
 |0=>by simp[jB]
 |k+1=>by
  have d:=rA a b k
  rcases Nat.lt_or_ge k a.ss.length with h|h
  ·have e:(k+1)*(3*b.ss.length)=k*(3*b.ss.length)+3*b.ss.length:=by rw[Nat.add_mul,Nat.one_mul]
   rw[sY a b h,e];have:=zAz b.ss a.ss[k].l;generalize k*(3*b.ss.length)=z at *;omega
  have e:jB a b (k+1)=jB a b k:=by unfold jB;rw[List.take_of_length_le (by omega),List.take_of_length_le h]
  rw[e,Nat.add_mul,Nat.one_mul];exact Nat.le_trans d (Nat.le_add_right _ _)
def rQ (ss:List Stp) (le k:Nat):List Int:=(List.range le).map fun c:Nat=>(fN (ss.take k) c:Int)
theorem zCp (ss:List Stp) (le k:Nat):(rQ ss le k).length=le:=by simp[rQ]
theorem zEN (ss:List Stp) (le:Nat):rQ ss le 0=List.replicate le 0:=by
 refine List.ext_getElem (by simp[rQ]) fun i d e=>by simp[rQ,fN]
theorem zCE (ss:List Stp) {le k c:Nat} (h:c<le):(rQ ss le k).getD c 0=(fN (ss.take k) c:Int):=by
 unfold rQ;rw[List.getD_eq_getElem?_getD,List.getElem?_map,List.getElem?_range h];rfl
theorem zE6 (ss:List Stp) {le k c:Nat} (h:k<ss.length) (d:ss[k].l=(c:Int)):(rQ ss le k).set c ((fN (ss.take k) c:Int)+1)=rQ ss le (k+1):=by
 refine List.ext_getElem (by simp[rQ]) fun i g j=>?_
 rw[List.getElem_set];simp only[rQ,List.getElem_map,List.getElem_range];rw[zEZ ss h,d]
 by_cases e:c=i
 ·subst e;simp
 rw[if_neg e,if_neg (by omega)];simp
end
section
open Go Go.RowKit Go.Sort
theorem zD3 (a b:Au) (A B C D E F:Option Addr) (ca cb cc cd ce cf:Nat) (w:World) (ha:zM w 0 a A B C ca cb cc) (hb:zM w 0 b D E F cd ce cf) (h3:vG a) (hob:vG b) (h5:a.le=b.le):
  Calls Tryz.prog 68 #[.agg #[a.st,a.le,.slice A a.fs.length ca,.slice B a.gs.length cb,.slice C a.ss.length cc],.agg #[b.st,b.le,.slice D b.fs.length cd,.slice E b.gs.length ce,.slice F b.ss.length cf]] w (uI w (jP a b:Nat)):=by
 have HW:=cJ w a b A B C D E F ca cb cc cd ce cf;unfold bT auW at HW;obtain⟨N,hN⟩:=Int.eq_ofNat_of_zero_le (show 0<=a.le by have:=h3.le1;omega)
 have hN8:N<=8:=by have:=h3.le2;omega
 have hmk:=bL a.le N hN.symm (by omega)
 have HN:=hId hN;have HSB:Hid (∀ s∈b.ss,0<=s.l/\s.l<N):=fun s hs=>by have:=(hob.sr s hs).2.2;rw[<-h5,hN] at this;exact this
 have HSA:Hid (∀ s∈a.ss,0<=s.l/\s.l<N):=fun s hs=>by have:=(h3.sr s hs).2.2;rw[hN] at this;exact this
 have hla:=h3.sl;have hlb:=hob.sl;clear hN h5 h3 hob
 go_enter Tryz.func68,Tryz.ntmps68
 go_upto_region 1 with fail
 obtain⟨V,hV⟩:∃V,V=w.heap.size:=⟨_,rfl⟩;obtain⟨j,hsz,U,h0⟩:=HW;rw[<-hV] at hsz U h0;rw[show w.heap.size+1=V+1 by omega,<-hV]
 generalize (w.alloc (.cells #[a.st,a.le,.slice A a.fs.length ca,.slice B a.gs.length cb,.slice C a.ss.length cc] 31)).alloc (.cells #[b.st,b.le,.slice D b.fs.length cd,.slice E b.gs.length ce,.slice F b.ss.length cf] 31)=W0 at *
 have HB0:=hId j;obtain⟨t,ht⟩:∃t,t=W0.heap.size:=⟨_,rfl⟩;have HV1:Hid (∀ W,Below t W0 W->yG W V a A B C ca cb cc):=fun W h=>U.below h (by omega)
 have HV2:Hid (∀ W,Below t W0 W->yG W (V+1) b D E F cd ce cf):=fun W h=>h0.below h (by omega)
 have HRA:Hid (∀ W,Below t W0 W->jZ W 0 C cc a.ss):=fun W h=>(ha.below j).ss.below h (by omega)
 have HRB:Hid (∀ W,Below t W0 W->jZ W 0 F cf b.ss):=fun W h=>(hb.below j).ss.below h (by omega)
 have HBW:Hid (∀ W,Below t W0 W->Below w w W):=fun W h=>zA HB0.o h (by rw[ht];exact HB0.o.size)
 obtain⟨_,c0,c1,c2,c3,c4⟩:=U;obtain⟨_,d0,d1,d2,d3,d4⟩:=h0
 have HR0:Hid (vU (W0.alloc (.cells (madeCells #[Value.int .i64 0] N) 3)) t (rQ b.ss N 0)):=by
  show vU _ _ _;rw[zEN,ht];exact vU.new W0 N
 have HB1:Hid (Below t W0 (W0.alloc (.cells (madeCells #[Value.int .i64 0] N) 3))):=by
  show Below _ _ _;rw[ht];exact bLa
 clear j ha hb hV hsz
 go_upto_block 0 with fail
 rw[<-ht];clear c0 c1 c2 c3 c4 d0 d1 d2 d3 d4 hmk ht;generalize W0.alloc (.cells (madeCells #[Value.int .i64 0] N) 3)=W1 at *
 go_cut [] (fun wx=>Hid (vU wx t (rQ b.ss N b.ss.length))/\Hid (Below t W0 wx))
 case first=>
  go_wp2_with fail
  go_loopw [7,17] (fun _ i wr=>∃k:Nat,k<=b.ss.length/\i=(k:Int)/\Hid (vU wr t (rQ b.ss N k))/\Hid (Below t W0 wr)) (fun _ i _=>b.ss.length-(intOf i).toNat)
  case atStart=>exact⟨0,Nat.zero_le _,rfl,HR0.o,HB1.o⟩
  obtain⟨k,hk,rfl,u,m⟩:=hrel
  by_cases hkN:k<b.ss.length
  ·have q1:(k:Int)<(b.ss.length:Int):=by omega
   have g:=HRB.o _ m.o;have h5:=g.le;obtain⟨fb,fo,hD,_,_,x0,x1,x2⟩:=jZ.at_ g hkN;obtain⟨e,h1⟩:=HSB.o _ (List.getElem_mem hkN);obtain⟨l,hl⟩:=Int.eq_ofNat_of_zero_le e;have K:=hId (zE6 b.ss (le:=N) hkN hl)
   obtain⟨s,h4⟩:∃s,s=b.ss[k]:=⟨_,rfl⟩;rw[<-h4] at x0 x1 x2 e h1 hl;obtain⟨sf,sl,st⟩:=s;simp only at x0 x1 x2 e h1 hl;subst hl;have h2:l<N:=by omega
   have d:Below wr wr (wr.alloc (.cells #[sf,(l:Int),st] 80)):=bLa
   have J:=hId (u.o.below d u.o.lt);have HB2:=hId (zA m.o d (Nat.le_of_lt u.o.lt))
   have hS1:(wr.alloc (.cells #[sf,(l:Int),st] 80)).cell? ⟨wr.heap.size,1,none⟩=some (.int .i64 (l:Int)):=by go_simp
   obtain⟨z1,z2⟩:=J.o.getD_ (i:=l) (by rw[zCp];exact h2)
   rw[zCE _ h2] at z1;have hcl:fN (b.ss.take k) (l:Int)<=6000:=Nat.le_trans (zAz _ _) (by rw[List.length_take];omega)
   have HX:=hId hkN;subst hD;clear g h4 hkN u m d
   go_upto_region 5 with fail
   clear x0 x1 x2;obtain⟨S,O⟩:∃S,S=wr.heap.size:=⟨_,rfl⟩;rw[<-O] at hS1 ⊢;generalize wr.alloc (.cells #[sf,(l:Int),st] 80)=W2 at *
   have HR3:=hId (J.o.set_ l ((fN (b.ss.take k) (l:Int):Int)+1));rw[K.o] at HR3;have HB3:=hId (HB2.o.setCell (p:=⟨t,l,none⟩) nLe (.int .i64 ((fN (b.ss.take k) (l:Int):Int)+1)))
   generalize fN (b.ss.take k) (l:Int)=cn at *;clear O
   go_wp2_with fail
   go_roundw
   case rel=>exact⟨k+1,HX.o,by go_num,HR3.o,HB3.o⟩
   case measure=>simp[intOf];omega
  have q1:¬(k:Int)<(b.ss.length:Int):=by omega
  obtain rfl:k=b.ss.length:=by omega
  go_wp2_with fail
  go_meet
  exact⟨u.o,m.o⟩
 obtain⟨u,m⟩:=hcut;clear HR0 HB1;obtain⟨_,c0,c1,c2,c3,c4⟩:=HV1.o _ m.o
 go_wp2_with fail
 clear c0 c1 c2 c3 c4
 go_loopw [8,10,32] (fun o _ i wr=>∃k:Nat,k<=a.ss.length/\i=(k:Int)/\o=.int .i64 (jB a b k:Nat)/\Hid (vU wr t (rQ b.ss N b.ss.length))/\Hid (Below t W0 wr)) (fun _ _ i _=>a.ss.length-(intOf i).toNat)
 case atStart=>exact⟨0,Nat.zero_le _,rfl,rfl,u.o,m.o⟩
 obtain⟨k,hk,rfl,rfl,u,m⟩:=hrel
 by_cases hkN:k<a.ss.length
 ·have q1:(k:Int)<(a.ss.length:Int):=by omega
  have g:=HRA.o _ m.o;have h5:=g.le;obtain⟨fb,fo,hD,_,_,x0,x1,x2⟩:=jZ.at_ g hkN;obtain⟨e,h1⟩:=HSA.o _ (List.getElem_mem hkN);obtain⟨l,hl⟩:=Int.eq_ofNat_of_zero_le e;have K:=hId (sY a b hkN)
  have hst:jB a b k<=108000000:=Nat.le_trans (rA a b k) (by
   have:k*(3*b.ss.length)<=6000*18000:=Nat.mul_le_mul (by omega) (by omega)
   omega)
  obtain⟨s,h4⟩:∃s,s=a.ss[k]:=⟨_,rfl⟩;rw[<-h4] at x0 x1 x2 e h1 hl K;obtain⟨sf,sl,st⟩:=s;simp only at x0 x1 x2 e h1 hl K;subst hl;have h2:l<N:=by omega
  have d:Below wr wr (wr.alloc (.cells #[sf,(l:Int),st] 80)):=bLa
  have J:=hId (u.o.below d u.o.lt);have HB2:=hId (zA m.o d (Nat.le_of_lt u.o.lt))
  have hS1:(wr.alloc (.cells #[sf,(l:Int),st] 80)).cell? ⟨wr.heap.size,1,none⟩=some (.int .i64 (l:Int)):=by go_simp
  obtain⟨z1,z2⟩:=J.o.getD_ (i:=l) (by rw[zCp];exact h2)
  rw[zCE _ h2,List.take_length] at z1;have hcl:fN b.ss (l:Int)<=6000:=Nat.le_trans (zAz _ _) (by omega)
  have HX:=hId hkN;subst hD;clear g h4 hkN u m d
  go_upto_region 11 with fail
  clear x0 x1 x2;obtain⟨S,O⟩:∃S,S=wr.heap.size:=⟨_,rfl⟩;rw[<-O] at hS1 ⊢;generalize wr.alloc (.cells #[sf,(l:Int),st] 80)=W2 at *;generalize jB a b k=so at *
  generalize fN b.ss (l:Int)=cn at *;have HEQ:Hid (((jB a b (k+1):Nat):Int)=(so:Int)+3*(cn:Int)):=by show _=_;rw[K.o];omega
  clear O
  go_wp2_with fail
  go_roundw
  case rel=>exact⟨k+1,HX.o,by go_num,congrArg (Value.int .i64) HEQ.o.symm,J.o,HB2.o⟩
  case measure=>simp[intOf];omega
 have q1:¬(k:Int)<(a.ss.length:Int):=by omega
 obtain rfl:k=a.ss.length:=by omega
 have HP:Hid (uI w (jP a b:Nat) (.returned (jB a b a.ss.length:Nat)) wr):=⟨by rw[nT],HBW.o _ m.o⟩
 generalize jB a b a.ss.length=so at *
 go_wp2_with fail
 go_ret
 exact HP.o
def gB2 (a:Au) (x:Int):Bool:=a.gs.getD x.toNat false
theorem zHa {a:Au} {x:Int} (h:0<=x):a.good x↔gB2 a x=true:=⟨fun g=>g.2,fun g=>⟨h,g⟩⟩
theorem zKv {x s:Int} {m k:Int} (e:0<=x) (g:x<=m) (d:0<=s) (h:s<=k) (i:0<=k):0<=x*s/\x*s<=m*k:=⟨Int.mul_nonneg e d,Int.mul_le_mul g h d (by omega)⟩
theorem zA3 (a b:Au) (A B C D E F:Option Addr) (ca cb cc cd ce cf P:Nat) (x y z:Int) (w:World) (j:cK w P a b A B C D E F ca cb cc cd ce cf) (m:0<=x) (g:x<=1000000) (hy:0<=y) (u:y<=1000000) (hz:0<=z) (J:z<=2) (i:1<=b.st) (d:b.st<=1000000):
  Calls Tryz.prog 104 #[(⟨P,0,none⟩:Addr),x,y,z] w fun e w'=>e=.returned (qK b x y z)/\w=w':=by
 obtain⟨_,K,N,O,U,c4,c5,c6,c7,c8,c9⟩:=j;obtain⟨m1,m2⟩:=zKv m g (s:=b.st) (k:=1000000) (by omega) d (by omega)
 have h:Hid ((x*b.st+y)*3+z=qK b x y z):=rfl
 go_enter Tryz.func104,Tryz.ntmps104
 go_wp2_with fail
 go_ret
 exact⟨zJ h.o,rfl⟩
open Classical in
theorem zK0 (a b:Au) (A B C D E F:Option Addr) (ca cb cc cd ce cf P:Nat) (x y z:Int) (w:World) (K:cK w P a b A B C D E F ca cb cc cd ce cf) (d:xG w 0 B cb a.gs) (g:xG w 0 E ce b.gs)
  (u:0<=x) (N:x<a.gs.length) (J:0<=y) (O:y<b.gs.length) (hz:0<=z) (U:z<=2):
  Calls Tryz.prog 105 #[(⟨P,0,none⟩:Addr),x,y,z] w fun e w'=>e=.returned (qO a b x y z)/\w=w':=by
 obtain⟨_,c0,c1,c2,c3,c4,c5,c6,c7,c8,c9⟩:=K
 have h:Hid (qO a b x y z=(let w0:=if z=2 then 0 else z;let w1:=if w0=0/\gB2 a x=true then 1 else w0;if w1=1/\gB2 b y=true then 2 else w1)):=by
  show _=_;unfold qO;simp only[zHa u,zHa J]
 obtain⟨n,rfl⟩:=Int.eq_ofNat_of_zero_le u;obtain⟨m,rfl⟩:=Int.eq_ofNat_of_zero_le J;have l1:=d.le;have l2:=g.le;have l3:=d.cap;have l4:=g.cap;obtain⟨g1,o1,rfl,_,_,x1⟩:=xG.at_ d (k:=n) (by omega)
 obtain⟨g2,o2,rfl,_,_,x2⟩:=xG.at_ g (k:=m) (by omega)
 have j:a.gs[n]'(by omega)=gB2 a n:=by unfold gB2;rw[Int.toNat_natCast,List.getD_eq_getElem?_getD,List.getElem?_eq_getElem];rfl
 have s:b.gs[m]'(by omega)=gB2 b m:=by unfold gB2;rw[Int.toNat_natCast,List.getD_eq_getElem?_getD,List.getElem?_eq_getElem];rfl
 rw[j] at x1;rw[s] at x2;clear j s d g;generalize gB2 a n=ga at *;generalize gB2 b m=gb at *;have i:z=0\/z=1\/z=2:=by omega
 rcases i with rfl|rfl|rfl
 all_goals
  cases ga<;>cases gb
  all_goals
   simp at h
   go_enter Tryz.func105,Tryz.ntmps105
   go_wp2_with fail
   go_ret
   exact⟨zJ h.o.symm,rfl⟩
end
section
theorem sU {α β:Type} (g:α->List β) {xs e:List α} {x:α} {p:List β} (h:e++[x]<+:xs) (i:p<+:g x):e.flatMap g++p<+:xs.flatMap g:=by
 obtain⟨d,rfl⟩:=h;obtain⟨q,j⟩:=i;refine⟨q++d.flatMap g,?_⟩;rw[List.flatMap_append,List.flatMap_append,List.flatMap_cons,List.flatMap_nil,List.append_nil,<-j];simp only[List.append_assoc]
theorem zAq {k n:Nat} (h:k<n):List.range k++[k]<+:List.range n:=by
 rw[<-List.range_succ];have:=List.take_prefix (k+1) (List.range n)
 rwa[List.take_range,Nat.min_eq_left (by omega)] at this
theorem zI3 {α β:Type} (g:α->β) {xs e:List α} (h:e<+:xs):e.map g<+:xs.map g:=by
 obtain⟨d,rfl⟩:=h;exact⟨d.map g,by rw[List.map_append]⟩
def sfr (a:Au) (n:Int):List Stp:=a.ss.filter fun s=>s.f==n
noncomputable def dH (a b:Au) (s t:Stp) (k:Nat):List Stp:=if s.l=t.l then(List.range k).map fun w:Nat=>yE a b s t w else[]
noncomputable def rT (a b:Au) (s:Stp) (ts:List Stp):List Stp:=ts.flatMap fun t=>dH a b s t 3
noncomputable def rY (a b:Au) (s:Stp) (k:Nat):List Stp:=(List.range k).flatMap fun y:Nat=>rT a b s (sfr b y)
noncomputable def rS (a b:Au) (ss:List Stp):List Stp:=ss.flatMap fun s=>rY a b s b.st.toNat
noncomputable def rX (a b:Au) (k:Nat):List Stp:=(List.range k).flatMap fun x:Nat=>rS a b (sfr a x)
noncomputable def rG (a b:Au):List Stp:=rX a b a.st.toNat
theorem zDK (a b:Au) (s t:Stp):dH a b s t 0=[]:=by unfold dH;split<;>rfl
theorem zDD {a b:Au} {s t:Stp} (h:s.l=t.l) (k:Nat):dH a b s t (k+1)=dH a b s t k++[yE a b s t k]:=by
 unfold dH;rw[if_pos h,if_pos h,List.range_succ,List.map_append];rfl
theorem zGi {a b:Au} {s t:Stp} (h:s.l≠t.l) (k:Nat):dH a b s t k=[]:=if_neg h
theorem zH8 (a b:Au) (s t:Stp) (d:List Stp):rT a b s (d++[t])=rT a b s d++dH a b s t 3:=by unfold rT;simp
theorem zHM (a b:Au) (s:Stp) (k:Nat):rY a b s (k+1)=rY a b s k++rT a b s (sfr b k):=by unfold rY;rw[List.range_succ];simp
theorem zIc (a b:Au) (ss:List Stp) (s:Stp):rS a b (ss++[s])=rS a b ss++rY a b s b.st.toNat:=by unfold rS;simp
theorem zIu (a b:Au) (k:Nat):rX a b (k+1)=rX a b k++rS a b (sfr a k):=by unfold rX;rw[List.range_succ];simp
noncomputable def sV (a b:Au) (x:Nat) (ss:List Stp) (s:Stp) (y:Nat) (ts:List Stp) (t:Stp) (k:Nat):List Stp:=rX a b x++(rS a b ss++(rY a b s y++(rT a b s ts++dH a b s t k)))
theorem zH4 {a b:Au} {x y k:Nat} {ss d:List Stp} {s t:Stp} (i:x<a.st.toNat) (g:ss++[s]<+:sfr a x) (j:y<b.st.toNat) (h:d++[t]<+:sfr b y) (e:k<=3):sV a b x ss s y d t k<+:rG a b:=by
 refine sU _ (zAq i) (sU _ g (sU _ (zAq j) (sU _ h ?_)));unfold dH
 split
 ·refine zI3 _ ?_
  have:=List.take_prefix k (List.range 3)
  rwa[List.take_range,Nat.min_eq_left e] at this
 exact List.prefix_rfl
theorem zKa {a b:Au} (m:∀s∈a.ss,0<=s.f/\s.f<a.st) (u:∀s∈b.ss,0<=s.f/\s.f<b.st):zBj a b (rG a b):=by
 intro s;unfold rG rX rS rY rT dH sfr;simp only[List.mem_flatMap,List.mem_range,List.mem_filter,beq_iff_eq]
 constructor
 ·rintro⟨x,U,t,⟨g,J⟩,y,hy,e,⟨d,K⟩,i⟩
  split at i
  ·rename_i h
   obtain⟨w,N,rfl⟩:=List.mem_map.1 i;exact⟨t,g,e,d,h,w,by omega,by have:=List.mem_range.1 N;omega,rfl⟩
  cases i
 rintro⟨t,g,e,d,h,w,j,O,rfl⟩;have r:=m t g;have r':=u e d;refine⟨t.f.toNat,by omega,t,⟨g,by omega⟩,e.f.toNat,by omega,e,⟨d,by omega⟩,?_⟩
 rw[if_pos h];refine List.mem_map.2 ⟨w.toNat,List.mem_range.2 (by omega),?_⟩
 rw[Int.toNat_of_nonneg j]
def pU (h:Nat->Nat):Nat->Nat
 |0=>0
 |k+1=>pU h k+h k
theorem tX {h d:Nat->Nat} (H:∀k,h k<=d k):∀k,pU h k<=pU d k
 |0=>nLe
 |k+1=>Nat.add_le_add (tX H k) (H k)
theorem rZ {β:Type} (G:Nat->List β):∀k,((List.range k).flatMap G).length=pU (fun x=>(G x).length) k
 |0=>rfl
 |k+1=>by rw[List.range_succ,List.flatMap_append,List.length_append,rZ G k];simp[pU]
theorem oU (h d:Nat->Nat):∀k,pU (fun x=>h x+d x) k=pU h k+pU d k
 |0=>rfl
 |k+1=>by unfold pU;rw[oU h d k];omega
theorem zAi (f:Int) (v:Nat):∀k,pU (fun x:Nat=>if f=x then v else 0) k=if 0<=f/\f<k then v else 0
 |0=>by rw[if_neg (by omega)];rfl
 |k+1=>by
  unfold pU;rw[zAi f v k]
  by_cases h1:f=k
  ·rw[if_pos h1,if_neg (by omega),if_pos (by omega)];omega
  rw[if_neg h1]
  by_cases h2:0<=f/\f<k
  ·rw[if_pos h2,if_pos (by omega)];omega
  rw[if_neg h2,if_neg (by omega)]
theorem lS (g:Stp->Nat) (k:Nat):∀ss:List Stp,pU (fun x:Nat=>((ss.filter fun s=>s.f==(x:Int)).map g).sum) k<=(ss.map g).sum
 |[]=>by
  have:∀k,pU (fun _:Nat=>(([]:List Stp).map g).sum) k=0:=by
   intro k
   induction k with
   |zero=>rfl
   |succ k d=>unfold pU;rw[d];rfl
  exact Nat.le_of_eq (this k)
 |s::ss=>by
  have d:=lS g k ss
  have e:(fun x:Nat=>(((s::ss).filter fun s=>s.f==(x:Int)).map g).sum)=fun x:Nat=>(if s.f=(x:Int) then g s else 0)+((ss.filter fun s=>s.f==(x:Int)).map g).sum:=by
   funext x
   rw[List.filter_cons]
   by_cases h:s.f=x
   ·rw[if_pos (by simpa using h),if_pos h,List.map_cons,List.sum_cons]
   rw[if_neg (by simpa using h),if_neg h,Nat.zero_add]
  rw[e,oU,zAi,List.map_cons,List.sum_cons]
  split<;>omega
theorem zER (a b:Au) (s t:Stp):(dH a b s t 3).length=if s.l=t.l then 3 else 0:=by
 unfold dH
 split<;>simp
theorem oI {α β:Type} (G:α->List β):∀xs:List α,(xs.flatMap G).length=(xs.map fun x=>(G x).length).sum
 |[]=>rfl
 |x::xs=>by rw[List.flatMap_cons,List.length_append,oI G xs,List.map_cons,List.sum_cons]
theorem zDw {α:Type} {g d:α->Nat} (H:∀x,g x<=d x):∀xs:List α,(xs.map g).sum<=(xs.map d).sum
 |[]=>nLe
 |x::xs=>by rw[List.map_cons,List.map_cons,List.sum_cons,List.sum_cons];exact Nat.add_le_add (H x) (zDw H xs)
theorem zGA (ss:List Stp) (c:Int):(ss.map fun t=>if c=t.l then 3 else 0).sum=3*fN ss c:=by
 induction ss with
 |nil=>rfl
 |cons s ss ih=>
  rw[List.map_cons,List.sum_cons,ih,zEO]
  by_cases h:s.l=c
  ·rw[if_pos h.symm,if_pos h];omega
  rw[if_neg (fun e=>h e.symm),if_neg h];omega
theorem zKs (a b:Au) (s:Stp) (k:Nat):(rY a b s k).length<=3*fN b.ss s.l:=by
 unfold rY;rw[rZ,<-zGA];refine Nat.le_trans (tX (fun y=>?_) k) (lS (fun t=>if s.l=t.l then 3 else 0) k b.ss)
 unfold rT;rw[oI];exact zDw (fun t=>Nat.le_of_eq (zER a b s t)) _
theorem zBb (a b:Au):(rG a b).length<=jP a b:=by
 unfold rG rX jP;rw[rZ];refine Nat.le_trans (tX (fun x=>?_) _) (lS (fun s=>3*fN b.ss s.l) _ a.ss)
 unfold rS;rw[oI];exact zDw (fun s=>zKs a b s _) _
theorem zH0 {a b:Au} {x y k:Nat} {ss d:List Stp} {s t:Stp} (i:x<a.st.toNat) (g:ss++[s]<+:sfr a x) (j:y<b.st.toNat) (h:d++[t]<+:sfr b y) (e:k<=3):(sV a b x ss s y d t k).length<=jP a b:=
 Nat.le_trans (zH4 i g j h e).length_le (zBb a b)
def oK (a:Au) (x y:Int):Prop:=∃s∈a.ss,s.f=x/\s.t=y
inductive cH (a:Au):Int->List Int->Int->Prop
 |one {x c y:Int}:(⟨x,c,y⟩:Stp)∈a.ss->cH a x [c] y
 |cons {x c y z:Int} {cs:List Int}:(⟨x,c,y⟩:Stp)∈a.ss->cH a y cs z->cH a x (c::cs) z
theorem cH.pos {a:Au} {x z:Int} {cs:List Int} (h:cH a x cs z):0<cs.length:=by cases h<;>simp
theorem cH.letters {a:Au} (d:jT a) {x z:Int} {cs:List Int} (h:cH a x cs z):∀c∈cs,0<=c/\c<a.le:=by
 induction h with
 |one h=>intro c hc;simp only[List.mem_singleton] at hc;subst hc;exact(d.sr _ h).2.2
 |cons h _ ih=>
  intro c hc
  rcases List.mem_cons.1 hc with rfl|hc
  ·exact(d.sr _ h).2.2
  exact ih c hc
theorem cH.way {a:Au} {u:Nat->Int} {x z:Int} {cs:List Int} (h:cH a x cs z):∀i,(∀ k,k<cs.length->u (i+k)=cs.getD k 0)->Way a u false i x (i+cs.length) z:=by
 induction h with
 |@one x c y h=>
  intro i d;have:=d 0 (by simp)
  refine .go (.refl i x) ?_;rw[Nat.add_zero] at this;rw[this];exact h
 |@cons x c y z cs h _ ih=>
  intro i d;have e:=d 0 (by simp)
  rw[Nat.add_zero] at e;have g:Way a u false i x (i+1) y:=.go (.refl i x) (by rw[e];exact h)
  have:=ih (i+1) (fun k j=>by
   have:=d (k+1) (by simp;omega)
   rw[show i+1+k=i+(k+1) by omega,this]
   rfl)
  have:=g.trans this
  rwa[show i+1+cs.length=i+(c::cs).length by simp;omega] at this
structure zDe (a:Au) (l:La):Prop where
 is:∃n:Int,a.good n/\(l.h=[]/\n∈a.fs\/∃f∈a.fs,cH a f l.h n)/\cH a n l.l n
 h:(l.h.length:Int)<=a.st
 l:(l.l.length:Int)<=a.st
theorem La.at_head {l:La} {k:Nat} (h:k<l.h.length):l.at k=l.h.getD k 0:=by unfold La.at;rw[if_pos h]
theorem La.at_loop {l:La} {k:Nat} (h:k<l.l.length):l.at (l.h.length+k)=l.l.getD k 0:=by
 unfold La.at;rw[if_neg (by omega),show l.h.length+k-l.h.length=k by omega,Nat.mod_eq_of_lt h]
theorem zDe.takes {a:Au} {l:La} (h:zDe a l):xJ a l.at:=by
 obtain⟨n,J,K,j⟩:=h.is;have g:=(j.way (u:=l.at) l.h.length (fun k e=>La.at_loop e)).hit_end (by have:=j.pos;omega) J
 have d:∀i,l.h.length<=i->l.at (i+l.l.length)=l.at i:=fun i N=>by have:=La.at_add (m:=1) N;rwa[Nat.mul_one] at this
 rcases K with⟨h0,hn⟩|⟨f,hf,hp⟩
 ·rw[h0] at g d
  exact gK (k:=0) hn (.refl 0 n) g d
 have s:=hp.way (u:=l.at) 0 (fun k e=>by rw[Nat.zero_add];exact La.at_head e)
 rw[Nat.zero_add] at s;exact gK hf s g d
theorem zDe.fits {a:Au} (d:jT a) {l:La} (h:zDe a l):(∀ c∈l.h,0<=c/\c<a.le)/\(∀ c∈l.l,0<=c/\c<a.le)/\0<l.l.length:=by
 obtain⟨n,j,i,e⟩:=h.is;refine⟨?_,e.letters d,e.pos⟩
 rcases i with⟨h0,_⟩|⟨f,_,hp⟩
 ·rw[h0];intro c g;simp at g
 exact hp.letters d
theorem zDA {a:Au} (hf:jT a) {u:Nat->Int} (h:xJ a u):∃q:Int,(0<=q/\q<a.st)/\Rch a q/\a.good q/\vT (oK a) q q:=by
 obtain⟨r,h0,K,hg⟩:=h;have J:∀i,0<=r i/\r i<a.st:=fun i=>(hf.sr _ (K i)).1
 have N:∀i,Rch a (r i):=by
  intro i
  induction i with
  |zero=>exact .first h0
  |succ i ih=>exact .step (s:=⟨r i,u i,r (i+1)⟩) ih (K i)
 obtain⟨g,_,e⟩:=zKH (P:=fun _ m=>a.good (r m)) (fun n=>by obtain⟨m,h1,O⟩:=hg (n+1);exact⟨m,h1,O⟩) 0
 obtain⟨i,j,hij,_,U⟩:=zDS a.st.toNat (fun k=>(r (g (k+1))).toNat) (fun k _=>by have:=J (g (k+1));omega)
 have U:(r (g (i+1))).toNat=(r (g (j+1))).toNat:=U
 have e2:r (g (i+1))=r (g (j+1)):=by
  have O:=J (g (i+1));have h3:=J (g (j+1));omega
 have hlt:=zBF (fun k=>(e k).1) (show i+1<j+1 by omega)
 refine⟨r (g (i+1)),J _,N _,(e i).2,?_⟩
 have pl:∀d k,vT (oK a) (r k) (r (k+d+1)):=by
  intro d
  induction d with
  |zero=>intro k;exact .one ⟨_,K k,rfl,rfl⟩
  |succ d ih=>intro k;exact(ih k).on ⟨_,K (k+d+1),rfl,rfl⟩
 have:=pl (g (j+1)-g (i+1)-1) (g (i+1))
 rwa[show g (i+1)+(g (j+1)-g (i+1)-1)+1=g (j+1) by omega,<-e2] at this
theorem lN:∀(N:Nat) (xs:List Nat),xs.Nodup->(∀ x∈xs,x<N)->xs.length<=N
 |0,xs,_,h=>by
  cases xs with
  |nil=>simp
  |cons x xs=>exact absurd (h x (by simp)) (by omega)
 |N+1,xs,hn,h=>by
  have g:=lN N (xs.filter (· !=N)) (hn.filter _) (fun x i=>by
   obtain⟨d,e⟩:=List.mem_filter.1 i;have:=h x d;simp only[bne_iff_ne,ne_eq] at e;omega)
  have j:xs.length<=(xs.filter (· !=N)).length+xs.count N:=by
   clear g hn h
   induction xs with
   |nil=>simp
   |cons y ys ih=>
    by_cases hy:y=N
    ·subst hy;simp;omega
    simp[hy];omega
  have m:xs.count N<=1:=List.nodup_iff_count.1 hn N
  omega
structure dF (a:Au) (fr:List Int) (D:List (Int×Stp)):Prop where
 nd:(D.map Prod.fst).Nodup
 by_:∀(i:Nat) (h:i<D.length),D[i].2∈a.ss/\D[i].2.t=D[i].1/\(D[i].2.f∈fr\/∃j,j<i/\∃h':j<D.length,D[j].1=D[i].2.f)
theorem dF.nil (a:Au) (d:List Int):dF a d []:=⟨.nil,fun i h=>absurd h (by simp)⟩
theorem dF.add {a:Au} {m:List Int} {D:List (Int×Stp)} (h:dF a m D) {s:Stp} (hs:s∈a.ss) (hn:s.t∉D.map Prod.fst) (U:s.f∈m\/s.f∈D.map Prod.fst):dF a m (D++[(s.t,s)]):=by
 refine⟨?_,fun i u=>?_⟩
 ·rw[List.map_append,List.nodup_append]
  refine⟨h.nd,by simp,fun x hx y J=>?_⟩
  simp only[List.map_cons,List.map_nil,List.mem_singleton] at J;rintro rfl;subst J;exact hn hx
 rw[List.length_append] at u;simp only[List.length_cons,List.length_nil] at u
 rcases Nat.lt_or_ge i D.length with h1|h1
 ·rw[List.getElem_append_left h1]
  obtain⟨K,N,O⟩:=h.by_ i h1;refine⟨K,N,O.imp id fun⟨j,d,g,j3⟩=>⟨j,d,by rw[List.length_append];omega,by rw[List.getElem_append_left g];exact j3⟩⟩
 obtain rfl:i=D.length:=by omega
 have e:(D++[(s.t,s)])[D.length]'(by rw[List.length_append];simp)=(s.t,s):=by simp
 rw[e];refine⟨hs,rfl,U.imp id fun hm=>?_⟩
 obtain⟨j,d,g⟩:=List.getElem_of_mem hm;rw[List.length_map] at d;rw[List.getElem_map] at g;exact⟨j,d,by rw[List.length_append];omega,by rw[List.getElem_append_left d];exact g⟩
theorem dF.len {a:Au} (J:jT a) {O:List Int} {D:List (Int×Stp)} (h:dF a O D):(D.length:Int)<=a.st:=by
 have e:=J.st1
 have s:∀(xs:List Int),xs.Nodup->(∀ x∈xs,0<=x/\x<a.st)->(xs.length:Int)<=a.st:=by
  intro xs d j
  have g:(xs.map Int.toNat).Nodup:=by
   unfold List.Nodup at *;rw[List.pairwise_map];exact d.imp_of_mem (fun{x y} d m hne he=>hne (by have:=j x d;have:=j y m;omega))
  have:=lN a.st.toNat (xs.map Int.toNat) g (fun x d=>by
   obtain⟨y,m,rfl⟩:=List.mem_map.1 d;have:=j y m;omega)
  rw[List.length_map] at this;omega
 have:=s (D.map Prod.fst) h.nd (fun x d=>by
  obtain⟨i,e,u⟩:=List.getElem_of_mem d;rw[List.length_map] at e;rw[List.getElem_map] at u;obtain⟨K,N,_⟩:=h.by_ i e;have:=(J.sr _ K).2.1;rw[N,u] at this;exact this)
 rwa[List.length_map] at this
theorem dF.back {a:Au} {g:List Int} {D:List (Int×Stp)} (h:dF a g D) {first:Int->Bool} (e:∀x∈g,first x=true) {i:Nat} (m:i<D.length) (d:first D[i].2.f=false):∃j,j<i/\∃s:j<D.length,D[j].1=D[i].2.f:=by
 rcases(h.by_ i m).2.2 with h1|h1
 ·rw[e _ h1] at d;cases d
 exact h1
structure FnM (a:Au) (fr:List Int) (dn:Int->Bool) (D:List (Int×Stp)) (q:List Int) (n:Nat) (op:Option Int):Prop where
 by_:dF a fr D
 qs:∀x∈q,x∈fr\/x∈D.map Prod.fst
 cl:∀x,(x∈fr\/x∈D.map Prod.fst)->x∈q\/op=some x\/∀s∈a.ss,s.f=x->s.t∈D.map Prod.fst
 no:∀x∈D.map Prod.fst,dn x=false
 few:q.length+(a.st.toNat-D.length)<=n
 op_:∀x,op=some x->x∈fr\/x∈D.map Prod.fst
theorem FnM.start (a:Au) (d:List Int) (dn:Int->Bool):FnM a d dn [] d (a.st.toNat+d.length) none:=
 ⟨dF.nil a d,fun x h=>.inl h,fun x h=>.inl (h.elim id fun h=>by simp at h),fun x h=>by simp at h,by simp;omega,fun x h=>by cases h⟩
theorem FnM.pop {a:Au} {e:List Int} {dn:Int->Bool} {D:List (Int×Stp)} {x:Int} {q:List Int} {n:Nat} (h:FnM a e dn D (x::q) n none):FnM a e dn D q (n-1) (some x)/\0<n:=by
 have g:=h.few;rw[List.length_cons] at g;refine⟨⟨h.by_,fun y d=>h.qs y (List.mem_cons_of_mem _ d),fun y d=>?_,h.no,by omega,fun y d=>?_⟩,by omega⟩
 ·rcases h.cl y d with h1|h1|h1
  ·rcases List.mem_cons.1 h1 with rfl|h1
   ·exact .inr (.inl rfl)
   exact .inl h1
  ·cases h1
  exact .inr (.inr h1)
 obtain rfl:=Option.some.inj d;exact h.qs _ (List.mem_cons_self ..)
theorem FnM.open_in {a:Au} {d:List Int} {dn:Int->Bool} {D:List (Int×Stp)} {x:Int} {q:List Int} {n:Nat} (h:FnM a d dn D q n (some x)) {s:Stp} (g:s∈a.ss) (i:s.f=x) (e:s.t∉D.map Prod.fst):dF a d (D++[(s.t,s)]):=
 h.by_.add g e (by rw[i];exact h.op_ x rfl)
theorem FnM.add {a:Au} (m:jT a) {d:List Int} {dn:Int->Bool} {D:List (Int×Stp)} {x:Int} {q:List Int} {n:Nat} (h:FnM a d dn D q n (some x)) {s:Stp} (J:s∈a.ss) (N:s.f=x) (u:s.t∉D.map Prod.fst) (j:dn s.t=false):
  FnM a d dn (D++[(s.t,s)]) (q++[s.t]) n (some x):=by
 have i:=h.open_in J N u;have O:=i.len m;have U:=h.few;have e:(D++[(s.t,s)]).map Prod.fst=D.map Prod.fst++[s.t]:=by simp
 refine⟨i,fun y hy=>?_,fun y hy=>?_,fun y hy=>?_,?_,fun y hy=>?_⟩
 ·rw[e]
  rcases List.mem_append.1 hy with hy|hy
  ·exact(h.qs y hy).imp id fun h=>List.mem_append_left _ h
  exact .inr (List.mem_append_right _ hy)
 ·rw[e] at hy ⊢
  have:(y∈d\/y∈D.map Prod.fst)\/y=s.t:=by
   rcases hy with hy|hy
   ·exact .inl (.inl hy)
   rcases List.mem_append.1 hy with hy|hy
   ·exact .inl (.inr hy)
   exact .inr (by simpa using hy)
  rcases this with hy|rfl
  ·rcases h.cl y hy with h1|h1|h1
   ·exact .inl (List.mem_append_left _ h1)
   ·exact .inr (.inl h1)
   exact .inr (.inr fun t K g=>List.mem_append_left _ (h1 t K g))
  exact .inl (by simp)
 ·rw[e] at hy
  rcases List.mem_append.1 hy with hy|hy
  ·exact h.no y hy
  rw[show y=s.t by simpa using hy];exact j
 ·rw[List.length_append,List.length_append] at *
  simp only[List.length_cons,List.length_nil] at *;omega
 rw[e];exact(h.op_ y hy).imp id fun h=>List.mem_append_left _ h
theorem FnM.shut {a:Au} {e:List Int} {dn:Int->Bool} {D:List (Int×Stp)} {x:Int} {q:List Int} {n:Nat} (h:FnM a e dn D q n (some x)) (g:∀s∈a.ss,s.f=x->s.t∈D.map Prod.fst):FnM a e dn D q n none:=
 ⟨h.by_,h.qs,fun y d=>by
  rcases h.cl y d with h1|h1|h1
  ·exact .inl h1
  ·obtain rfl:=Option.some.inj h1
   exact .inr (.inr g)
  exact .inr (.inr h1),h.no,h.few,fun y d=>by cases d⟩
theorem FnM.none_ {a:Au} {d:List Int} {dn:Int->Bool} {D:List (Int×Stp)} {n:Nat} (h:FnM a d dn D [] n none) {f y:Int} (i:f∈d) (j:vT (oK a) f y):dn y=false:=by
 have g:∀x,(x∈d\/x∈D.map Prod.fst)->∀s∈a.ss,s.f=x->s.t∈D.map Prod.fst:=fun x m=>by
  rcases h.cl x m with h1|h1|h1
  ·simp at h1
  ·cases h1
  exact h1
 have:∀z,vT (oK a) f z->z∈D.map Prod.fst:=by
  intro z u
  induction u with
  |one he=>obtain⟨s,e,h1,rfl⟩:=he;exact g _ (.inl i) s e h1
  |on _ he ih=>obtain⟨s,e,h1,rfl⟩:=he;exact g _ (.inr ih) s e h1
 exact h.no y (this y j)
def aK (a:Au) (fr:List Int) (dn:Int->Bool) (r:Int) (D:List (Int×Stp)):Prop:=
 dF a fr D/\((∃ D0 s,D=D0++[(r,s)]/\dn r=true/\0<=r/\r<a.st)\/(r=-1/\∀f∈fr,∀y,vT (oK a) f y->dn y=false))
theorem aK.no {a:Au} {d:List Int} {dn:Int->Bool} {D:List (Int×Stp)} {n:Nat} (h:FnM a d dn D [] n none):aK a d dn (-1) D:=⟨h.by_,.inr ⟨rfl,fun _ e _ g=>h.none_ e g⟩⟩
theorem aK.yes {a:Au} (i:jT a) {d:List Int} {dn:Int->Bool} {D:List (Int×Stp)} {x:Int} {q:List Int} {n:Nat} (h:FnM a d dn D q n (some x)) {s:Stp} (e:s∈a.ss) (m:s.f=x) (j:s.t∉D.map Prod.fst) (g:dn s.t=true):aK a d dn s.t (D++[(s.t,s)]):=
 ⟨h.open_in e m j,.inl ⟨D,s,rfl,g,(i.sr s e).2.1⟩⟩
structure uQ (a:Au) (D:List (Int×Stp)) (tg:Int) (i:Nat) (out:List Int):Prop where
 lt:i<D.length
 at_:out=[]/\D[i].1=tg\/cH a D[i].1 out.reverse tg
 few:out.length+i<D.length
theorem uQ.start {a:Au} {D:List (Int×Stp)} {d:Int} {i:Nat} (h:i<D.length) (e:D[i].1=d):uQ a D d i []:=⟨h,.inl ⟨rfl,e⟩,by simpa using h⟩
theorem uQ.path {a:Au} {u:List Int} {D:List (Int×Stp)} {j:Int} {i:Nat} {out:List Int} (J:dF a u D) (h:uQ a D j i out):cH a (D[i]'h.lt).2.f (out++[(D[i]'h.lt).2.l]).reverse j:=by
 have K:=h.lt;obtain⟨m,s,_⟩:=J.by_ i K;have e:(out++[D[i].2.l]).reverse=D[i].2.l::out.reverse:=by simp
 rw[e];have d:(⟨D[i].2.f,D[i].2.l,D[i].1⟩:Stp)∈a.ss:=by rw[<-s];exact m
 have g:=h.at_;generalize D[i].1=y at d g
 rcases g with⟨h0,rfl⟩|h1
 ·subst h0;exact .one d
 exact .cons d h1
theorem uQ.step {a:Au} {g:List Int} {D:List (Int×Stp)} {J:Int} {i:Nat} {out:List Int} (m:dF a g D) (h:uQ a D J i out) {first:Int->Bool} (d:∀x∈g,first x=true) (e:first (D[i]'h.lt).2.f=false):
  ∃j,j<i/\uQ a D J j (out++[(D[i]'h.lt).2.l])/\∃O:j<D.length,D[j].1=(D[i]'h.lt).2.f:=by
 obtain⟨j,N,s,u⟩:=m.back d h.lt e;have K:=h.path m;have:=h.few;exact⟨j,N,⟨s,.inr (by rw[u];exact K),by rw[List.length_append];simp;omega⟩,s,u⟩
theorem uQ.len {a:Au} {D:List (Int×Stp)} {d:Int} {i:Nat} {out:List Int} (h:uQ a D d i out) (x:Int):(out++[x]).length<=D.length:=by
 have:=h.few;rw[List.length_append];simp;omega
def zHP (a:Au) (first:Int->Bool) (tg:Int) (N:Nat) (out:List Int):Prop:=(∃ f,first f=true/\cH a f out tg)/\out.length<=N
theorem uQ.o {a:Au} {g:List Int} {D:List (Int×Stp)} {e:Int} {i:Nat} {out:List Int} (j:dF a g D) (h:uQ a D e i out) {first:Int->Bool} (d:first (D[i]'h.lt).2.f=true):zHP a first e D.length (out++[(D[i]'h.lt).2.l]).reverse:=
 ⟨⟨_,d,h.path j⟩,by rw[List.length_reverse];exact h.len _⟩
theorem Rch.plus {a:Au} {q:Int} (h:Rch a q):q∈a.fs\/∃f∈a.fs,vT (oK a) f q:=by
 induction h with
 |first h=>exact .inl h
 |@step s _ hs ih=>
  rcases ih with h1|⟨f,hf,h1⟩
  ·exact .inr ⟨_,h1,.one ⟨s,hs,rfl,rfl⟩⟩
  exact .inr ⟨f,hf,h1.on ⟨s,hs,rfl,rfl⟩⟩
theorem zDc {a:Au} (j:jT a) (h:∀q:Int,0<=q->q<a.st->Rch a q->a.good q->¬vT (oK a) q q) (u:Nat->Int):¬xJ a u:=fun m=>by
 obtain⟨q,d,e,g,i⟩:=zDA j m;exact h q d.1 d.2 e g i
theorem zEC {a:Au} (m:jT a) {n:Int} (N:a.good n) {e d:List Int} {u:List (Int×Stp)} {i:List Int} (K:dF a i u) (O:zHP a (fun k=>k==n) n u.length e)
  (J:d=[]/\n∈a.fs\/∃j h,dF a j h/\zHP a (fun k=>decide (k∈a.fs)) n h.length d):zDe a ⟨d,e⟩:=by
 obtain⟨⟨f,s,hp⟩,U⟩:=O;obtain rfl:f=n:=by simpa using s
 have l1:=K.len m;refine⟨⟨f,N,?_,hp⟩,?_,by show(e.length:Int)<=_;omega⟩
 ·rcases J with⟨h2,h3⟩|⟨_,_,_,⟨g,hg1,hg2⟩,_⟩
  ·exact .inl ⟨h2,h3⟩
  exact .inr ⟨g,by simpa using hg1,hg2⟩
 show(d.length:Int)<=_
 rcases J with⟨h2,h3⟩|⟨_,h,h4,_,h5⟩
 ·rw[h2];have:=m.st1;simp;omega
 have:=h4.len m;omega
end
section
open Go Go.RowKit
section
variable {n:Nat} {P:Program}
theorem oM {α:Type} {g:Operand} {ps:Array Tmp} {assign body:Code} {Q:Exit->Act->World->Prop} {a:Act} {w:World} {l0:Nat} {r0:Loop} (hl0:w.heap[l0]?=some (.loop r0)) (h1:1<=n) {gf:Nat} {lb:Array Value}
  (hg:a.eval g=.func (.func gf) #[] lb) (eg:∀args w,(callFunc gf args).run P w=.ok (.enter gf args) w)
  {m:α->Array Value} {Kp:World->World->Prop} {S:World->Prop} {xs:List α} {w0:World} (hseq:zGz (n-1) P gf lb m Kp S xs w0)
  (u:∀{A B C:World},Kp A B->Kp B C->Kp A C) (hKb:∀(W:World) (r r':Loop),W.heap[w.heap.size]?=some (.loop r)->Kp W (W.putObj w.heap.size (.loop r'))) (hS:∀r,S (w.alloc (.loop r)))
  (hb0:Below w0 w0 w) (hps:∀x,(m x).size=ps.size)
  (I:List α->World->Prop) (Ix:Code->List α->World->Prop) (hI:OwnFrom w.heap.size I) (hIx:∀c,OwnFrom w.heap.size (Ix c)) (h0:I [] w)
  (Ax:α->Act->World->Prop) (hAx:∀x a',OwnFrom w.heap.size (fun(_:Unit) W=>Ax x a' W))
  (hassign:∀(l:Nat) (d:List α) (x:α) (W:World) (K:Act->World->Prop),I d W->(∀ a' W',KeepsFrom w.heap.size W W'->Kp W W'->I d W'->Ax x a' W'->K a' W')->
   assign.wpIn (Fence.wide.inRound l) (n-1-1) P (Exit.then K (fun _ _ _=>False)) {tmps:=(ps.zip (m x)).foldl (fun t (p,v)=>t.setIfInBounds p v) a.tmps,defers:=[]} W)
  (hbody:∀(l:Nat) (d:List α) (x:α) (a':Act) (W:World),w.heap.size<=l->(∃ r,W.heap[l]?=some (.loop r))->I d W->Ax x a' W->d++[x]<+:xs->
   body.wpIn (Fence.wide.inRound l) (n-1-1) P (zCz w.heap.size Kp I Ix (d++[x]) W) a' W)
  (hdone:∀(W:World),I xs W->Q .normal a W)
  (hstop:∀(c:Code) (d:List α) (W:World),d<+:xs->Ix c d W->c.wpIn (Fence.wide.inRound l0) n P Q a W):
  (Code.rangeFunc g ps assign body).wpIn (Fence.wide.inRound l0) n P Q a w:=by
 refine wpIn_rangeFunc fun fn hfn=>?_
 have hL:=Nat.lt_succ_self w.heap.size;generalize hrec:(fun st pe=>({state:=st,pending:=pe,fn,tmps:=a.tmps,params:=ps,assign,body,defers:=r0.defers}:Loop))=rec
 have hrs:∀st pe,(rec st pe).state=st:=by intro st pe;rw[<-hrec]
 have hrp:∀st pe,(rec st pe).pending=pe:=by intro st pe;rw[<-hrec]
 obtain⟨W1,J⟩:∃W1,W1=w.alloc (.loop (rec .ready none)):=⟨_,rfl⟩;have hs1:W1.heap.size=w.heap.size+1:=by rw[J];simp
 have rL:W1.heap[w.heap.size]?=some (.loop (rec .ready none)):=by rw[J];exact World.alloc_heap_new w _
 have i1:I [] W1:=by rw[J];exact hI.alloc _ h0
 have b1:Below w0 w0 W1:=by
  have hb:Below w w W1:=by rw[J];exact(Below.refl _ w).alloc nLe _
  exact hb0.trans (hb.mono hb0.size)
 refine⟨w.heap.size,[],W1,{target:=.fn (.func gf) lb,args:=#[.func (.yield w.heap.size) #[] #[]]},W1,gf,
  #[.func (.yield w.heap.size) #[] #[]]++lb,W1,?_,?_,fun _ _=>trivial,?_,fun _=>h1,?_⟩
 ·rw[J,<-hrec]
  exact run_enterLoop_inner hl0 _ _ _ _ _
 ·simp only[resolve,hg]
  simp[go_sem]
 ·simp[invoke,go_sem,eg]
 have own2:∀{A B:World} {row:Option Nat},(∀ r,row=some r->W1.heap.size<=r/\∃o:Obj,A.heap[r]?=some o/\o.isCells=false)->(∀ r,row=some r->w.heap.size<=r/\∃o:Obj,A.heap[r]?=some o/\o.isCells=false):=
  fun U r e=>⟨by have:=(U r e).1;omega,(U r e).2⟩
 refine(hseq w.heap.size
  (fun d W=>I d W/\W.heap[w.heap.size]?=some (.loop (rec .ready none)))
  (fun d W=>∃c,Ix c d W/\W.heap[w.heap.size]?=some (.loop (rec .done (some c))))
  W1 b1 (by rw[J];exact hS _)
  (fun s A B row hs hg' U=>⟨hI s A B row hs.1 hg' (own2 (B:=B) U),dG hg' (fun r e=>(U r e).1) (by omega) hs.2⟩)
  (fun s A B row ⟨c,hc,h2⟩ hg' U=>⟨c,hIx c s A B row hc hg' (own2 (B:=B) U),dG hg' (fun r e=>(U r e).1) (by omega) h2⟩)
  ?_ ⟨i1,rL⟩).mono ?_
 ·rintro d x W ⟨hi,hl⟩ hpre
  have hlt:w.heap.size<W.heap.size:=(gLt hl)
  have hy:=run_yield (P:=P) (args:=m x) hl (by rw[<-hrec];exact hps x)
  rw[<-hrec] at hy;refine⟨fn,_,assign,body,hy,roundIn_of_wpIn hfn (hassign _ d x W _ hi fun a' Wa ka kpa ia xa=>?_)⟩
  clear hy;have hla:=ka.same _ _ (by omega) hl rfl
  have hlta:w.heap.size<Wa.heap.size:=(gLt hla)
  refine⟨_,run_beginRound hla (hrs _ _),?_⟩;obtain⟨W2,N⟩:∃W2,W2=Wa.putObj w.heap.size (.loop {rec .ready none with state:=.busy}):=⟨_,rfl⟩;rw[<-N]
  have hl2:W2.heap[w.heap.size]?=some (.loop {rec .ready none with state:=.busy}):=by rw[N];exact World.putObj_heap_same hlta
  have kp2:Kp Wa W2:=by rw[N];exact hKb _ _ _ hla
  have i2:I d W2:=by rw[N];exact hI.putObj _ ia (by omega) hla rfl
  have x2:Ax x a' W2:=by rw[N];exact(hAx x a').putObj (s:=()) _ xa (by omega) hla rfl
  clear N
  have fin:∀(h:Option Code) (O:World),KeepsFrom w.heap.size W2 O->∃i,(Instr.endRound w.heap.size h).run P O=.ok (.bool h.isNone) i/\
    (O.heap[w.heap.size]?=some (.loop {rec .ready none with state:=.busy}))/\i=O.putObj w.heap.size (.loop (rec (if h.isNone then .ready else .done) h))/\
    i.heap[w.heap.size]?=some (.loop (rec (if h.isNone then .ready else .done) h)):=fun h O k3=>by
   have h3:=k3.same _ _ (by omega) hl2 rfl
   refine⟨_,?_,h3,rfl,World.putObj_heap_same (gLt h3)⟩;have:=run_endRound (P:=P) h h3;rw[<-hrec] at this ⊢;exact this
  refine wpIn_mono (hbody _ d x a' W2 (by omega) ⟨_,hl2⟩ i2 x2 hpre) ?_
  rintro e a3 O hp
  have j:∀c:Code,KeepsFrom w.heap.size W2 O/\Kp W2 O/\Ix c (d++[x]) O->∃v i,(Instr.endRound w.heap.size (some c)).run P O=.ok v i/\
    ((Ending.returned v=.returned (.bool true)/\(I (d++[x]) i/\i.heap[w.heap.size]?=some (.loop (rec .ready none)))/\Kp W i)\/
    (Ending.returned v=.returned (.bool false)/\(∃ c,Ix c (d++[x]) i/\i.heap[w.heap.size]?=some (.loop (rec .done (some c))))/\Kp W i)):=fun c ⟨k3,kp3,i3⟩=>by
   obtain⟨i,U,h3,hW4,h5⟩:=fin (some c) O k3;exact⟨_,i,U,.inr ⟨rfl,⟨c,by rw[hW4];exact(hIx c).putObj _ i3 (by omega) h3 rfl,h5⟩,u kpa (u kp2 (u kp3 (by rw[hW4];exact hKb _ _ _ h3)))⟩⟩
  cases e with
  |normal=>
   obtain⟨k3,kp3,i3⟩:=hp;obtain⟨i,U,h3,hW4,h5⟩:=fin none O k3;refine⟨_,i,U,.inl ⟨rfl,⟨by rw[hW4];exact hI.putObj _ i3 (by omega) h3 rfl,h5⟩,u kpa (u kp2 (u kp3 ?_))⟩⟩
   rw[hW4];exact hKb _ _ _ h3
  |ret=>exact j _ hp
  |exit id=>exact j _ hp
  |goto t=>exact j _ hp
  |panic ch=>exact hp.elim
  |outgrown=>exact hp.elim
 rintro e W2 ⟨⟨v,rfl⟩,(⟨hi,hl⟩|⟨d,hpre,c,hi,hl⟩)⟩
 ·have he:=run_endLoop (P:=P) hl (by rw[hrs];decide)
  rw[hrp] at he;exact⟨none,_,he,hdone _ (hI.putObj _ hi (by omega) hl rfl)⟩
 have he:=run_endLoop (P:=P) hl (by rw[hrs];decide)
 rw[hrp] at he;exact⟨some c,_,he,hstop c d _ hpre ((hIx c).putObj _ hi (by omega) hl rfl)⟩
end
end
section
open Go
section
variable {F:Fence} {n:Nat} {P:Program} {ops:Array Oper} {md:Region.Mode} {C:World->Prop}
def eM (F:Fence) (n:Nat) (P:Program) (md:Region.Mode) (ops:Array Oper) (C:World->Prop) (c:List Nat) (Q:Nat->Array Bool->Act->Prop):Nat->Array Bool->Act->Prop
 |0,listed,a=>Region.ready md ops listed=c/\Q 0 listed a
 |fuel+1,listed,a=>
  (Region.ready md ops listed=c->Q (fuel+1) listed a)/\
  (Region.ready md ops listed≠c->Region.ready md ops listed≠[]/\∀i∈Region.ready md ops listed,qOpIn F n P ops C i (eM F n P md ops C c Q fuel (listed.setIfInBounds i true)) a)
def tL (md:Region.Mode) (ops:Array Oper) (listed:Array Bool):Prop:=∀k ok,ops[k]?=some ok->listed.getD k true=true->∀e∈ok.after,Region.binds md e=true->listed.getD e.on false=true
theorem tL.start:tL md ops (Array.replicate ops.size false):=by
 intro k g e h;have d:=(gLt e)
 simp[d] at h
theorem gM {d:Array Bool} {i:Nat} (h:d.getD i false=true):d.getD i true=true:=by
 rcases Nat.lt_or_ge i d.size with h'|h'
 ·simpa[h'] using h
 simp[Array.getElem?_eq_none h'] at h
theorem tL.step {d:Array Bool} (h:tL md ops d) {j:Nat} (K:j∈Region.ready md ops d):tL md ops (d.setIfInBounds j true):=by
 intro k J s u e m i
 by_cases hjk:j=k
 ·subst hjk
  obtain⟨_,o,N,g⟩:=mem_ready.1 K;obtain rfl:o=J:=Option.some.inj (N.symm.trans s);exact getD_set_true (g e m i)
 rw[getD_set_ne true hjk] at u;exact getD_set_true (h k J s u e m i)
def iF (md:Region.Mode) (ops:Array Oper) (c:Nat):List Nat:=
 (List.range (c+1)).reverse.foldl (fun ms k=>if ms.contains k then(match ops[k]? with|some o=>(o.after.toList.filter (fun e=>Region.binds md e)).map (·.on)|none=>[])++ms else ms) [c]
theorem zAR {c:Nat} {d:Array Bool} (U:tL md ops d) (O:c∈Region.ready md ops d):∀x∈iF md ops c,x≠c->d.getD x false=true:=by
 unfold iF
 have K:∀(s g:List Nat),(∀ x∈g,x≠c->d.getD x false=true)->
   ∀x∈s.foldl (fun g k=>if g.contains k then(match ops[k]? with|some o=>(o.after.toList.filter (fun e=>Region.binds md e)).map (·.on)|none=>[])++g else g) g,x≠c->d.getD x false=true:=by
  intro s
  induction s with
  |nil=>exact fun g h=>h
  |cons k s ih=>
   intro g h;rw[List.foldl_cons];refine ih _ ?_
   split
   ·rename_i u
    have u:=List.contains_iff_mem.1 u;intro x hx i
    rcases List.mem_append.1 hx with hx|hx
    ·split at hx
     ·rename_i o ho
      obtain⟨e,j,rfl⟩:=List.mem_map.1 hx;obtain⟨j,N⟩:=List.mem_filter.1 j;have j:=Array.mem_toList_iff.1 j
      by_cases hkc:k=c
      ·subst hkc
       obtain⟨_,o',J,m⟩:=mem_ready.1 O;obtain rfl:o'=o:=Option.some.inj (J.symm.trans ho);exact m e j N
      exact U k o ho (gM (h k u hkc)) e j N
     cases hx
    exact h x hx i
   exact h
 exact K _ [c] (fun x hx i=>absurd (List.mem_singleton.1 hx) i)
theorem zA0 {c:Nat} {cs:List Nat} (u:∀x∈cs,x=c) {Q:Nat->Array Bool->Act->Prop} {i:Nat} {oi:Oper} {v:Value} (hi:ops[i]?=some oi) (O:∀(j:Nat) (o:Oper) cs b,ops[j]?=some o->o.op≠.select cs b) (U:i≠c) (him:i∈iF md ops c):
  ∀(g:Nat) (d:Array Bool) (a:Act),tL md ops d->
   (∀ j oj,ops[j]?=some oj->j≠i->d.getD j true=false->(∀ e∈oj.after,Region.binds md e=true->e.on≠i)->oi.apart ops oj=true)->
   i∈Region.ready md ops d->YieldsQuiet F n P ops C oi v a->
   eM F n P md ops C cs Q g (d.setIfInBounds i true) (a.put oi.dst v)->eM F n P md ops C cs Q (g+1) d a:=by
 have nc:∀d,tL md ops d->i∈Region.ready md ops d->c∉Region.ready md ops d:=fun d hd m hcr=>by
  have h1:=zAR hd hcr i him U;have h0:=(mem_ready.1 m).1;rw[gM h1] at h0;cases h0
 intro g
 induction g with
 |zero=>
  intro d a J _ m hy H;refine⟨fun h=>absurd (u i (by rw[<-h];exact m)) U,fun _=>⟨fun h=>(by rw[h] at m;cases m),fun j hj=>?_⟩⟩
  by_cases hji:j=i
  ·subst hji;exact hy.qOpIn hi H
  have:=ready_mono hj hji;rw[H.1] at this;exact absurd (by rw[<-u j this];exact hj) (nc d J m)
 |succ g ih=>
  intro d a J s m hy H;refine⟨fun h=>absurd (u i (by rw[<-h];exact m)) U,fun _=>⟨fun h=>(by rw[h] at m;cases m),fun j hj=>?_⟩⟩
  by_cases hji:j=i
  ·subst hji;exact hy.qOpIn hi H
  have hjr:=ready_mono hj hji
  have hne:Region.ready md ops (d.setIfInBounds i true)≠cs:=fun h=>by
   rw[h] at hjr;exact absurd (by rw[<-u j hjr];exact hj) (nc d J m)
  have h1:=(H.2 hne).2 j hjr;obtain⟨N,oj,hoj,hall⟩:=mem_ready.1 hj
  have hnot:∀e∈oj.after,Region.binds md e=true->e.on≠i:=fun e he hb heq=>by
   have h1:=gM (hall e he hb);have h0:=(mem_ready.1 m).1;rw[heq,h0] at h1;cases h1
  have h2:=qOpIn_put hoj (s j oj hoj hji N hnot) (fun cs b=>O i oi cs b hi) (fun cs b=>O j oj cs b hoj) hy h1
  have K:∀k ok,ops[k]?=some ok->k≠i->(d.setIfInBounds j true).getD k true=false->
    (∀ e∈ok.after,Region.binds md e=true->e.on≠i)->oi.apart ops ok=true:=fun k ok hk hki hun hno=>by
   refine s k ok hk hki ?_ hno
   by_cases hjk:j=k
   ·subst hjk;exact N
   rw[getD_set_ne true hjk] at hun;exact hun
  refine qOpIn_mono (fun a' h3=>ih (d.setIfInBounds j true) a' (J.step hj) K (ready_mono m (Ne.symm hji)) h3.1 ?_) h2
  rw[Array.setIfInBounds_comm _ _ hji];exact h3.2
def Region.lexUpto (md:Region.Mode) (ops:Array Oper) (c:List Nat) (ms:List Nat):Nat->Nat->Array Bool->Bool
 |0,_,listed=>Region.ready md ops listed==c
 |fuel+1,k,listed=>(Region.ready md ops listed).contains k&&Region.free md ops listed k&&ms.contains k&&Region.lexUpto md ops c ms fuel (k+1) (listed.setIfInBounds k true)
def dU:Nat->Nat->Array Bool->Array Bool
 |0,_,listed=>listed
 |fuel+1,k,listed=>dU fuel (k+1) (listed.setIfInBounds k true)
theorem iX {c:Nat} {cs:List Nat} (g:∀x∈cs,x=c) {Q:Nat->Array Bool->Act->Prop} (J:Region.noSelect ops=true) (r:Nat):∀(l:List Oper) (k:Nat) (d:Array Bool) (a:Act),(∀ j,j<l.length->l[j]?=ops[k+j]?)->k+l.length<=c->tL md ops d->
  Region.lexUpto md ops cs (iF md ops c) l.length k d=true->wpQuietIn F n P ops C (fun a'=>Q r (dU l.length k d) a') l a->eM F n P md ops C cs Q (l.length+r) d a
 |[],k,d,a,_,_,_,e,h=>by
  have e:Region.ready md ops d=cs:=by simpa[Region.lexUpto] using e
  rw[List.length_nil,Nat.zero_add]
  cases r with
  |zero=>exact⟨e,h⟩
  |succ r=>exact⟨fun _=>h,fun U=>absurd e U⟩
 |o::l,k,d,a,hl,hkc,hdn,e,h=>by
  have m:ops[k]?=some o:=by simpa using(hl 0 (by simp)).symm
  simp only[List.length_cons,Region.lexUpto,Bool.and_eq_true] at e;obtain⟨⟨⟨hr,N⟩,O⟩,s⟩:=e;have i:k∈Region.ready md ops d:=by simpa using hr
  have u:qOpIn F n P ops C k (wpQuietIn F n P ops C (fun a'=>Q r (dU l.length (k+1) (d.setIfInBounds k true)) a') l) a:=by unfold qOpIn;simp only[m];exact h
  obtain⟨v,hy,K⟩:=yieldsQuiet_of_qOpIn m u
  have:=zA0 g (Q:=Q) m (Region.noSelect_spec J) (by simp at hkc;omega) (List.contains_iff_mem.1 O) (l.length+r) d a hdn (Region.free_spec m N) i hy
   (iX g J r l (k+1) _ _ (fun j hj=>by have:=hl (j+1) (by simp;omega);simpa[Nat.add_assoc,Nat.add_comm 1 j] using this) (by simp at hkc;omega) (hdn.step i) s K)
  rw[List.length_cons,show l.length+1+r=l.length+r+1 by omega]
  exact this
def fG (ops:Array Oper):Bool:=ops.all fun o=>match o.op with| .defer _=>false|_=>true
theorem sP (h:fG ops=true) {i:Nat} {o:Oper} (e:ops[i]?=some o):∀c,o.op≠.defer c:=by
 intro c d;have:=Array.all_eq_true'.1 h o (Array.mem_of_getElem? e);rw[d] at this;cases this
theorem Oper.wpIn_of_quietT {o:Oper} {a:Act} {K:Act->Prop} {N:Act->World->Prop} {O:Exit->Act->World->Prop} {w:World} (J:∀c,o.op≠.defer c) (j:C w) (h:∀a w',C w'->K a->N a w')
  (ha:o.askedIn F P a C) (hh:o.quietIn F n P a C K):o.wpIn F n P a w N O:=by
 obtain⟨v,U,s⟩:=hh;have d:=U w j;unfold Oper.quietAtIn at d;unfold Oper.wpIn;refine⟨ha w j,?_⟩;rw[Oper.semAt_plain F _ _ J];generalize (execOp a.eval o).run P w=r at *
 cases r with
 |ok x w'=>
  cases x<;>simp only[Oper.quietUponIn] at d<;>simp only[Oper.uponIn]
  case value u=>
   obtain⟨g,m⟩:=d;rw[g,m];exact h _ _ j s
  case skip=>
   obtain⟨g,m⟩:=d;rw[g,<-m];exact h _ _ j s
  case enter f args=>
   obtain⟨g,hd,hc⟩:=d;rw[g];exact⟨hd,hc.mono fun e w'' ⟨he,i⟩=>by subst he;exact h _ _ i s⟩
 |halt x w'=>simp only[Oper.quietUponIn] at d
theorem nY {i:Nat} {a:Act} {K:Act->Prop} {j:Act->World->Prop} {s:Exit->Act->World->Prop} {w:World} (g:fG ops=true) (e:C w) (h:∀a w',C w'->K a->j a w')
  (d:qOpIn F n P ops C i K a):wpOpIn F n P ops s i j a w:=by
 unfold qOpIn at d;unfold wpOpIn
 split
 ·rename_i ho;simp only[ho] at d;exact h _ _ e d
 rename_i o ho
 simp only[ho] at d;obtain⟨m,d⟩:=d
 split
 ·rename_i hw;simp only[hw,if_true] at d;exact Oper.wpIn_of_quietT (sP g ho) e h m d
 rename_i hw;simp only[hw] at d;exact⟨m w e,h _ _ e d⟩
theorem cS {cs:List Nat} {Q:Nat->Array Bool->Act->Prop} {m:Exit->Act->World->Prop} (e:fG ops=true) (g:∀r d a w,C w->Q r d a->wpAnyIn F n P md ops m r d a w):∀(fuel:Nat) (d:Array Bool) (a:Act) (w:World),C w->
  eM F n P md ops C cs Q fuel d a->wpAnyIn F n P md ops m fuel d a w
 |0,_,_,_,hw,h=>g _ _ _ _ hw h.2
 |fuel+1,d,a,w,hw,h=>by
  by_cases hc:Region.ready md ops d=cs
  ·exact g _ _ _ _ hw (h.1 hc)
  obtain⟨u,J⟩:=h.2 hc;exact⟨fun s=>absurd s u,fun i K=>nY e hw (fun a' w' j=>cS e g fuel _ a' w' j) (J i K)⟩
theorem gT {Q e:Act->Prop} (h:∀a,Q a->e a):∀(l:List Oper) (a:Act),wpQuietIn F n P ops C Q l a->wpQuietIn F n P ops C e l a
 |[],a,hh=>h a hh
 |o::l,a,hh=>by
  refine⟨hh.1,?_⟩;have d:=hh.2
  split
  ·rename_i hw
   simp only[hw,if_true] at d;exact Oper.quietIn_mono (gT h l) d
  rename_i hw
  simp only[hw] at d;exact gT h l _ d
def Region.rowFrom (md:Region.Mode) (ops:Array Oper):Nat->Nat->Array Bool->Bool
 |0,_,listed=>(Region.ready md ops listed).isEmpty
 |fuel+1,k,listed=>(Region.ready md ops listed==[k])&&Region.rowFrom md ops fuel (k+1) (listed.setIfInBounds k true)
theorem aC {Q:Exit->Act->World->Prop}:∀(l:List Oper) (k:Nat) (d:Array Bool) (a:Act) (w:World),(∀ j,l[j]?=ops[k+j]?)->Region.rowFrom md ops l.length k d=true->
  wpListIn F n P ops Q l a w->wpAnyIn F n P md ops Q l.length d a w
 |[],k,d,a,w,_,hB,h=>⟨by simpa[Region.rowFrom] using hB,h⟩
 |o::l,k,d,a,w,hl,hB,h=>by
  have u:ops[k]?=some o:=by simpa using(hl 0).symm
  simp only[List.length_cons,Region.rowFrom,Bool.and_eq_true,beq_iff_eq] at hB;obtain⟨m,e⟩:=hB;refine⟨fun h=>(by rw[m] at h;cases h),fun i g=>?_⟩
  rw[m] at g;obtain rfl:=List.mem_singleton.1 g
  have s:wpOpIn F n P ops Q i (wpListIn F n P ops Q l) a w:=by
   unfold wpOpIn;simp only[u];exact h
  exact wpOpIn_mono (fun a' w' J=>aC l (i+1) _ a' w' (fun j=>by have:=hl (j+1);simpa[Nat.add_assoc,Nat.add_comm 1 j] using this) e J) s
def Region.tailB (md:Region.Mode) (ops:Array Oper) (c:Nat):Bool:=
 Region.noSelect ops&&fG ops&&Nat.ble c ops.size&&Region.lexUpto md ops (if c<ops.size then[c] else[]) (iF md ops c) c 0 (Array.replicate ops.size false)&&Region.rowFrom md ops (ops.size-c) c (dU c 0 (Array.replicate ops.size false))
theorem lL {id:Nat} {Q:Exit->Act->World->Prop} {a:Act} {w:World} {l:List Oper} (c:Nat) (hm:P.follows .mixedOrders=true) (K:Region.tailB .any l.toArray c=true)
  (h:wpQuietIn F n P l.toArray (fun w'=>∃k,w'=w.drewN k) (fun a'=>∀w',(∃ k,w'=w.drewN k)->wpListIn F n P l.toArray Q (l.drop c) a' w') (l.take c) a):(Code.region id l.toArray true).wpIn F n P Q a w:=by
 simp only[Region.tailB,Bool.and_eq_true,Nat.ble_eq] at K;obtain⟨⟨⟨⟨hs,s⟩,m⟩,hL⟩,hR⟩:=K;have O:c<=l.length:=by simpa using m
 have u:l.toArray.size=(l.take c).length+(l.drop c).length:=by simp;omega
 have e:(l.take c).length=c:=by simp;omega
 have i:(l.drop c).length=l.toArray.size-c:=by simp
 refine wpIn_region_any hm (cS (C:=fun w'=>∃k,w'=w.drewN k) (cs:=if c<l.toArray.size then[c] else[]) (Q:=fun r d a'=>r=(l.drop c).length/\d=dU c 0 (Array.replicate l.toArray.size false)/\∀w',(∃ k,w'=w.drewN k)->wpListIn F n P l.toArray Q (l.drop c) a' w') s ?_ _ _ _ _ ⟨1,rfl⟩ ?_)
 ·rintro r d a' w' hC ⟨rfl,rfl,g⟩
  refine aC (l.drop c) c _ a' w' (fun j=>by simp) (by rw[i];exact hR) (g w' hC)
 have U:=iX (F:=F) (n:=n) (P:=P) (C:=fun w'=>∃k,w'=w.drewN k) (md:=.any) (c:=c) (cs:=if c<l.toArray.size then[c] else[]) (fun x J=>by split at J;exact List.mem_singleton.1 J;cases J)
  (Q:=fun r d a'=>r=(l.drop c).length/\d=dU c 0 (Array.replicate l.toArray.size false)/\∀w',(∃ k,w'=w.drewN k)->wpListIn F n P l.toArray Q (l.drop c) a' w') hs (l.drop c).length (l.take c) 0 (Array.replicate l.toArray.size false) a
  (fun j N=>by rw[e] at N;rw[List.getElem?_take_of_lt N,Nat.zero_add,List.getElem?_toArray]) (by omega) tL.start (by rw[e];exact hL) (by
   rw[e];refine gT ?_ _ _ h;exact fun a' g=>⟨rfl,rfl,g⟩)
 rw[<-u] at U;exact U
theorem vX {id:Nat} {Q:Exit->Act->World->Prop} {a:Act} {w:World} {l:List Oper} (c:Nat) (i:P.follows .mixedOrders=true) (d:Region.tailB .any l.toArray c=true)
  (h:∀X:Act->Prop,(∀ a',(∀ k,wpListIn F n P l.toArray Q (l.drop c) a' (w.drewN k))->X a')->wpQuietIn F n P l.toArray (fun w'=>∃k,w'=w.drewN k) X (l.take c) a):(Code.region id l.toArray true).wpIn F n P Q a w:=
 lL c i d (h _ fun a' e w' ⟨k,g⟩=>by rw[g];exact e k)
end
section
variable {F:Fence} {n:Nat} {P:Program} {ops:Array Oper} {Q:Exit->Act->World->Prop} {md:Region.Mode} {S:World->Prop} {z:Nat}
def kJ (F:Fence) (n:Nat) (P:Program) (ops:Array Oper) (S:World->Prop) (o:Oper) (v:Value) (a:Act):Prop:=∀w,S w->YieldsQuiet F n P ops (fun w'=>w'=w) o v a
theorem kJ.wpOpIn {i:Nat} {o:Oper} {v:Value} {a:Act} (d:fG ops=true) (g:ops[i]?=some o) (m:kJ F n P ops S o v a) {K:Act->World->Prop} {w:World} (e:S w) (h:K (a.put o.dst v) w):wpOpIn F n P ops Q i K a w:=by
 have j:=(m w e).qOpIn g (K:=fun a'=>a'=a.put o.dst v) rfl
 refine nY (C:=fun w'=>w'=w) d rfl ?_ j
 rintro a' w' rfl rfl;exact h
theorem kJ.of_same {o:Oper} {v:Value} {a a':Act} (i:kJ F n P ops S o v a) (g:execOp a'.eval o=execOp a.eval o)
  (h:Region.wanted o (yielded ops a'.tmps)=Region.wanted o (yielded ops a.tmps)) (e:∀w,o.about P w a'.eval=o.about P w a.eval):kJ F n P ops S o v a':=fun w d=>(i w d).of_same g h e
theorem zCQ {j:Nat} {g i:Oper} {v:Value} (hnd:fG ops=true) (hj:ops[j]?=some i) (hap:g.apart ops i=true)
  (hsi:∀cs b,g.op≠.select cs b) (hsj:∀cs b,i.op≠.select cs b)
  (hQ:∀c a w,Q (.panic c) (a.put g.dst v) w->Q (.panic c) a w) {K:Act->World->Prop} {a:Act} {w:World}
  (s:kJ F n P ops S g v a) (h:wpOpIn F n P ops Q j K (a.put g.dst v) w):
  wpOpIn F n P ops Q j (fun a' w'=>kJ F n P ops S g v a'/\K (a'.put g.dst v) w') a w:=by
 obtain⟨h1,J,h3⟩:=Oper.apart_spec hap
 have keep:∀(a:Act),kJ F n P ops S g v a->∀u,kJ F n P ops S g v (a.put i.dst u):=fun a s u=>
  s.of_same (execOp_put g hsi a i.dst u h3) (wanted_put g a i.dst u h3) (fun w=>about_put g w a i.dst u h3)
 have N:∀d,kJ F n P ops S g v {a with defers:=d::a.defers}:=fun d=>s.of_same rfl rfl (fun _=>rfl)
 have O:=sP hnd hj;unfold wpOpIn at *;simp only[hj] at *;rw[wanted_put i a g.dst v h1,about_put i w a g.dst v h1] at h
 split
 ·rename_i hw
  simp only[hw,if_true] at h;unfold Oper.wpIn at *;rw[about_put i w a g.dst v h1] at h;refine⟨h.1,?_⟩;have h:=h.2;rw[Oper.semAt_plain F _ _ O,execOp_put i hsj a g.dst v h1] at h;rw[Oper.semAt_plain F _ _ O]
  generalize (execOp a.eval i).run P w=r at *
  cases r with
  |ok x w'=>
   cases x<;>simp only[Oper.uponIn] at h ⊢
   case value u=>exact⟨keep a s u,by rw[<-Act.put_comm a v u J];exact h⟩
   case skip=>exact⟨keep a s _,by rw[<-Act.put_comm a v undef J];exact h⟩
   case defer d=>
    refine⟨keep _ (N d) _,?_⟩;rw[<-Act.put_comm _ v undef J,<-Act.put_defers];exact h
   case enter f args=>
    refine⟨h.1,CallsIn.mono h.2 fun e U m=>?_⟩
    cases e with
    |returned u=>exact⟨keep a s u,by rw[<-Act.put_comm a v u J];exact m⟩
    |panicked c=>exact hQ _ _ _ m
    |outgrown=>exact m
   case row row args=>exact⟨h.1,RowsIn.mono h.2 fun u U m=>⟨keep a s u,by rw[<-Act.put_comm a v u J];exact m⟩⟩
   case round l f tmps assign body=>
    refine⟨h.1,RoundIn.mono h.2 fun e U m=>?_⟩
    cases e with
    |returned u=>exact⟨keep a s u,by rw[<-Act.put_comm a v u J];exact m⟩
    |panicked c=>exact hQ _ _ _ m
    |outgrown=>exact m
  |halt x w'=>
   cases x<;>simp only[Oper.uponIn] at h ⊢
   case panic u=>exact hQ _ _ _ h
 rename_i hw
 simp only[hw] at h;exact⟨h.1,keep a s _,by rw[<-Act.put_comm a v undef J];exact h.2⟩
def jS (F:Fence) (n:Nat) (P:Program) (md:Region.Mode) (ops:Array Oper) (Q:Exit->Act->World->Prop) (S:World->Prop) (z:Nat):Nat->Array Bool->Act->World->Prop
 |0,listed,a,w=>Region.ready md ops listed=[]/\Q .normal a w
 |fuel+1,listed,a,w=>(Region.ready md ops listed=[]->Q .normal a w)/\
  ∀i∈Region.ready md ops listed,wpOpIn F n P ops Q i (fun a' w'=>(i=z\/S w')/\jS F n P md ops Q S z fuel (listed.setIfInBounds i true) a' w') a w
theorem sN:∀(fuel:Nat) (d:Array Bool) (a:Act) (w:World),jS F n P md ops Q S z fuel d a w->wpAnyIn F n P md ops Q fuel d a w
 |0,_,_,_,h=>h
 |fuel+1,_,_,_,h=>⟨h.1,fun i g=>wpOpIn_mono (fun a' w' e=>sN fuel _ a' w' e.2) (h.2 i g)⟩
theorem aU {i:Nat} {oi:Oper} {v:Value} (hnd:fG ops=true) (hi:ops[i]?=some oi) (U:∀(j:Nat) (o:Oper) cs b,ops[j]?=some o->o.op≠.select cs b)
  (hQ:∀c a w,Q (.panic c) (a.put oi.dst v) w->Q (.panic c) a w) (m:Nat) (hz:bX md ops i m z=true):
  ∀(g:Nat) (d:Array Bool) (a:Act) (w:World),bK md ops d->
   (∀ j oj,ops[j]?=some oj->j≠i->d.getD j true=false->(∀ e∈oj.after,Region.binds md e=true->e.on≠i)->oi.apart ops oj=true)->
   i∈Region.ready md ops d->kJ F n P ops S oi v a->S w->
   jS F n P md ops Q S z g (d.setIfInBounds i true) (a.put oi.dst v) w->jS F n P md ops Q S z (g+1) d a w:=by
 intro g
 induction g with
 |zero=>
  intro d a w _ _ O hy hS H;refine⟨fun h=>(by rw[h] at O;cases O),fun j hj=>?_⟩
  by_cases hji:j=i
  ·subst hji;exact hy.wpOpIn hnd hi hS ⟨.inr hS,H⟩
  have:=ready_mono hj hji;rw[H.1] at this;cases this
 |succ g ih=>
  intro d a w hcl s O hy hS H;refine⟨fun h=>(by rw[h] at O;cases O),fun j hj=>?_⟩
  by_cases hji:j=i
  ·subst hji;exact hy.wpOpIn hnd hi hS ⟨.inr hS,H⟩
  have h1:=H.2 j (ready_mono hj hji);obtain⟨N,oj,J,K⟩:=mem_ready.1 hj
  have hjz:j≠z:=by
   rintro rfl
   have:=bY hcl m j hz fun oj' hoj'=>by
    obtain rfl:oj'=oj:=Option.some.inj (hoj'.symm.trans J)
    exact K
   rw[wD O] at this;cases this
  have hnot:∀e∈oj.after,Region.binds md e=true->e.on≠i:=fun e he hb heq=>by
   have h1:=K e he hb;rw[heq,wD O] at h1;cases h1
  have h2:=zCQ hnd J (s j oj J hji N hnot) (fun cs b=>U i oi cs b hi) (fun cs b=>U j oj cs b J) hQ hy h1
  have u:∀k ok,ops[k]?=some ok->k≠i->(d.setIfInBounds j true).getD k true=false->
    (∀ e∈ok.after,Region.binds md e=true->e.on≠i)->oi.apart ops ok=true:=fun k ok hk hki hun hno=>by
   refine s k ok hk hki ?_ hno
   by_cases hjk:j=k
   ·subst hjk;exact N
   rw[getD_set_ne true hjk] at hun;exact hun
  refine wpOpIn_mono (fun a' w' h3=>⟨h3.2.1,ih (d.setIfInBounds j true) a' w' (hcl.set hj) u (ready_mono O (Ne.symm hji)) h3.1 (h3.2.1.resolve_left hjz) ?_⟩) h2
  rw[Array.setIfInBounds_comm _ _ hji];exact h3.2.2
theorem xT {l g:List Oper} {i:Nat} {j:Oper} {v:Value} {e:Nat} {d:Array Bool} {a:Act} {w:World} (s:l.drop i=j::g) (m:fG l.toArray=true)
  (U:Region.noSelect l.toArray=true) (N:Region.free md l.toArray d i=true) (O:(Region.ready md l.toArray d).contains i=true) (K:lK md l.toArray d=true) (hz:bX md l.toArray i l.length z=true)
  (u:∀c a w,Q (.panic c) (a.put j.dst v) w->Q (.panic c) a w) (hy:kJ F n P l.toArray S j v a) (J:S w)
  (h:jS F n P md l.toArray Q S z e (d.setIfInBounds i true) (a.put j.dst v) w):jS F n P md l.toArray Q S z (e+1) d a w:=
 aU m (kT s) (Region.noSelect_spec U) u l.length hz e d a w (cO K) (Region.free_spec (kT s) N) (by simpa using O) hy J h
theorem zC6 {o:Oper} {v:Value} {a:Act} (g:∀c,o.op≠.call c) (i:Region.wanted o (yielded ops a.tmps)=true) (h:∀w,S w->(execOp a.eval o).run P w=.ok (.value v) w):kJ F n P ops S o v a:=fun w d=>
 ⟨BigFrame.askedIn_plain g,.inl ⟨i,fun w' e=>by subst e;unfold Oper.quietAtIn;rw[h w' d];exact⟨rfl,rfl⟩⟩⟩
theorem tZ {l j:List Oper} (i:Nat) (v:Value) {g:Oper} {e:Nat} {d:Array Bool} {a:Act} {w:World} (hy:∀w,S w->(execOp a.eval g).run P w=.ok (.value v) w) (u:S w)
  (h:jS F n P md l.toArray Q S z e (d.setIfInBounds i true) (a.put g.dst v) w) (N:l.drop i=g::j:=by rfl) (m:fG l.toArray=true:=by kernel_rfl) (hs:Region.noSelect l.toArray=true:=by kernel_rfl) (K:Region.free md l.toArray d i=true:=by kernel_rfl) (U:(Region.ready md l.toArray d).contains i=true:=by kernel_rfl) (J:lK md l.toArray d=true:=by kernel_rfl) (hz:bX md l.toArray i l.length z=true:=by kernel_rfl)
  (s:∀c a w,Q (.panic c) (a.put g.dst v) w->Q (.panic c) a w:=by exact fun _ _ _ h=>h) (O:∀c,g.op≠.call c:=by exact fun _ h=>by cases h) (hw:Region.wanted g (yielded l.toArray a.tmps)=true:=by rfl):jS F n P md l.toArray Q S z (e+1) d a w:=
 xT N m hs K U J hz s (zC6 O hw hy) u h
theorem qW {o:Oper} {v:Value} {a:Act} (g:∀w,S w->∀f,o.about P w a.eval=some f->F.fn f) (j:Region.wanted o (yielded ops a.tmps)=true) {f:FuncId} {args:Array Value} (m:∀w,(execOp a.eval o).run P w=.ok (.enter f args) w) (i:F.depth.isSome=true->1<=n)
  (h:∀w,S w->CallsIn F (n-1) P f args w fun e w'=>e=.returned v/\w'=w):kJ F n P ops S o v a:=fun w d=>
 ⟨fun w' e=>by subst e;exact g w' d,.inl ⟨j,fun w' e=>by subst e;unfold Oper.quietAtIn;rw[m w'];exact⟨rfl,i,h w' d⟩⟩⟩
theorem zI {l g:List Oper} {i:Nat} {o:Oper} {e:Nat} {d:Array Bool} {a:Act} {w:World} (U:l.drop i=o::g) (K:Region.ready md l.toArray d=[i]) (m:o.guard=none)
  (h:∀s:Act->World->Prop,Shut (∀ a w,(i=z\/S w)->jS F n P md l.toArray Q S z e (d.setIfInBounds i true) a w->s a w)->Oper.wpIn F n P o a w s Q):
  jS F n P md l.toArray Q S z (e+1) d a w:=by
 refine⟨fun u=>by rw[K] at u;simp at u,fun j J=>?_⟩
 rw[K] at J;obtain rfl:=List.mem_singleton.1 J;unfold wpOpIn;rw[kT U];have hw:Region.wanted o (yielded l.toArray a.tmps)=true:=by simp[Region.wanted,m]
 simp only[hw,if_true];exact h _ (fun a w N O=>⟨N,O⟩)
theorem xL {d:Array Bool} {a:Act} {w:World} (g:Region.ready md ops d=[]) (h:Q .normal a w):∀e,jS F n P md ops Q S z e d a w
 |0=>⟨g,h⟩
 |_+1=>⟨fun _=>h,by rw[g];simp⟩
def zAK (Q:Exit->Act->World->Prop):Exit->Act->World->Prop
 | .panic _,_,_=>False
 |e,a,w=>Q e a w
theorem xB {a:Act} {w:World} (h:Q .normal a w):zAK Q .normal a w:=h
theorem xK {id:Nat} {a:Act} {w:World} (S:World->Prop) (z:Nat) (d:P.follows .mixedOrders=true)
  (h:jS F n P .any ops (zAK Q) S z ops.size (Array.replicate ops.size false) a w.drew):(Code.region id ops true).wpIn F n P Q a w:=by
 refine wpIn_mono (wpIn_region_any (Q:=zAK Q) d (sN _ _ _ _ h)) ?_;intro e a w h
 cases e<;>first|exact h|exact h.elim
theorem pF {w w':World} {o:Oper} {a:Act} {K:Act->World->Prop} (s x:Operand) (t tn:TypeId)
  (g:o.op=.call {callee:=.builtin .append,args:=#[s,x],argTypes:=#[t,tn]}) (v u r:Value) (i:a.eval s=v) (j:a.eval x=u)
  (d:(Builtin.append_ #[t,tn] o.type #[v,u]).run P w=.ok r w') (h:K (a.put o.dst r) w'):Oper.wpIn F n P o a w K Q:=by
 unfold Oper.wpIn;refine⟨by simp[Oper.about,g,resolve,Target.leads,Sem.run_pure],?_⟩
 rw[Oper.semAt_plain F _ _ (by rw[g];intro c e;cases e)]
 unfold execOp;simp only[g,resolve,invoke,builtin,Sem.run_bind,Sem.run_pure,Result.andThen_ok,List.map_toArray,List.map_cons,List.map_nil,i,j,d];exact h
theorem vJ {w:World} {o:Oper} {a:Act} {K:Act->World->Prop} {f:FuncId} {args:Array Value} (m:(execOp a.eval o).run P w=.ok (.enter f args) w) (d:∀c,o.op≠.defer c) (g:∀f,F.fn f) (j:F.depth.isSome=true->1<=n)
  (i:CallsIn F (n-1) P f args w fun e w'=>∃v,e=.returned v/\K (a.put o.dst v) w'):Oper.wpIn F n P o a w K Q:=by
 unfold Oper.wpIn;refine⟨fun f _=>g f,?_⟩
 rw[Oper.semAt_plain F _ _ d,m,Oper.uponIn_enter];refine⟨j,i.mono ?_⟩;rintro e w' ⟨v,rfl,h⟩;exact h
theorem gU {w w':World} {d:List Oper} {o:Oper} {a:Act} (i:o.guard=none) (s x:Operand) (t tn:TypeId)
  (j:o.op=.call {callee:=.builtin .append,args:=#[s,x],argTypes:=#[t,tn]}) (v u r:Value) (m:a.eval s=v) (J:a.eval x=u)
  (e:(Builtin.append_ #[t,tn] o.type #[v,u]).run P w=.ok r w') (h:wpListIn F n P ops Q d (a.put o.dst r) w'):wpListIn F n P ops Q (o::d) a w:=
 wpListIn_plain i fun K g=>pF s x t tn j v u r m J e (g _ _ h)
end
end
section
open Go Go.RowKit Go.Sort Go.Shelf
instance:Inhabited Stp:=⟨⟨0,0,0⟩⟩
def jD (w:World) (g cap:Nat) (xs:List Stp):Prop:=∃cur,w.heap[g]?=some (.cells cur 80 (0,0))/\xs.length<=cap/\cap<=maxLen/\cur.size=cap*3/\cur.toList.take (xs.length*3)=xs.flatMap Stp.cells
theorem flat_len (xs:List Stp):(xs.flatMap Stp.cells).length=xs.length*3:=zN (sz:=3) (fun _=>rfl) xs
theorem jD.of {w:World} {B g n d:Nat} {xs:List Stp} (h:w.ownsRow B 80 3 (.slice (some ⟨g,0,none⟩) n d) xs.length (xs.flatMap Stp.cells)):n=xs.length/\B<=g/\jD w g d xs:=by
 rcases h.2 with⟨h1,_⟩|⟨g',cap',cur,h1,h2,h3,h4,h5,h6,h7⟩
 ·cases h1
 simp only[Value.slice.injEq,Option.some.injEq,Addr.mk.injEq] at h1;obtain⟨⟨rfl,_⟩,rfl,rfl⟩:=h1;exact⟨rfl,h2,cur,h3,h4,h5,h6,h7⟩
theorem jD.own {w:World} {B g d:Nat} {xs:List Stp} (h:jD w g d xs) (J:B<=g):w.ownsRow B 80 3 (.slice (some ⟨g,0,none⟩) xs.length d) xs.length (xs.flatMap Stp.cells):=by
 obtain⟨e,i,j,m,s,u⟩:=h;exact⟨flat_len xs,.inr ⟨g,d,e,rfl,J,i,j,m,s,u⟩⟩
theorem jD.take {w:World} {g d:Nat} {xs:List Stp} (h:jD w g d xs) {k:Nat} (N:k<=xs.length):jD w g d (xs.take k):=by
 obtain⟨i,m,K,s,u,J⟩:=h;refine⟨i,m,by rw[List.length_take];omega,s,u,?_⟩
 have j:(xs.take k).length=k:=by rw[List.length_take];omega
 have e:=congrArg (List.take (k*3)) J;rw[List.take_take,Nat.min_eq_left (by omega)] at e
 rw[j,e];have:=flat_len (xs.take k);rw[j] at this
 conv=>lhs;rw[show xs=xs.take k++xs.drop k from(List.take_append_drop k xs).symm,List.flatMap_append]
 rw[<-this,List.take_left]
theorem jD.get {w:World} {g d:Nat} {xs:List Stp} (h:jD w g d xs) {j:Nat} {u:Value} (e:(xs.flatMap Stp.cells)[j]?=some u):w.cell? ⟨g,j,none⟩=some u/\w.frozen? ⟨g,j,none⟩=false:=by
 obtain⟨m,i,K,N,O,s⟩:=h
 have J:j<xs.length*3:=by
  have:=(List.getElem?_eq_some_iff.1 e).1
  rwa[flat_len] at this
 rw[<-s,List.getElem?_take_of_lt J] at e;exact⟨by simp only[World.cell?,i];simpa using e,by simp[World.frozen?,i]⟩
theorem jD.lt {w:World} {g d:Nat} {xs:List Stp} (h:jD w g d xs):g<w.heap.size:=by
 obtain⟨e,i,_⟩:=h;exact(gLt i)
theorem jD.at_ {w:World} {g d:Nat} {xs:List Stp} (h:jD w g d xs) {k:Nat} (e:k<xs.length):w.cell? ⟨g,k*3,none⟩=some (.int .i64 xs[k].f)/\w.cell? ⟨g,k*3+1,none⟩=some (.int .i64 xs[k].l)/\w.cell? ⟨g,k*3+2,none⟩=some (.int .i64 xs[k].t)/\
  w.frozen? ⟨g,k*3,none⟩=false/\w.frozen? ⟨g,k*3+1,none⟩=false/\w.frozen? ⟨g,k*3+2,none⟩=false:=by
 have i:=h.get (qJ (enc:=Stp.cells) (sz:=3) (fun _=>rfl) xs k e 0 _ rfl)
 have j:=h.get (qJ (enc:=Stp.cells) (sz:=3) (fun _=>rfl) xs k e 1 _ rfl)
 have m:=h.get (qJ (enc:=Stp.cells) (sz:=3) (fun _=>rfl) xs k e 2 _ rfl)
 exact⟨i.1,j.1,m.1,i.2,j.2,m.2⟩
theorem iS (d:List Stp):(flatK Stp.cells 3 d.toArray).toList=d.flatMap Stp.cells:=by
 refine List.ext_getElem (by rw[flat_len];simp) fun i J j=>?_
 rw[flat_len] at j;have m:i/3<d.length:=by omega
 have e:(flatK Stp.cells 3 d.toArray)[i]! =(Stp.cells d.toArray[i/3]!)[i%3]! :=get_flatK _ _ _ i (by simpa using j)
 have h:i<(flatK Stp.cells 3 d.toArray).size:=by simpa using J
 rw[getElem!_pos (flatK Stp.cells 3 d.toArray) i h] at e;have u:d.toArray[i/3]! =d[i/3]:=by simp[m]
 have s:i%3<(Stp.cells d[i/3]).length:=by simp[Stp.cells];omega
 rw[u,getElem!_pos (Stp.cells d[i/3]) (i%3) s] at e;have g:=qJ (enc:=Stp.cells) (sz:=3) (fun _=>rfl) d (i/3) m (i%3) _ (List.getElem?_eq_getElem s)
 rw[show i/3*3+i%3=i by omega] at g
 rw[List.getElem?_eq_getElem (by rw[flat_len];exact j)] at g
 rw[Option.some.inj g,<-e]
 simp
theorem jD.holds {w:World} {g d:Nat} {xs:List Stp} (h:jD w g d xs):HoldsK Stp.cells 3 w g 0 xs.toArray:=by
 intro j i;have s:=iS xs;have m:j<(xs.flatMap Stp.cells).length:=by rw[<-s];simpa using i
 have:=h.get (List.getElem?_eq_getElem m)
 have e:(flatK Stp.cells 3 xs.toArray)[j]! =(xs.flatMap Stp.cells)[j]:=by
  rw[getElem!_pos (flatK Stp.cells 3 xs.toArray) j i];have u:(flatK Stp.cells 3 xs.toArray).toList[j]'(by simpa using i)=(xs.flatMap Stp.cells)[j]:=by simp only[s]
  simpa using u
 rw[Nat.zero_add];exact⟨by rw[this.1,e];rfl,this.2⟩
theorem jD.sorted {w:World} {g d n:Nat} {xs ys:List Stp} {os:Array Obj} (h:jD w g d xs) (hl:ys.length=xs.length):jD (sortWorldK Stp.cells 3 w g 0 n ys.toArray os) g d ys/\w.grownBy (sortWorldK Stp.cells 3 w g 0 n ys.toArray os) (some g):=by
 have m:=h.lt;obtain⟨j,N,h2,O,u,h5⟩:=h;have J:(flatK Stp.cells 3 ys.toArray).size=ys.length*3:=by simp
 have K:∀k,(sortWorldK Stp.cells 3 w g 0 n ys.toArray os).heap[k]?=if k<w.heap.size then(if k=g then some (.cells (putCells id 0 (flatK Stp.cells 3 ys.toArray) j) 80 (0,0)) else w.heap[k]?) else os[k-w.heap.size]?:=by
  intro k;show((mapBlock (Sort.ahead w n) g (putCells id 0 (flatK Stp.cells 3 ys.toArray))).heap++os)[k]?=_
  have hs:(mapBlock (Sort.ahead w n) g (putCells id 0 (flatK Stp.cells 3 ys.toArray))).heap.size=w.heap.size:=by simp[mapBlock,Sort.ahead]
  rw[Array.getElem?_append,hs]
  split
  ·show((w.heap.modify g (onCells (putCells id 0 (flatK Stp.cells 3 ys.toArray)))))[k]?=_
   rw[Array.getElem?_modify]
   by_cases e:g=k
   ·subst e;rw[if_pos rfl,if_pos rfl,N];rfl
   rw[if_neg e,if_neg (fun x=>e x.symm)]
  rfl
 refine⟨⟨_,by rw[K,if_pos m,if_pos rfl],by omega,O,by simp[putCells,u],?_⟩,⟨rfl,rfl,rfl,?_,fun k hk s=>by rw[K,if_pos hk,if_neg (fun e=>s (by rw[e]))]⟩⟩
 ·rw[<-iS]
  refine List.ext_getElem (by simp[putCells,u];omega) fun i i1 i2=>?_
  have U:i<ys.length*3:=by simpa using i2
  rw[List.getElem_take];simp only[putCells,Array.getElem_toList,Array.getElem_mapIdx];rw[if_pos ⟨Nat.zero_le _,by rw[J];omega⟩]
  have:i<(flatK Stp.cells 3 ys.toArray).size:=by rw[J];exact U
  rw[Nat.sub_zero,getElem!_pos (flatK Stp.cells 3 ys.toArray) i this];rfl
 show w.heap.size<=((mapBlock (Sort.ahead w n) g (putCells id 0 (flatK Stp.cells 3 ys.toArray))).heap++os).size
 simp[mapBlock,Sort.ahead]
theorem zIO (s t:Stp) (w:World):Calls Tryz.prog 80 #[.agg #[s.f,s.l,s.t],.agg #[t.f,t.l,t.t]] w fun e w'=>e=.returned (nX s t)/\∃q d,w'=grow (w.drewN q) d:=by
 have g:=hId (zEf w s t);have i:Hid (nX s t=orV [fE s.f t.f,fE s.l t.l,fE s.t t.t]):=rfl;generalize nX s t=v at *
 have j:Hid (∀ o,∃q d,((zB6 w s t).alloc o).drew=grow (w.drewN q) d):=fun o=>⟨1,_,by unfold zB6;rw[alloc_eq_grow,alloc_eq_grow,alloc_eq_grow,grow_grow,grow_grow];rfl⟩
 go_enter Tryz.func80,Tryz.ntmps80
 go_wp2_with fail
 change Code.wp _ _ _ _ (zB6 w s t);generalize zB6 w s t=W at *;obtain⟨X,h⟩:∃X,X=w.heap.size:=⟨_,rfl⟩;have m:=g.o.s0;have u:=g.o.s1;have J:=g.o.s2;have K:=g.o.t0;have N:=g.o.t1;have O:=g.o.t2
 rw[<-h] at m u J K N O ⊢;have U:=hId h;clear h
 go_region_held3 (fun w'=>w'.cell? ⟨X,0,none⟩=some (.int .i64 s.f)/\w'.cell? ⟨X,1,none⟩=some (.int .i64 s.l)/\w'.cell? ⟨X,2,none⟩=some (.int .i64 s.t)/\w'.cell? ⟨X+1,0,none⟩=some (.int .i64 t.f)/\w'.cell? ⟨X+1,1,none⟩=some (.int .i64 t.l)/\w'.cell? ⟨X+1,2,none⟩=some (.int .i64 t.t))
  (go_keep)
  (first
   |(go_at_call 92;refine(iT _ _ _).mono ?_;rintro e w' ⟨rfl,rfl⟩)
   |(go_at_call 128;refine(zLd _ 3 [fE s.f t.f,fE s.l t.l,fE s.t t.t] _ ((zJe W 3 _ _ _).below bRf.drew)).mono ?_;rintro e w' ⟨rfl,rfl⟩))
 all_goals
  go_wp2_with fail
  go_ret
  refine⟨zJ i.o.symm,?_⟩;exact j.o _
theorem dT (s t:Stp):ltOf nX s t=qF s t:=by
 unfold ltOf;rw[Bool.eq_iff_iff,decide_eq_true_eq];exact zEH s t
theorem uN {s t:Stp} (g:qF s t=false) (h:qF t s=false):s=t:=by
 have d:¬qF s t=true:=by rw[g];decide
 have e:¬qF t s=true:=by rw[h];decide
 rw[jX] at d e
 cases s;cases t
 simp only[Stp.mk.injEq] at *;omega
theorem zBA:SWO (ltOf nX) where
 irrefl x:=by rw[dT];exact zA6 x
 trans x y z h1 h2:=by rw[dT] at *;exact aH h1 h2
 ntrans x y z h1 h2:=by
  rw[dT] at *;have d:¬qF x y=true:=by rw[h1];decide
  have e:¬qF y z=true:=by rw[h2];decide
  cases h3:qF x z with
  |false=>rfl
  |true=>
   rw[jX] at d e h3;omega
def zR (xs:List Stp):List Stp:=xs.mergeSort fun x y=>!(ltOf nX) y x
theorem eS (xs:List Stp):(zR xs).Perm xs:=List.mergeSort_perm _ _
theorem kW (xs:List Stp):(zR xs).length=xs.length:=(eS xs).length_eq
theorem zBE (xs:List Stp):(zR xs).Pairwise fun x y=>qF y x=false:=by
 have h:=List.pairwise_mergeSort (le:=fun x y=>!(ltOf nX) y x) (fun a b c e d=>by
  simp only[Bool.not_eq_true',Bool.not_eq_eq_eq_not,Bool.not_true] at *;exact zBA.ntrans _ _ _ d e) (fun a b=>by
  cases h:ltOf nX b a with
  |false=>rfl
  |true=>
   have:ltOf nX a b=false:=by
    cases d:ltOf nX a b with
    |false=>rfl
    |true=>have:=zBA.trans _ _ _ h d;rw[zBA.irrefl] at this;cases this
   rw[this];rfl) xs
 refine h.imp fun{x y} h=>?_
 rw[<-dT]
 simpa using h
def zGS (w:World) (B:Nat) (g:Option Nat) (v:Value) (xs:List Stp) (e:Ending) (w':World):Prop:=e=.returned (.tuple #[])/\w'.ownsRow B 80 3 v (zR xs).length ((zR xs).flatMap Stp.cells)/\w.grownBy w' g
theorem zG7 (w:World) (B:Nat) (v:Value) (xs:List Stp) (h:w.ownsRow B 80 3 v xs.length (xs.flatMap Stp.cells)) (h0:xs.length<=1000000000):
  Calls Tryz.prog 79 #[v,.func (.func 80) #[] #[]] w (zGS w B v.ownBlock v xs):=by
 rcases h.2 with⟨rfl,hn⟩|⟨g,cap,cur,rfl,hg,hh,hr⟩
 ·have U:xs=[]:=List.eq_nil_of_length_eq_zero hn
  subst U;have:=AnyF.slices_SortFunc_none (P:=Tryz.prog) Tryz.sortStp none 0 (.func (.func 80) #[] #[]) w;change Calls Tryz.prog 79 _ _ _ at this;refine this.mono fun e w' ⟨j,s⟩=>?_
  subst s;have J:zR []=[]:=List.eq_nil_of_length_eq_zero (kW []);exact⟨j,by rw[J];exact h,World.grownBy.refl _ _⟩
 obtain⟨_,_,m⟩:=jD.of h
 have d:=AnyQ.slices_SortFunc_total (P:=Tryz.prog) Tryz.sortStp 3 (by intro w;kernel_rfl) (by intro w;kernel_rfl) Stp.cells (fun _=>rfl) (fun x v u=>by simp[Stp.cells] at u;rcases u with rfl|rfl|rfl<;>rfl) nX zBA 80 #[] g 0 cap xs.toArray w
  (enters_of Tryz.func80 (by kernel_rfl) rfl) (fun _ _ _ _ x y=>zIO x y _) m.holds m.lt (by simp;omega) (fun x y N O=>uN (by rw[<-dT];exact N) (by rw[<-dT];exact O))
 change Calls Tryz.prog 79 _ _ _ at d;refine d.mono fun e w' ⟨j,n,os,s⟩=>?_
 have i:=m.sorted (n:=n) (ys:=zR xs) (os:=os) (kW xs);have K:w'=sortWorldK Stp.cells 3 w g 0 n (zR xs).toArray os:=s;rw[<-K] at i;refine⟨j,?_,i.2⟩;have:=i.1.own hg
 rwa[kW] at this ⊢
end
end Go.Proofs.YtoglgeaiiipchaaGreatDoor
