import Derived.Test.YtoglgeaiiipchaaGreatDoorLRY14
set_option linter.unusedSimpArgs false
set_option linter.unusedVariables false
set_option maxRecDepth 100000
set_option maxHeartbeats 8000000
namespace Go.Proofs.YtoglgeaiiipchaaGreatDoor
section
open Go Go.RowKit Go.Maps Go.Shelf
theorem zLt (a:Au) (A B C:Option Addr) (ca cb cc:Nat) (w:World) (hr:zM w 0 a A B C ca cb cc) (hf:jT a) (hst:a.st<=1000000) (hsl:a.ss.length<=1000000):
  Calls Tryz.prog 70 #[.agg #[a.st,a.le,.slice A a.fs.length ca,.slice B a.gs.length cb,.slice C a.ss.length cc]] w (zBo w a):=by
 have HW:=jN w a A B C ca cb cc;have hb0:=HW.below;have hV0:=HW.at;have hs0:=HW.size;unfold auW at hb0 hV0 hs0;have HR:=hId hr;have HF:=hId hf
 have g:Hid (a.st<=1000000/\a.ss.length<=1000000/\a.fs.length<=1000000):=⟨hst,hsl,by
  have:=zA7 a.fs 0 hf.fo hf.fr (by have:=hf.st1;omega)
  omega⟩
 have h5:Below (w.alloc (.cells #[a.st,a.le,.slice A a.fs.length ca,.slice B a.gs.length cb,.slice C a.ss.length cc] 31)).heap.size (w.alloc (.cells #[a.st,a.le,.slice A a.fs.length ca,.slice B a.gs.length cb,.slice C a.ss.length cc] 31)) ((w.alloc (.cells #[a.st,a.le,.slice A a.fs.length ca,.slice B a.gs.length cb,.slice C a.ss.length cc] 31)).alloc (.cells #[(),()] 27)):=bLa
 have h9:=World.alloc_heap_new (w.alloc (.cells #[a.st,a.le,.slice A a.fs.length ca,.slice B a.gs.length cb,.slice C a.ss.length cc] 31)) (.cells #[(),()] 27)
 have hb1:=zA hb0 h5 hb0.size;have hV1:=hV0.below h5 hV0.lt;rw[hs0] at h9
 have hsz1:((w.alloc (.cells #[a.st,a.le,.slice A a.fs.length ca,.slice B a.gs.length cb,.slice C a.ss.length cc] 31)).alloc (.cells #[(),()] 27)).heap.size=w.heap.size+2:=by simp
 clear HW hb0 hV0 hs0 h5 hr hf hst hsl
 go_enter Tryz.func70,Tryz.ntmps70
 go_upto_region 1 with fail
 obtain⟨V,hV⟩:∃V,V=w.heap.size:=⟨_,rfl⟩;rw[<-hV] at hV1 h9 hsz1 ⊢;have HVV:=hId hV;clear hV
 generalize (w.alloc (.cells #[a.st,a.le,.slice A a.fs.length ca,.slice B a.gs.length cb,.slice C a.ss.length cc] 31)).alloc (.cells #[(),()] 27)=W1 at *;have HB1:=hId hb1
 have HV1:=hId hV1;have HN1:=hId h9;have HS1:=hId hsz1;have HRC:=hId (zAl a A B C ca cb cc W1 (HR.o.below hb1) HF.o.rng g.o.1 g.o.2.1 HF.o.so);obtain⟨_,c0,c1,c2,c3,c4⟩:=hV1;clear hb1 h9 hsz1
 go_wp2_with fail
 refine HRC.o.mono ?_;rintro e w2 ⟨G,out,rfl,hG,hrow,hrs,hb2⟩;have HRS:=hId hrs;have HV2:=hId (HV1.o.below hb2 HV1.o.lt);have HB2:=hId (zA HB1.o hb2 HB1.o.size)
 have U:Hid (w2.heap[V+1]?=_):=(hb2.block _ (by have:=HS1.o;omega)).trans HN1.o
 have HRW:=hId hrow;have HG:=hId hG;have HFC:Hid (Calls Tryz.prog 50 _ w2 _):=zCq a A B C ca cb cc w2;have HZ2:=hId hb2.size;clear c0 c1 c2 c3 c4 hrs hrow hb2 hG HRC;obtain⟨_,c0,c1,c2,c3,c4⟩:=HV2.o
 go_wp2_with fail
 refine HFC.o.mono ?_;rintro e w3 ⟨VA,rfl,hVA,h8,hb3⟩;have h5:Below w3 w3 (w3.alloc (.cells #[.func (.func 89) #[] #[(⟨VA,0,none⟩:Addr)],.map none] 161)):=bLa;have hb4:=zA hb3 h5 hb3.size
 have HC0:Hid (WdC a A B C ca cb cc w V VA w3.heap.size G out (w3.alloc (.cells #[.func (.func 89) #[] #[(⟨VA,0,none⟩:Addr)],.map none] 161))):=
  ⟨zA HB2.o hb4 HB2.o.size,HV2.o.below hb4 HV2.o.lt,(hb4.block _ (by have:=HS1.o;have:=HZ2.o;omega)).trans U.o,HRW.o.below hb4 HRW.o.lt,h8.below h5 h8.lt,_,World.alloc_heap_new _ _⟩
 have HNE:Hid (V<V+1/\V+1<G/\G<VA/\VA<w3.heap.size):=⟨by omega,by have:=HG.o;have:=HS1.o;omega,by have:=HRW.o.lt;omega,h8.lt⟩
 clear c0 c1 c2 c3 c4 hb4 h5 hb3 h8 hVA HFC;obtain⟨_,c0,c1,c2,c3,c4⟩:=HC0.o.at_
 go_upto_block 0 with fail
 clear c0 c1 c2 c3 c4;obtain⟨Fd,hFd⟩:∃Fd,Fd=w3.heap.size:=⟨_,rfl⟩;rw[<-hFd] at HC0 HNE ⊢;clear hFd;generalize w3.alloc (.cells #[.func (.func 89) #[] #[(⟨VA,0,none⟩:Addr)],.map none] 161)=W4 at *
 obtain⟨N,hN⟩:=Int.eq_ofNat_of_zero_le (show 0<=a.st by have:=HF.o.st1;omega)
 have hN3:N<=1000000:=by have:=g.o.1;omega
 have HN:=hId hN;clear hN
 go_wp2_with fail
 go_loopw [20] (fun v20 wr=>∃k:Nat,k<=N/\v20=(k:Int)/\Hid (WdC a A B C ca cb cc w V VA Fd G out wr)/\Hid (∀ j:Nat,j<k->¬(Rch a j/\a.good j/\vT (oK a) j j))) (fun v20 _=>N-(intOf v20).toNat)
 case atStart=>exact⟨0,Nat.zero_le _,rfl,HC0.o,fun j h=>absurd h (by omega)⟩
 obtain⟨k,hk,rfl,HC,HNO⟩:=hrel;obtain⟨_,c0,c1,c2,c3,c4⟩:=HC.o.at_
 by_cases hkN:k<N
 ·have q1:(k:Int)<a.st:=by have:=HN.o;omega
  have hol:k<out.length:=by have:=HRS.o.len;have:=HN.o;omega
  have hgl:k<a.gs.length:=by have:=HF.o.gl;have:=HN.o;omega
  have hba:Below wr wr (wr.alloc (.cells #[(k:Int)] 3)):=bLa
  have HCa:=hId (HC.o.on hba);obtain⟨z1,_⟩:=HCa.o.row.getD_ (i:=k) hol false;obtain⟨bb,bo,rfl,_,_,y1⟩:=xG.at_ ((HR.o.below HCa.o.below).gs) hgl;have hgle:=(HR.o.gs).le
  have HNX:Hid (∀ (p:Prop),(¬ p->False)->p):=fun p h=>Classical.byContradiction h
  have HX:=hId hkN
  have HSK:Hid (¬ (Rch a k/\a.good k/\vT (oK a) k k)->∀j:Nat,j<k+1->¬(Rch a j/\a.good j/\vT (oK a) j j)):=fun h j hj=>by
   rcases Nat.lt_or_ge j k with h1|h1
   ·exact HNO.o j h1
   obtain rfl:j=k:=by omega
   exact h
  have HRI:Hid (out.getD k false=true↔Rch a (k:Int)):=by
   have:=HRS.o.iff (k:Int) (by omega) q1
   show _↔_;unfold kp at this
   rwa[Int.toNat_natCast] at this
  have HGI:Hid (a.gs[k]=true↔a.good (k:Int)):=by
   show _↔(0<=(k:Int)/\a.gs.getD (k:Int).toNat false=true);rw[Int.toNat_natCast,List.getD_eq_getElem?_getD,List.getElem?_eq_getElem hgl]
   simp
  generalize out.getD k false=ok at *
  revert y1 HGI
  generalize a.gs[k]=gk;intro y1 HGI;have holi:(k:Int)<(out.length:Int):=by omega
  have hgli:(k:Int)<(a.gs.length:Int):=by omega
  clear hba
  cases ok with
  |false=>
   have U:=hId (HSK.o fun h=>by have:=HRI.o.2 h.1;cases this)
   go_wp2_with fail
   go_roundw
   case rel=>exact⟨k+1,HX.o,by go_num,HCa.o,U.o⟩
   case measure=>simp[intOf];have:=HX.o;omega
  |true=>
   cases gk with
   |false=>
    have U:=hId (HSK.o fun h=>by have:=HGI.o.2 h.2.1;cases this)
    go_wp2_with fail
    go_roundw
    case rel=>exact⟨k+1,HX.o,by go_num,HCa.o,U.o⟩
    case measure=>simp[intOf];have:=HX.o;omega
   |true=>
    have hXc:(wr.alloc (.cells #[(k:Int)] 3)).cell? ⟨wr,0,none⟩=some (.int .i64 (k:Int)):=by go_simp
    have hXl:wr.heap.size<(wr.alloc (.cells #[(k:Int)] 3)).heap.size:=by simp
    have hsA:(wr.alloc (.cells #[(k:Int)] 3)).heap.size=wr.heap.size+1:=by simp
    have HSW:Hid (w.heap.size<=wr.heap.size/\Fd<wr.heap.size/\VA<wr.heap.size/\V+1<wr.heap.size/\G<wr.heap.size):=⟨HC.o.below.size,by obtain⟨_,h⟩:=HC.o.fd;exact(gLt h),HC.o.va.lt,(gLt HC.o.res),HC.o.row.lt⟩
    have hbb:Below (wr.alloc (.cells #[(k:Int)] 3)).heap.size (wr.alloc (.cells #[(k:Int)] 3)) ((wr.alloc (.cells #[(k:Int)] 3)).alloc (.cells #[(k:Int)] 3)):=bLa
    have HCb:=hId (HCa.o.on hbb);have hXb:=(hbb.cell (p:=⟨wr,0,none⟩) hXl).trans hXc;have hXlb:=Nat.lt_of_lt_of_le hXl hbb.size
    have hnb:=World.alloc_heap_new (wr.alloc (.cells #[(k:Int)] 3)) (.cells #[(k:Int)] 3);rw[hsA] at hnb
    have hq:vH ((wr.alloc (.cells #[(k:Int)] 3)).alloc (.cells #[(k:Int)] 3)) w.heap.size (.slice (some ⟨wr.heap.size+1,0,none⟩) 1 1) [(k:Int)]:=
     .inr ⟨_,0,1,#[(k:Int)],rfl,by have:=HSW.o.1;omega,hnb,nLe,by simp,by unfold maxLen;omega,fun j hj=>by
      obtain rfl:j=0:=by simpa using hj
      rfl⟩
    have HPL:Hid (w.heap.size<=V/\V+1<G/\G<VA/\VA<Fd/\Fd<wr.heap.size):=by have:=HNE.o;have:=HVV.o;have:=HSW.o;exact⟨by omega,by omega,by omega,by omega,by omega⟩
    have HFN:=hId (zEt a A _ C ca cb cc w V VA Fd G out _ wr.heap.size (k:Int) HCb.o hXlb hXb HPL.o HR.o.ss HF.o g.o.1 g.o.2.1 [(k:Int)] _ hq
     (fun x e=>by
      have e':wr.heap.size+1=x:=by simpa[Value.ownBlock] using e
      omega) (by simp))
    have HAF:=hId (fun(W:World) (hb:Below w w W)=>(HR.o.below hb).fs)
    have HRT:Hid (Rch a (k:Int)):=HRI.o.1 rfl
    have HGT:Hid (a.good (k:Int)):=HGI.o.1 rfl
    clear hXc hbb hnb hq hXb hXl hXlb hsA HCb
    go_wp2_with fail
    refine HFN.o.mono ?_;intro e w5 hp;obtain⟨⟨r,D,M,rfl,⟨hby,hfn⟩,hbm,hfd1⟩,hC5,hX5,hXl5,-,-⟩:=hp;have HC5:=hId hC5;have HX5:=hId hX5;have h7:=hId hXl5;clear hC5 hX5 hXl5 HFN
    rcases hfn with⟨D0,s,hD,hdn,hr0,hr1⟩|⟨rfl,hno⟩
    ·obtain rfl:r=(k:Int):=by simpa using hdn
     have HWY:=hId (zG8 a HF.o g.o.1 D [(k:Int)] hby Fd M wr.heap.size 107 (fun x=>x==(k:Int)) (by simp) (k:Int) ⟨D0,s,hD⟩ w5 (by obtain⟨_,h⟩:=HC5.o.fd;exact(gLt h)) hfd1 hbm
      (enters_of Tryz.func107 (by kernel_rfl) rfl) (fun W j hb=>is_ (k:Int) j wr.heap.size W ((hb.cell (p:=⟨wr,0,none⟩) h7.o).trans HX5.o)))
     have HBY:=hId hby;have q2:¬(k:Int)<0:=by omega
     clear hby hbm hfd1 hD hdn hr0 hr1;have hX5:=HX5.o
     go_wp2_with fail
     refine HWY.o.mono ?_;rintro e w6 ⟨v,ls,rfl,hown,hws,hb6⟩;obtain⟨vA,vc,rfl,hvl,hvc,-⟩:=zF hown;have HV6:=hId hown;have HWS:=hId hws;have O:=hId (HC5.o.on hb6)
     have HX6:=hId ((hb6.cell (p:=⟨wr,0,none⟩) h7.o).trans HX5.o)
     have u:Hid (wr.heap.size<w6.heap.size/\ls.length<=1000000/\w.heap.size<=w5.heap.size/\V+1<w5.heap.size/\Fd<w5.heap.size/\w5.heap.size<=w6.heap.size):=⟨Nat.lt_of_lt_of_le h7.o hb6.size,by
      have:=hws.2;have:=HBY.o.len HF.o;have:=g.o.1;omega,HC5.o.below.size,(gLt HC5.o.res),by have:=HPL.o;have:=h7.o;omega,hb6.size⟩
     have HI6:=hId (HAF.o w6 O.o.below);have HFI:=hId (zGw a A _ _ ca cb cc V (k:Int) w6 O.o.at_ HI6.o);obtain⟨_,c0,c1,c2,c3,c4⟩:=O.o.at_;have hX6:=HX6.o;clear hown hws hb6 HWY hX5
     go_wp2_with fail
     refine HFI.o.mono ?_;rintro e w7 ⟨rfl,rfl⟩;clear HFI
     by_cases hk0:(k:Int)∈a.fs
     ·rw[decide_eq_true hk0]
      have HP:Hid (zBo w a (.returned (.tuple #[.agg #[(),.slice vA ls.length vc],true])) (dY w7 (V+1) () (.slice vA ls.length vc))):=by
       obtain⟨A',c',e,hi⟩:=lU (V:=V+1) (base:=w.heap.size) HV6.o u.o.2.1 u.o.2.2.2.1 u.o.2.2.1 () (.slice vA ls.length vc);obtain⟨rfl,rfl⟩:vA=A'/\vc=c':=by simpa using e
       exact⟨⟨none,vA,0,vc,[],ls,true,rfl,uC,hi,by rw[if_pos rfl];exact zEC HF.o HGT.o HBY.o HWS.o (.inl ⟨rfl,hk0⟩)⟩,pI O.o.below (by have:=HVV.o;omega) _ _⟩
      have d:=O.o.res
      obtain⟨b0,b1,b2,b3⟩:w7.cell? ⟨V+1,0,none⟩=some (.slice none 0 0)/\w7.cell? ⟨V+1,1,none⟩=some (.slice none 0 0)/\w7.frozen? ⟨V+1,0,none⟩=false/\w7.frozen? ⟨V+1,1,none⟩=false:=by
       refine⟨?_,?_,?_,?_⟩<;>simp[World.cell?,World.frozen?,d]
      have K:=hId (dW d () (.slice vA ls.length vc));unfold dY at HP K;clear d hk0
      go_wp2_with fail
      exact bodyPost_ret (zGp Tryz.results70 _ _ (V+1) rfl rfl K.o) rfl HP.o
     rw[decide_eq_false hk0];have HK0:=hId hk0;have HCL:=hId (zEx A ca a.fs w7 HI6.o);clear hk0
     go_wp2_with fail
     refine HCL.o.mono ?_;rintro e w8 ⟨v8,rfl,m,hb8⟩;have HC8:=hId (O.o.on hb8);have hX8:=(hb8.cell (p:=⟨wr,0,none⟩) u.o.1).trans HX6.o
     have hXl8:wr.heap.size<w8.heap.size:=Nat.lt_of_lt_of_le u.o.1 hb8.size
     have HV8:=hId (zD HV6.o hb8)
     have HFN2:=hId (zEt a A _ _ ca cb cc w V VA Fd G out w8 wr.heap.size (k:Int) HC8.o hXl8 hX8 HPL.o HR.o.ss HF.o g.o.1 g.o.2.1 a.fs v8 ((vH.of m).low O.o.below.size) (fun x e=>by
      have:=((vH.of m).lt x e).1;have:=u.o.1;omega) g.o.2.2)
     have HD8:Hid (∀ x,v8.ownBlock=some x->w7.heap.size<=x):=fun x e=>((vH.of m).lt x e).1
     have HZ8:=hId hb8.size;obtain⟨A8,c8,rfl,hc8,hc8',-⟩:=zF m;clear m hb8 HCL hX8 hXl8
     go_wp2_with fail
     refine HFN2.o.mono ?_;intro e w9 hp;obtain⟨⟨r2,D2,M2,rfl,⟨hby2,hfn2⟩,hbm2,hfd2⟩,hC9,hX9,hXl9,hs9,hk9⟩:=hp
     rcases hfn2 with⟨D02,s2,hD2,hdn2,hr2,hr3⟩|⟨rfl,hno⟩
     ·obtain rfl:r2=(k:Int):=by simpa using hdn2
      have HC9:=hId hC9;have HBY2:=hId hby2
      have HV9:Hid (xD w9 w5.heap.size (.slice vA ls.length vc) ls):=xD.heap HV8.o fun x e=>hk9 x (HV8.o.lt x e).2 (by have:=(HV8.o.lt x e).1;have:=u.o;omega) fun e'=>by
       have h1:=HD8.o x e';have h2:=(HV6.o.lt x e).2;omega
      have HWY2:=hId (zG8 a HF.o g.o.1 D2 a.fs hby2 Fd M2 V 106 (fun x=>decide (x∈a.fs)) (by simp) (k:Int) ⟨D02,s2,hD2⟩ w9 (by have:=HPL.o;omega) hfd2 hbm2
       (enters_of Tryz.func106 (by kernel_rfl) rfl) (fun W j hb=>zGw a A _ _ ca cb cc V j W (HC9.o.on hb).at_ (HAF.o W (HC9.o.on hb).below)))
      have HS9:Hid (w.heap.size<=w9.heap.size/\V+1<w9.heap.size):=⟨HC9.o.below.size,(gLt HC9.o.res)⟩
      clear hby2 hbm2 hfd2 hD2 hdn2 hr2 hr3 hXl9 hs9 hk9 hC9 HFN2 c0 c1 c2 c3 c4
      go_wp2_with fail
      refine HWY2.o.mono ?_;rintro e w10 ⟨v10,l10,rfl,J,h6,hb10⟩;obtain⟨hA,hc,rfl,hhl,hhc,-⟩:=zF J;have HC10:=hId (HC9.o.on hb10)
      have HP:Hid (zBo w a (.returned (.tuple #[.agg #[.slice hA l10.length hc,.slice vA ls.length vc],true])) (dY w10 (V+1) (.slice hA l10.length hc) (.slice vA ls.length vc))):=by
       obtain⟨A',c',e,hi⟩:=lU (V:=V+1) (base:=w.heap.size) (zD HV9.o hb10) u.o.2.1 u.o.2.2.2.1 u.o.2.2.1 (.slice hA l10.length hc) (.slice vA ls.length vc);obtain⟨rfl,rfl⟩:vA=A'/\vc=c':=by simpa using e
       obtain⟨A',c',e,hi2⟩:=lU (V:=V+1) (base:=w.heap.size) J (by
        have:=h6.2;have:=HBY2.o.len HF.o;have:=g.o.1;omega) HS9.o.2 HS9.o.1 (.slice hA l10.length hc) (.slice vA ls.length vc)
       obtain⟨rfl,rfl⟩:hA=A'/\hc=c':=by simpa using e
       exact⟨⟨hA,vA,hc,vc,l10,ls,true,rfl,hi2,hi,by rw[if_pos rfl];exact zEC HF.o HGT.o HBY.o HWS.o (.inr ⟨a.fs,D2,HBY2.o,h6⟩)⟩,pI HC10.o.below (by have:=HVV.o;omega) _ _⟩
      have d:=HC10.o.res
      obtain⟨b0,b1,b2,b3⟩:w10.cell? ⟨V+1,0,none⟩=some (.slice none 0 0)/\w10.cell? ⟨V+1,1,none⟩=some (.slice none 0 0)/\w10.frozen? ⟨V+1,0,none⟩=false/\w10.frozen? ⟨V+1,1,none⟩=false:=by
       refine⟨?_,?_,?_,?_⟩<;>simp[World.cell?,World.frozen?,d]
      have K:=hId (dW d (.slice hA l10.length hc) (.slice vA ls.length vc));unfold dY at HP K;clear d J h6 hb10
      go_wp2_with fail
      exact bodyPost_ret (zGp Tryz.results70 _ _ (V+1) rfl rfl K.o) rfl HP.o
     exfalso
     rcases HRT.o.plus with h|⟨f,hf,h⟩
     ·exact HK0.o h
     have:=hno f hf (k:Int) h
     simp at this
    have U:=hId (HSK.o fun h=>by have:=hno (k:Int) (by simp) _ h.2.2;simp at this)
    clear hby hno hbm hfd1
    go_wp2_with fail
    go_roundw
    case rel=>exact⟨k+1,HX.o,by go_num,HC5.o,U.o⟩
    case measure=>simp[intOf];have:=HX.o;omega
 have q1:¬(k:Int)<a.st:=by have:=HN.o;omega
 obtain rfl:k=N:=by omega
 have d:=HC.o.res
 obtain⟨b0,b1,b2,b3⟩:wr.cell? ⟨V+1,0,none⟩=some (.slice none 0 0)/\wr.cell? ⟨V+1,1,none⟩=some (.slice none 0 0)/\wr.frozen? ⟨V+1,0,none⟩=false/\wr.frozen? ⟨V+1,1,none⟩=false:=by
  refine⟨?_,?_,?_,?_⟩<;>simp[World.cell?,World.frozen?,d]
 have HP:Hid (zBo w a (.returned (.tuple #[.agg #[(),()],false])) (dY wr (V+1) () ())):=
  ⟨⟨none,none,0,0,[],[],false,rfl,⟨nLe,by omega,by simp,Rd.nil,Fz.no⟩,⟨nLe,by omega,by simp,Rd.nil,Fz.no⟩,by
   rw[if_neg (by decide)]
   refine⟨rfl,rfl,zDc HF.o fun q h0 h1 h2 h3 h4=>?_⟩
   obtain⟨j,rfl⟩:=Int.eq_ofNat_of_zero_le h0;exact HNO.o j (by have:=HN.o;omega) ⟨h2,h3,h4⟩⟩,pI HC.o.below (by have:=HVV.o;omega) _ _⟩
 have K:=hId (dW d () ());unfold dY at HP K;clear d
 go_wp2_with fail
 exact bodyPost_ret (zGp Tryz.results70 _ _ (V+1) rfl rfl K.o) rfl HP.o
structure zDY (w:World) (a:Au) (e:Ending) (w':World):Prop where
 is:∃(H L:Option Addr) (ch cl:Nat) (hl ll:List Int) (b:Bool),e=.returned (.tuple #[.agg #[.slice H hl.length ch,.slice L ll.length cl],b,(ckA a)])/\zE w' w.heap.size H ch hl/\zE w' w.heap.size L cl ll/\
  (if b=true then ckA a=0/\zDe a ⟨hl,ll⟩ else hl=[]/\ll=[]/\(ckA a=0->∀u,¬xJ a u))
 below:Below w w w'
theorem zHv {g:Func} (h:g.results=#[.cell 2 27,.tmp 3,.tmp 4]) (tmps:Array Value) (w:World) (V:Nat) {d e x y:Value} (j:tmps[2]?=some (.pointer (some ⟨V,0,none⟩))) (m:tmps[3]?=some x) (s:tmps[4]?=some y)
  (i:w.heap[V]?=some (.cells #[d,e] 27 (0,0))):(results g tmps).run Tryz.prog w=.ok (.tuple #[.agg #[d,e],x,y]) w:=by
 have u:w.cell? ⟨V,0,none⟩=some d:=by simp[World.cell?,i]
 have J:w.cell? ⟨V,1,none⟩=some e:=by simp[World.cell?,i]
 simp[results,h,go_sem,j,m,s,u,J]
theorem eR {W:World} {V:Nat} {d e:Value} (h:W.heap[V]?=some (.cells #[d,e] 27 (0,0))):W.cell? ⟨V,0,none⟩=some d/\W.cell? ⟨V,1,none⟩=some e/\W.frozen? ⟨V,0,none⟩=false/\W.frozen? ⟨V,1,none⟩=false:=by
 refine⟨?_,?_,?_,?_⟩<;>simp[World.cell?,World.frozen?,h]
theorem iE {W:World} {lo base V:Nat} {A:Option Addr} {c:Nat} {xs:List Int} (h:zE W lo A c xs) (hV:V<lo) (g:base<=lo) (d e:Value):zE (dY W V d e) base A c xs:=by
 refine⟨h.le,h.cap,h.max,fun U=>?_,(h.fz.on h.rd fun b _ _ N _ _=>World.frozen?_of_block (w:=W) (zB0 W V d e (show b≠V by omega))).low g⟩
 obtain⟨b,off,i,m,s,J⟩:=h.rd U;have O:(dY W V d e).heap.size=W.heap.size:=by simp[dY,World.setCell]
 refine⟨b,off,i,Nat.le_trans g m,by rw[O];exact s,fun j u K=>?_⟩
 have:=J j u K
 rwa[zP (zB0 W V d e (show b≠V by omega))]
theorem zGF (a:Au) (A B C:Option Addr) (ca cb cc:Nat) (w:World) (hr:zM w 0 a A B C ca cb cc):
  Calls Tryz.prog 23 #[.agg #[a.st,a.le,.slice A a.fs.length ca,.slice B a.gs.length cb,.slice C a.ss.length cc]] w (zDY w a):=by
 have HW:=jN w a A B C ca cb cc;have O:=HW.below;have N:=HW.at;have hs0:=HW.size;unfold auW at O N hs0
 have hal:Below (w.alloc (.cells #[a.st,a.le,.slice A a.fs.length ca,.slice B a.gs.length cb,.slice C a.ss.length cc] 31)).heap.size (w.alloc (.cells #[a.st,a.le,.slice A a.fs.length ca,.slice B a.gs.length cb,.slice C a.ss.length cc] 31)) ((w.alloc (.cells #[a.st,a.le,.slice A a.fs.length ca,.slice B a.gs.length cb,.slice C a.ss.length cc] 31)).alloc (.cells #[(),()] 27)):=bLa
 have i:=World.alloc_heap_new (w.alloc (.cells #[a.st,a.le,.slice A a.fs.length ca,.slice B a.gs.length cb,.slice C a.ss.length cc] 31)) (.cells #[(),()] 27);have hb1:=zA O hal O.size
 have hV1:=N.below hal N.lt;rw[hs0] at i
 have J:((w.alloc (.cells #[a.st,a.le,.slice A a.fs.length ca,.slice B a.gs.length cb,.slice C a.ss.length cc] 31)).alloc (.cells #[(),()] 27)).heap.size=w.heap.size+2:=by simp
 clear HW O N hs0 hal
 go_enter Tryz.func23,Tryz.ntmps23
 go_upto_region 1 with fail
 obtain⟨V,hV⟩:∃V,V=w.heap.size:=⟨_,rfl⟩;rw[<-hV] at hV1 i J ⊢;have HVV:=hId hV;clear hV
 generalize (w.alloc (.cells #[a.st,a.le,.slice A a.fs.length ca,.slice B a.gs.length cb,.slice C a.ss.length cc] 31)).alloc (.cells #[(),()] 27)=W1 at *;have h2:=hId hb1
 have HV1:=hId hV1;have HN1:=hId i;have HS1:=hId J;have HR:=hId hr;have HCK:=hId (kQ a A B C ca cb cc W1 (HR.o.below h2.o));obtain⟨_,c0,c1,c2,c3,c4⟩:=hV1;clear hb1 i J hr
 go_wp2_with fail
 refine HCK.o.mono ?_;rintro e w2 ⟨rfl,m⟩;have d:=hId (zA h2.o m h2.o.size);have HV2:=hId (HV1.o.below m HV1.o.lt);have h3:Hid (w2.heap[V+1]?=_):=(m.block _ (by have:=HS1.o;omega)).trans HN1.o
 have K:Hid (V+2<=w2.heap.size):=by have:=HS1.o;have:=m.size;show _<=_;omega
 clear c0 c1 c2 c3 c4 m HCK;obtain⟨_,c0,c1,c2,c3,c4⟩:=HV2.o;obtain⟨b0,b1,b2,b3⟩:=eR h3.o
 by_cases h0:ckA a=0
 ·obtain⟨U,hso⟩:=yP.1 h0
  have HWD:=hId (zLt a A B C ca cb cc w2 (HR.o.below d.o) (U.fit hso) (Int.le_trans U.st2 (by decide)) (Nat.le_trans U.sl (by decide)))
  have h1:=hId h0;rw[h0];clear U hso h0
  go_wp2_with fail
  refine HWD.o.mono ?_;rintro e w3 ⟨⟨H,L,ch,cl,hl,ll,b,rfl,hH,hL,g⟩,s⟩;have u:Below w3 w3 (w3.alloc (.cells #[.slice H hl.length ch,.slice L ll.length cl] 27)):=bLa
  have h4:Hid ((w3.alloc (.cells #[.slice H hl.length ch,.slice L ll.length cl] 27)).heap[V+1]?=_):=(u.block _ (by have:=s.size;have:=K.o;omega)).trans ((s.block _ (by have:=K.o;omega)).trans h3.o)
  obtain⟨z0,z1,z2,z3⟩:=eR h4.o;have HBZ:=hId (zA (zA d.o s d.o.size) u (Nat.le_trans d.o.size s.size))
  have HP:Hid (zDY w a (.returned (.tuple #[.agg #[.slice H hl.length ch,.slice L ll.length cl],b,(0:Int)])) (dY (w3.alloc (.cells #[.slice H hl.length ch,.slice L ll.length cl] 27)) (V+1) (.slice H hl.length ch) (.slice L ll.length cl))):=
   ⟨⟨H,L,ch,cl,hl,ll,b,by rw[h1.o],iE (hH.below u) (by have:=K.o;omega) d.o.size _ _,iE (hL.below u) (by have:=K.o;omega) d.o.size _ _,by
    by_cases hbb:b=true
    ·rw[if_pos hbb] at g ⊢
     exact⟨h1.o,g⟩
    rw[if_neg hbb] at g ⊢;exact⟨g.1,g.2.1,fun _=>g.2.2⟩⟩,pI HBZ.o (by have:=HVV.o;omega) _ _⟩
  have j:=hId (dW h4.o (.slice H hl.length ch) (.slice L ll.length cl));unfold dY at HP j;clear c0 c1 c2 c3 c4 b0 b1 b2 b3 h4 HBZ g hH hL u s
  go_wp2_with fail
  exact bodyPost_ret (zHv Tryz.results23 _ _ (V+1) rfl rfl rfl j.o) rfl HP.o
 have HP:Hid (zDY w a (.returned (.tuple #[.agg #[(),()],false,(ckA a)])) (dY w2 (V+1) () ())):=
  ⟨⟨none,none,0,0,[],[],false,rfl,uC,uC,by rw[if_neg (by decide)];exact⟨rfl,rfl,fun h=>absurd h h0⟩⟩,pI d.o (by have:=HVV.o;omega) _ _⟩
 have j:=hId (dW h3.o () ());have h0':(ckA a !=0)=true:=by simp[h0]
 clear c0 c1 c2 c3 c4;unfold dY at HP j;clear h0;generalize ckA a=ck at *
 go_wp2_with fail
 exact bodyPost_ret (zHv Tryz.results23 _ _ (V+1) rfl rfl rfl j.o) rfl HP.o
end
section
def qS (xs:List Int) (n:Nat):Bool:=(List.range xs.length).all fun i=>xs.getD ((i+n)%xs.length) 0==xs.getD i 0
theorem bV {xs:List Int} {n:Nat}:qS xs n=true↔∀i,i<xs.length->xs.getD ((i+n)%xs.length) 0=xs.getD i 0:=by
 unfold qS;rw[List.all_eq_true]
 constructor
 ·intro h i d
  simpa using h i (List.mem_range.2 d)
 intro h i d
 simpa using h i (List.mem_range.1 d)
theorem zDf {xs:List Int} {n:Nat} (h:qS xs n=true) (d:0<xs.length) (i:Nat):xs.getD ((i+n)%xs.length) 0=xs.getD (i%xs.length) 0:=by
 have:=bV.1 h (i%xs.length) (Nat.mod_lt _ d);rw[Nat.mod_add_mod] at this;exact this
theorem zC2 {xs:List Int} {n:Nat} (h:qS xs n=true) (d:0<xs.length) (k i:Nat):xs.getD ((i+n*k)%xs.length) 0=xs.getD (i%xs.length) 0:=by
 induction k with
 |zero=>rfl
 |succ k ih=>rw[Nat.mul_succ,<-Nat.add_assoc,zDf h d,ih]
theorem zDQ {xs:List Int} {n:Nat} (h:qS xs n=true) (J:0<xs.length) (u:0<n) (d:∀m,0<m->m<n->qS xs m=false):xs.length%n=0:=by
 rcases Nat.eq_zero_or_pos (xs.length%n) with h0|h0
 ·exact h0
 exfalso
 have e:=Nat.mod_lt xs.length u;have j:=d _ h0 e
 have K:qS xs (xs.length%n)=true:=bV.2 fun i s=>by
  have g:=zC2 h J (xs.length/n) (i+xs.length%n);rw[Nat.add_assoc,Nat.mod_add_div,Nat.add_mod_right,Nat.mod_eq_of_lt s] at g;exact g.symm
 rw[K] at j;cases j
def kR (P:Nat->Bool) (L:Nat):Nat->Nat->Nat
 |0,_=>L
 |m+1,k=>if L<=k then L else if P k then k else kR P L m (k+1)
theorem nE {P Q:Nat->Bool} {L:Nat}:∀(m k:Nat),0<k->(∀ j,0<j->j<k->P j=false)->(∀ j,j<L->0<j->(∀ i,0<i->i<j->P i=false)->Q j=P j)->kR Q L m k=kR P L m k
 |0,k,_,_,_=>rfl
 |m+1,k,hk,hmin,he=>by
  unfold kR
  by_cases h:L<=k
  ·rw[if_pos h,if_pos h]
  rw[if_neg h,if_neg h,he k (by omega) hk hmin]
  cases hp:P k with
  |true=>rfl
  |false=>
   simp only[Bool.false_eq_true,if_false]
   exact nE m (k+1) (by omega) (fun j d e=>by
    rcases Nat.lt_or_ge j k with h3|h3
    ·exact hmin j d h3
    have:j=k:=by omega
    rw[this];exact hp) he
def pE (l:La):Nat:=kR (qS l.l) l.l.length l.l.length 1
theorem zCA (l:La) (h:0<l.l.length):kR (fun n=>decide (l.l.length%n=0)&&qS l.l n) l.l.length l.l.length 1=pE l:=by
 unfold pE;refine nE _ 1 (by decide) (fun j i g=>absurd g (by omega)) fun j m e d=>?_
 cases ht:qS l.l j with
 |false=>simp
 |true=>simp[zDQ ht h e d]
def fU (f:Nat->Int) (n:Nat):Nat->Nat
 |0=>0
 |k+1=>if f k=f (k+n) then fU f n k else k+1
def lE (l:La):La:=⟨(List.range (fU l.at (pE l) l.h.length)).map l.at,(List.range (pE l)).map fun i=>l.at (fU l.at (pE l) l.h.length+i)⟩

end
section
open Go Go.RowKit
theorem zFy {xs ys:List Int} (g:xs.length=ys.length) (h:∀i,i<xs.length->xs.getD i 0=ys.getD i 0):xs=ys:=by
 refine List.ext_getElem g fun i d e=>?_
 have:=h i d
 rwa[mW d,mW e] at this
theorem uO (A B:Option Addr) (ca cb:Nat) (xs ys:List Int) (w:World) (N:zE w 0 A ca xs) (hy:zE w 0 B cb ys):
  Calls Tryz.prog 76 #[.slice A xs.length ca,.slice B ys.length cb] w (xX w (decide (xs=ys))):=by
 have h1:=N.le;have h2:=N.max;have h3:=hy.le
 by_cases hl:xs.length=ys.length
 ·have K:((xs.length:Int) !=(ys.length:Int))=false:=by simp[hl]
  have j:=hId hl;clear hl
  go_enter Tryz.func76,Tryz.ntmps76
  go_wp2_with fail
  go_loopw [5] (fun i wr=>∃k:Nat,k<=xs.length/\i=.int .i64 k/\Below w w wr/\Hid (∀ i,i<k->xs.getD i 0=ys.getD i 0)) (fun i _=>xs.length-(intOf i).toNat)
  case atStart=>exact⟨0,Nat.zero_le _,rfl,bRf,fun i h=>absurd h (by omega)⟩
  obtain⟨k,hk,rfl,s,HA⟩:=hrel;have u:=hId s
  by_cases hlt:k<xs.length
  ·have d:k<ys.length:=by have:=j.o;omega
   obtain⟨b,o,rfl,_,_,hc⟩:=zE.at_ (N.below s) hlt;obtain⟨b',o',rfl,_,_,hc'⟩:=zE.at_ (hy.below s) d;have O:=hId (mW hlt);have U:=hId (mW d);clear s;generalize xs[k]=x at *;generalize ys[k]=y at *
   by_cases hxy:x=y
   ·have m:(x !=y)=false:=by simp[hxy]
    have J:=hId hxy;clear hxy
    go_wp2_with fail
    go_quiet (fail)
    have e:=hId (zC u.o nq)
    go_wp2_with fail
    go_roundw
    case rel=>
     refine⟨k+1,by omega,by go_num,e.o,fun i hi=>?_⟩
     rcases Nat.lt_or_ge i k with h|h
     ·exact HA.o i h
     obtain rfl:i=k:=by omega
     rw[O.o,U.o,J.o]
    case measure=>simp[intOf];omega
   have m:(x !=y)=true:=by simpa using hxy
   have g:Hid (decide (xs=ys)=false):=decide_eq_false fun h=>hxy (by rw[<-O.o,<-U.o,h])
   clear hxy
   go_wp2_with fail
   go_quiet (fail)
   have e:=hId (zC u.o nq)
   go_wp2_with fail
   go_ret
   exact⟨yJ g.o.symm,e.o⟩
  have g:Hid (decide (xs=ys)=true):=decide_eq_true (zFy j.o fun i hi=>HA.o i (by omega))
  go_wp2_with fail
  go_ret
  exact⟨yJ g.o.symm,u.o⟩
 have K:((xs.length:Int) !=(ys.length:Int))=true:=by
  simp only[bne_iff_ne,ne_eq];omega
 have g:Hid (decide (xs=ys)=false):=decide_eq_false fun h=>hl (by rw[h])
 clear hl
 go_enter Tryz.func76,Tryz.ntmps76
 go_wp2_with fail
 go_ret
 exact⟨yJ g.o.symm,bRf⟩
end
section
open Go Go.RowKit Go.Shelf
theorem zCR {xs:List Int} {n j:Nat} (h:∀i,i<j->xs.getD ((i+n)%xs.length) 0=xs.getD i 0) (e:j=xs.length):qS xs n=true:=bV.2 fun i d=>h i (by omega)
theorem zFz {xs:List Int} {n i:Nat} (d:i<xs.length) (h:xs.getD ((i+n)%xs.length) 0≠xs.getD i 0):qS xs n=false:=by
 cases e:qS xs n with
 |false=>rfl
 |true=>exact absurd (bV.1 e i d) h
theorem zJ1 (A:Option Addr) (c:Nat) (xs:List Int) (n:Nat) (w:World) (O:zE w 0 A c xs) (hn:n<=1000000) (hxl:xs.length<=1000000):
  Calls Tryz.prog 71 #[.slice A xs.length c,n] w (xX w (qS xs n)):=by
 have h1:=O.le
 go_enter Tryz.func71,Tryz.ntmps71
 go_wp2_with fail
 go_loopw [9] (fun i wr=>∃k:Nat,k<=xs.length/\i=.int .i64 k/\Below w w wr/\Hid (∀ i,i<k->xs.getD ((i+n)%xs.length) 0=xs.getD i 0)) (fun i _=>xs.length-(intOf i).toNat)
 case atStart=>exact⟨0,Nat.zero_le _,rfl,bRf,fun i h=>absurd h (by omega)⟩
 obtain⟨k,hk,rfl,j,HA⟩:=hrel;have u:=hId j
 by_cases hlt:k<xs.length
 ·obtain⟨b,o,rfl,_,hbl,hc⟩:=zE.at_ (O.below j) hlt
  have N:(k+n)%xs.length<xs.length:=Nat.mod_lt _ (by omega)
  obtain⟨b',o',e,_,_,K⟩:=zE.at_ (O.below j) N;obtain⟨rfl,rfl⟩:b=b'/\o=o':=by simpa using e
  have e1:=mW hlt;have e2:=mW N;have U:=hId e1;have s:=hId e2;clear e1 e2 j e
  have hz:((xs.length:Int)==0)=false:=by
   simp only[beq_eq_false_iff_ne,ne_eq];omega
  have hk5:k<=1000000:=by omega
  have e3:((k:Int)+(n:Int)).tmod (xs.length:Int)=(((k+n)%xs.length:Nat):Int):=by
   rw[Int.tmod_eq_emod_of_nonneg (by omega)]
   simp
  generalize xs[k]=x at *;generalize xs[(k+n)%xs.length]=y at *;obtain⟨m,d⟩:∃m,m=(k+n)%xs.length:=⟨_,rfl⟩;rw[<-d] at N K e3 s;have HM:=hId d;clear d
  by_cases hxy:y=x
  ·have g:(y !=x)=false:=by simp[hxy]
   have HK:Hid (∀ i,i<k+1->xs.getD ((i+n)%xs.length) 0=xs.getD i 0):=by
    intro i hi
    rcases Nat.lt_or_ge i k with h|h
    ·exact HA.o i h
    obtain rfl:i=k:=by omega
    rw[<-HM.o,U.o,s.o,hxy]
   clear hxy
   go_wp2_with fail
   exact⟨⟨k+1,by omega,by go_num,u.o,HK⟩,by simp[intOf];omega⟩
  have g:(y !=x)=true:=by simpa using hxy
  have J:Hid (qS xs n=false):=zFz hlt (by rw[<-HM.o,U.o,s.o];exact hxy)
  clear hxy
  go_wp2_with fail
  go_ret
  exact⟨yJ J.o.symm,u.o⟩
 have J:Hid (qS xs n=true):=zCR HA.o (by omega)
 go_wp2_with fail
 go_ret
 exact⟨yJ J.o.symm,u.o⟩
def zHJ (w:World) (A B C D:Option Addr) (ca cb cc cd:Nat) (l m:La):World:=
 (w.alloc (.cells #[Value.slice A l.h.length ca,Value.slice B l.l.length cb] 27)).alloc (.cells #[Value.slice C m.h.length cc,Value.slice D m.l.length cd] 27)
structure zLM (w W:World) (A B C D:Option Addr) (ca cb cc cd:Nat) (l m:La):Prop where
 below:Below w w W
 size:W.heap.size=w.heap.size+1+1
 l0:W.cell? ⟨w,0,none⟩=some (.slice A l.h.length ca)
 l1:W.cell? ⟨w.heap.size,1,none⟩=some (.slice B l.l.length cb)
 m0:W.cell? ⟨w.heap.size+1,0,none⟩=some (.slice C m.h.length cc)
 m1:W.cell? ⟨w.heap.size+1,1,none⟩=some (.slice D m.l.length cd)
theorem zIK (w:World) (A B C D:Option Addr) (ca cb cc cd:Nat) (l m:La):zLM w (zHJ w A B C D ca cb cc cd l m) A B C D ca cb cc cd l m:=by
 unfold zHJ;refine⟨by go_grown,by simp,?_,?_,?_,?_⟩<;>go_simp
theorem eX (A B C D:Option Addr) (ca cb cc cd:Nat) (l m:La) (w:World) (U:zE w 0 A ca l.h) (hl:zE w 0 B cb l.l) (N:zE w 0 C cc m.h) (O:zE w 0 D cd m.l):
  Calls Tryz.prog 29 #[.agg #[.slice A l.h.length ca,.slice B l.l.length cb],.agg #[.slice C m.h.length cc,.slice D m.l.length cd]] w (xX w (decide (l=m))):=by
 have i:=hId (zIK w A B C D ca cb cc cd l m);have HH:=hId (U.below i.o.below);have HL:=hId (hl.below i.o.below);have GH:=hId (N.below i.o.below);have GL:=hId (O.below i.o.below)
 have u:Hid (decide (l=m)=(decide (l.h=m.h)&&decide (l.l=m.l))):=by
  show decide (l=m)=_;cases l;cases m
  simp
 generalize decide (l=m)=vv at *;clear U hl N O
 go_enter Tryz.func29,Tryz.ntmps29
 go_wp2_with fail
 change Calls _ _ _ (zHJ w A B C D ca cb cc cd l m) _;generalize zHJ w A B C D ca cb cc cd l m=W0 at *;have hs:=i.o.size;refine(uO A C ca cc l.h m.h W0 HH.o GH.o).mono ?_;rintro e w1 ⟨rfl,d⟩
 have j:=hId (zA i.o.below d i.o.below.size);have c1:=(zT d (b:=w.heap.size) (o:=1) (by omega)).trans i.o.l1
 have c2:=(zT d (b:=w.heap.size+1) (o:=1) (by omega)).trans i.o.m1
 have HS:=hId (uO B D cb cd l.l m.l w1 (HL.o.below d) (GL.o.below d));clear d hs
 by_cases h1:l.h=m.h
 ·have g:decide (l.h=m.h)=true:=decide_eq_true h1
  rw[g] at u ⊢;clear h1 g
  go_wp2_with fail
  refine HS.o.mono ?_;rintro e w2 ⟨rfl,s⟩;have J:=hId (zA j.o s j.o.size)
  have K:Hid (vv=decide (l.l=m.l)):=by
   show vv=_;rw[u.o]
   simp
  generalize decide (l.l=m.l)=v2 at *;clear s
  go_wp2_with fail
  go_ret
  exact⟨yJ K.o.symm,J.o⟩
 have g:decide (l.h=m.h)=false:=decide_eq_false h1
 rw[g] at u ⊢
 have K:Hid (vv=false):=by
  show vv=_;rw[u.o];rfl
 clear h1 g
 go_wp2_with fail
 go_ret
 exact⟨yJ K.o.symm,j.o⟩
def bU (letters n:Int):Bool:=decide (n<0)||decide (letters<=n)
def ckL (l:La) (letters:Int):Int:=
 if letters<1\/8<letters then 3
 else if 4000<(l.h.length:Int)\/4000<(l.l.length:Int) then 2
 else if l.l.length=0 then 1
 else if(nN (bU letters) l.h||nN (bU letters) l.l)=true then 5
 else 0
theorem zLq {l:La} {letters:Int} (h:letters<1\/8<letters):ckL l letters=3:=by rw[ckL,if_pos h]
theorem zLc {l:La} {letters:Int} (h:¬(letters<1\/8<letters)) (d:4000<(l.h.length:Int)\/4000<(l.l.length:Int)):ckL l letters=2:=by rw[ckL,if_neg h,if_pos d]
theorem zLo {l:La} {letters:Int} (h:¬(letters<1\/8<letters)) (d:¬(4000<(l.h.length:Int)\/4000<(l.l.length:Int))) (e:l.l.length=0):ckL l letters=1:=by rw[ckL,if_neg h,if_neg d,if_pos e]
theorem zK9 {l:La} {letters:Int} (h:¬(letters<1\/8<letters)) (d:¬(4000<(l.h.length:Int)\/4000<(l.l.length:Int))) (e:¬l.l.length=0):
  ckL l letters=if(nN (bU letters) l.h||nN (bU letters) l.l)=true then 5 else 0:=by rw[ckL,if_neg h,if_neg d,if_neg e]
theorem aE (letters:Int) (B:Nat) (w:World) (e:w.cell? ⟨B,0,none⟩=some (.int .i64 letters)) (g:B<w.heap.size):
  zEB Tryz.prog 83 #[(⟨B,0,none⟩:Addr)] (bU letters) w:=by
 intro n W d;have h:W.cell? ⟨B,0,none⟩=some (.int .i64 letters):=(d.cell (p:=⟨B,0,none⟩) g).trans e;clear e d;simp only[List.append_toArray,List.cons_append,List.nil_append]
 go_enter Tryz.func83,Tryz.ntmps83
 go_wp2
 all_goals(go_ret;refine⟨yJ ?_,bRf⟩;unfold bU)
 ·rfl
 rw[decide_eq_true (by assumption)];rfl
theorem nH:Enters Tryz.prog 83:=enters_of Tryz.func83 (by kernel_rfl) rfl
theorem fY (A B:Option Addr) (ca cb:Nat) (l:La) (letters:Int) (w:World) (O:zE w 0 A ca l.h) (U:zE w 0 B cb l.l):
  Calls Tryz.prog 42 #[.agg #[.slice A l.h.length ca,.slice B l.l.length cb],letters] w fun e w'=>e=.returned (ckL l letters)/\Below w w w':=by
 have h1:=O.le;have J:=O.max;have m:=U.le;have h4:=U.max
 go_enter Tryz.func42,Tryz.ntmps42
 have u:Below w w ((w.alloc (.cells #[Value.slice A l.h.length ca,Value.slice B l.l.length cb] 27)).alloc (.cells #[Value.int IntKind.i64 letters] 3)):=(bLa).alloc (by simp) _
 have j:=hId u;clear u
 by_cases m:letters<1\/8<letters
 ·have g:=hId (zLq (l:=l) m)
  go_wp2_with fail
  all_goals(go_ret;exact⟨zJ g.o.symm,j.o⟩)
 by_cases J:4000<(l.h.length:Int)\/4000<(l.l.length:Int)
 ·have g:=hId (zLc m J)
  go_wp2_with fail
  all_goals(go_ret;exact⟨zJ g.o.symm,j.o⟩)
 by_cases h1':l.l.length=0
 ·have g:=hId (zLo m J h1')
  have hz:((l.l.length:Int)==0)=true:=by simp[h1']
  clear h1'
  go_wp2_with fail
  go_ret
  exact⟨zJ g.o.symm,j.o⟩
 have g:=hId (zK9 m J h1');have hz:((l.l.length:Int)==0)=false:=by simpa using h1'
 clear h1'
 go_wp2_with fail
 refine(pH _ _ _ _ _ (bU letters) _ (O.below j.o) nH (aE letters (w.heap.size+1) _ (by go_simp) (by simp))).mono ?_
 rintro e w1 ⟨rfl,i⟩;obtain⟨hc1,hf1⟩:=zKO i;have HB:=hId i;clear i;have hs1:w.heap.size+1<w1.heap.size:=by have:=HB.o.size;simp at this;omega
 have N:=hId (zA j.o HB.o (by simp;omega))
 go_wp2_with fail
 ·have hn:nN (bU letters) l.h=true:=by assumption
  go_ret
  exact⟨zJ (by rw[g.o,hn];simp),N.o⟩
 have hn:nN (bU letters) l.h=false:=by simpa using(by assumption:¬nN (bU letters) l.h=true)
 refine(pH _ _ _ _ _ (bU letters) _ (U.below N.o) nH (aE letters (w.heap.size+1) _ (by go_simp) hs1)).mono ?_
 rintro e w2 ⟨rfl,s⟩;have K:=hId s;clear s
 go_wp2
 all_goals(go_ret;refine⟨zJ (by rw[g.o,hn];simp[*]),zA N.o K.o (by omega)⟩)
def atE (l:La) (letters i:Int):Int:=if ckL l letters=0 then(if i<0 then 3 else 0) else ckL l letters
def atL (l:La) (letters i:Int):Int:=if ckL l letters=0 then(if i<0 then 0 else l.at i.toNat) else 0
def zCs (w:World) (a b:Int) (e:Ending) (w':World):Prop:=e=.returned (.tuple #[a,b])/\Below w w w'
theorem zGC {a a' b d:Int} (e:a=a') (g:b=d):Ending.returned (.tuple #[a,b])=Ending.returned (.tuple #[a',d]):=by rw[e,g]
theorem zDZ {l:La} {letters:Int} (h:ckL l letters=0):l.l.length≠0:=by
 unfold ckL at h
 split at h
 ·simp at h
 split at h
 ·simp at h
 split at h
 ·simp at h
 assumption
def laW (w:World) (A B:Option Addr) (ca cb:Nat) (l:La):World:=w.alloc (.cells #[Value.slice A l.h.length ca,Value.slice B l.l.length cb] 27)
structure LaW (w W:World) (A B:Option Addr) (ca cb:Nat) (l:La):Prop where
 below:Below w w W
 size:w.heap.size<W.heap.size
 l0:W.cell? ⟨w,0,none⟩=some (.slice A l.h.length ca)
 l1:W.cell? ⟨w.heap.size,1,none⟩=some (.slice B l.l.length cb)
theorem zJw (w:World) (A B:Option Addr) (ca cb:Nat) (l:La):LaW w (laW w A B ca cb l) A B ca cb l:=by
 unfold laW;refine⟨by go_grown,by simp,?_,?_⟩<;>go_simp
theorem At_ (A B:Option Addr) (ca cb:Nat) (l:La) (letters i:Int) (w:World) (N:zE w 0 A ca l.h) (O:zE w 0 B cb l.l) (hi:i<=9223372036854775807):
  Calls Tryz.prog 39 #[.agg #[.slice A l.h.length ca,.slice B l.l.length cb],letters,i] w (zCs w (atL l letters i) (atE l letters i)):=by
 have h1:=N.le;have h2:=N.max;have h3:=O.le;have h4:=O.max;have HH:=hId N;have HL:=hId O;have m:=hId (zJw w A B ca cb l);have J:=hId (fY A B ca cb l letters (laW w A B ca cb l) (N.below m.o.below) (O.below m.o.below))
 have HV:=hId (show atL l letters i=if ckL l letters=0 then(if i<0 then 0 else l.at i.toNat) else 0 from rfl)
 have HE:=hId (show atE l letters i=if ckL l letters=0 then(if i<0 then 3 else 0) else ckL l letters from rfl)
 have h6:=hId (fun h=>zDZ (l:=l) (letters:=letters) h)
 generalize atL l letters i=vL at *;generalize atE l letters i=vE at *;generalize ckL l letters=ck at *;clear N O
 go_enter Tryz.func39,Tryz.ntmps39
 go_wp2_with fail
 refine J.o.mono ?_;rintro e w1 ⟨rfl,s⟩;have j:=hId (zA m.o.below s m.o.below.size);have d0:=(zT s (o:=0) m.o.size).trans m.o.l0;have d1:=(zT s (o:=1) m.o.size).trans m.o.l1;have h0:=hId ((HH.o).below j.o)
 have h5:=hId ((HL.o).below j.o);clear s J m HH HL
 by_cases hc:ck=0
 ·subst hc
  have h7:=h6.o rfl;have d:=HV.o;have g:=HE.o;rw[if_pos rfl] at d g
  by_cases hi0:i<0
  ·rw[if_pos hi0] at d g
   subst d g
   go_wp2_with fail
   go_ret2
   exact⟨rfl,j.o⟩
  rw[if_neg hi0] at d g;obtain⟨i,rfl⟩:=Int.eq_ofNat_of_zero_le (Int.not_lt.1 hi0);subst g;have K:=hId d;clear d
  by_cases hlt:i<l.h.length
  ·obtain⟨b,o,rfl,_,hb,u⟩:=zE.at_ h0.o hlt
   have U:Hid (vL=l.h[i]):=by
    show vL=_;rw[K.o]
    simp[La.at,hlt]
   go_wp2_with fail
   go_ret2
   exact⟨zGC U.o.symm rfl,j.o⟩
  have hm:(i-l.h.length)%l.l.length<l.l.length:=Nat.mod_lt _ (by omega)
  obtain⟨b,o,rfl,_,hb,u⟩:=zE.at_ h5.o hm
  have U:Hid (vL=l.l[(i-l.h.length)%l.l.length]):=by
   show vL=_;rw[K.o]
   simp[La.at,hlt,hm]
  have e1:((i:Int)-(l.h.length:Int))=((i-l.h.length:Nat):Int):=by omega
  have hz:((l.l.length:Int)==0)=false:=by simpa using h7
  go_wp2_with fail
  go_quiet (fail)
  go_wp2_with fail
  go_ret2
  exact⟨zGC U.o.symm rfl,zC j.o _⟩
 have d:=HV.o;have g:=HE.o;rw[if_neg hc] at d g;subst d g;have hc2:(vE !=0)=true:=by simpa using hc
 clear hc
 go_wp2_with fail
 go_ret2
 exact⟨rfl,j.o⟩
end
section
open Go Go.RowKit Go.Shelf Go.Sort
theorem at_loop {l:La} (d:0<l.l.length) (i:Nat):l.at (l.h.length+i)=l.l.getD (i%l.l.length) 0:=by
 unfold La.at;rw[if_neg (by omega),show l.h.length+i-l.h.length=i by omega]
def zFQ (w:World) (m:La) (e:Ending) (w':World):Prop:=
 ∃A B ca cb,e=.returned (.agg #[.slice A m.h.length ca,.slice B m.l.length cb])/\zE w' w.heap.size A ca m.h/\zE w' w.heap.size B cb m.l/\Below w w w'
def loW (w:World) (A B:Option Addr) (ca cb:Nat) (l:La):World:=(w.alloc (.cells #[Value.slice A l.h.length ca,Value.slice B l.l.length cb] 27)).alloc (.cells #[Value.slice none 0 0,Value.slice none 0 0] 27)
structure LoW (w W:World) (A B:Option Addr) (ca cb:Nat) (l:La):Prop where
 below:Below w w W
 size:W.heap.size=w.heap.size+1+1
 l0:W.cell? ⟨w,0,none⟩=some (.slice A l.h.length ca)
 l1:W.cell? ⟨w.heap.size,1,none⟩=some (.slice B l.l.length cb)
 r0:W.cell? ⟨w.heap.size+1,0,none⟩=some (.slice none 0 0)
 r1:W.cell? ⟨w.heap.size+1,1,none⟩=some (.slice none 0 0)
 f0:W.frozen? ⟨w.heap.size+1,0,none⟩=false
 f1:W.frozen? ⟨w.heap.size+1,1,none⟩=false
theorem zJI (w:World) (A B:Option Addr) (ca cb:Nat) (l:La):LoW w (loW w A B ca cb l) A B ca cb l:=by
 unfold loW;refine⟨by go_grown,by simp,?_,?_,?_,?_,?_,?_⟩<;>go_simp
theorem uZ {P:Nat->Bool} {L:Nat}:∀(m k n:Nat),0<k->k<=n->n<=L->L<=k+m->(∀ j,k<=j->j<n->P j=false)->(n<L->P n=true)->kR P L m k=n
 |0,k,n,_,h1,h2,h3,_,_=>by unfold kR;omega
 |m+1,k,n,h0,h1,h2,h3,hn,hp=>by
  unfold kR
  by_cases h:L<=k
  ·rw[if_pos h];omega
  rw[if_neg h]
  by_cases hkn:k=n
  ·subst hkn
   rw[hp (by omega)]
   rfl
  rw[hn k nLe (by omega)]
  simp only[Bool.false_eq_true,if_false];exact uZ m (k+1) n (by omega) (by omega) h2 (by omega) (fun j e d=>hn j (by omega) d) hp
theorem zBR {wr:World} {X:Nat} {a b u v:Value} (d:wr.cell? ⟨X,0,none⟩=some a) (e:wr.cell? ⟨X,1,none⟩=some b):
  ((wr.setCell ⟨X,0,none⟩ u).setCell ⟨X,1,none⟩ v).cell? ⟨X,0,none⟩=some u/\((wr.setCell ⟨X,0,none⟩ u).setCell ⟨X,1,none⟩ v).cell? ⟨X,1,none⟩=some v:=by
 constructor
 ·exact(World.cell?_setCell_other _ ⟨X,1,none⟩ ⟨X,0,none⟩ _ (by simp)).trans (World.cell?_setCell_same' _ _ _ (by rw[d];rfl))
 exact World.cell?_setCell_same' _ _ _ (by rw[World.cell?_setCell_other _ ⟨X,0,none⟩ ⟨X,1,none⟩ _ (by simp),e];rfl)
def lenOf:Value->Nat| .slice _ k _=>k|_=>0
def zGu (l:La) (letters:Int):La:=if ckL l letters=0 then lE l else⟨[],[]⟩
def zDr (w:World) (m:La) (E:Int) (e:Ending) (w':World):Prop:=
 ∃A B ca cb,e=.returned (.tuple #[.agg #[.slice A m.h.length ca,.slice B m.l.length cb],E])/\zE w' w.heap.size A ca m.h/\zE w' w.heap.size B cb m.l/\Below w w w'
theorem Rd.take {w:World} {lo:Nat} {A:Option Addr} {xs ys:List Value} (h:Rd w lo A (xs++ys)):Rd w lo A xs:=by
 intro d;obtain⟨b,off,m,g,i,s⟩:=h (by cases xs with|nil=>exact absurd rfl d|cons x r=>simp)
 exact⟨b,off,m,g,i,fun j u e=>s j u (by rw[List.getElem?_append_left (List.getElem?_eq_some_iff.1 e).1];exact e)⟩
theorem SlE.take {α:Type} {enc:α->List Value} {bt:Nat} {w:World} {lo:Nat} {A:Option Addr} {c:Nat} {xs:List α} (h:SlE enc bt w lo A c xs) (n:Nat):SlE enc bt w lo A c (xs.take n):=by
 have d:(xs.take n).length<=xs.length:=List.length_take_le' _ _
 refine⟨Nat.le_trans d h.le,h.cap,Nat.le_trans (Nat.mul_le_mul_right _ d) h.max,?_,h.fz.less ?_⟩
 ·have:=h.rd
  rw[<-List.take_append_drop n xs,List.flatMap_append] at this;exact this.take
 have e:(xs.flatMap enc).length=((xs.take n).flatMap enc).length+((xs.drop n).flatMap enc).length:=by rw[<-List.length_append,<-List.flatMap_append,List.take_append_drop]
 omega
theorem zEq {l:La} {letters:Int} (h:ckL l letters=0):l.l.length≠0/\l.h.length<=4000/\l.l.length<=4000:=by
 unfold ckL at h
 split at h
 ·simp at h
 split at h
 ·simp at h
 split at h
 ·simp at h
 omega
theorem zDo {l:La} {n:Nat} (j:n<=l.l.length):xZ l.at l.h.length n=l.l.take n:=by
 refine List.ext_getElem (by simp[xZ];omega) fun i d e=>?_
 have g:i<n:=by simpa[xZ] using d
 simp only[xZ,List.getElem_map,List.getElem_range,List.getElem_take];unfold La.at
 rw[if_neg (by omega),show l.h.length+i-l.h.length=i by omega,Nat.mod_eq_of_lt (by omega),List.getD_eq_getElem?_getD,List.getElem?_eq_getElem (by omega)]
 rfl
theorem zC4 {f:Nat->Int} {k n:Nat} (j:0<n) (h:f k=f (k+n)):f (k+n)::(xZ f (k+1) n).take (n-1)=xZ f k n:=by
 refine List.ext_getElem (by simp[xZ];omega) fun i e d=>?_
 have g:i<n:=by simpa[xZ] using d
 cases i with
 |zero=>simp[xZ,h]
 |succ i=>
  simp only[xZ,List.getElem_cons_succ,List.getElem_take,List.getElem_map,List.getElem_range]
  congr 1
  omega
theorem zAg {l:La} {n:Nat} (i:0<l.l.length) (d:0<n) (h:n<=l.l.length) (e:∀j,0<j->j<n->(decide (l.l.length%j=0)&&qS l.l j)=false) (g:n<l.l.length->(decide (l.l.length%n=0)&&qS l.l n)=true):pE l=n:=by
 rw[<-zCA l i];exact uZ _ 1 n (by decide) d h (by omega) (fun j a b=>e j a b) g
theorem zEa {l:La} {k:Nat} (j:k<=l.h.length):xZ l.at 0 k=l.h.take k:=by
 refine List.ext_getElem (by simp[xZ];omega) fun i d e=>?_
 have g:i<k:=by simpa[xZ] using d
 simp only[xZ,List.getElem_map,List.getElem_range,List.getElem_take,Nat.zero_add];unfold La.at;rw[if_pos (by omega),List.getD_eq_getElem?_getD,List.getElem?_eq_getElem (by omega)]
 rfl
theorem zIq (w:World) (e:TypeId) (v:Value):(w.alloc (.cells #[v] e)).ownsRow w.heap.size e 1 (.slice (some ⟨w,0,none⟩) 1 1) 1 [v]:=by
 refine⟨rfl,.inr ⟨w.heap.size,1,#[v],rfl,nLe,?_,nLe,by simp[maxLen],rfl,rfl⟩⟩
 show(w.heap.push _)[w.heap.size]?=_
 simp
theorem zCB {w:World} {base n c:Nat} {e:TypeId} {xs:List Int} {T:Option Addr} (h:w.ownsRow base e 1 (.slice T n c) n (xs.flatMap fun n:Int=>[Value.int .i64 n])) (j:xs.length=n) (m:n<=1000000):zE w base T c xs:=by
 subst j;obtain⟨A,d,g,i⟩:=SlE.of_own (enc:=fun n:Int=>[Value.int .i64 n]) (bt:=8) (xs:=xs) (v:=.slice T xs.length c) h (by omega)
 obtain⟨rfl,rfl⟩:T=A/\c=d:=by simpa using g
 exact i
theorem zJQ {w W0 K i:World} {V k n c g:Nat} {l:La} {T d:Option Addr} (N:V=w.heap.size) (U:Below V w W0) (O:V+1<W0.heap.size) (h1:W0.heap.size<=K.heap.size) (m:Below W0 W0 i)
  (hn:pE l=n) (hk:fU l.at n l.h.length=k) (s:k<=l.h.length) (i1:zE i K.heap.size T c (l.h.take k)) (i2:zE i K.heap.size d g (xZ l.at k n)):
  zDr w (lE l) 0 (.returned (.tuple #[.agg #[.slice T k c,.slice d n g],(0:Int)])) ((i.setCell ⟨V+1,0,none⟩ (.slice T k c)).setCell ⟨V+1,1,none⟩ (.slice d n g)):=by
 have e:lE l=⟨l.h.take k,xZ l.at k n⟩:=by
  unfold lE;rw[hn,hk,<-zEa s];unfold xZ
  simp
 have u:(l.h.take k).length=k:=by rw[List.length_take];omega
 have J:(xZ l.at k n).length=n:=by simp[xZ]
 rw[e];refine⟨T,d,c,g,by simp only[u,J],?_,?_,?_⟩
 ·have j:=i1.kept (iN.set _ _ _ (p:=⟨V+1,0,none⟩) (.slice T k c) (.inl (by show V+1<_;omega)))
  exact(j.kept (iN.set _ _ _ (p:=⟨V+1,1,none⟩) (.slice d n g) (.inl (by show V+1<_;omega)))).low (by omega)
 ·have j:=i2.kept (iN.set _ _ _ (p:=⟨V+1,0,none⟩) (.slice T k c) (.inl (by show V+1<_;omega)))
  exact(j.kept (iN.set _ _ _ (p:=⟨V+1,1,none⟩) (.slice d n g) (.inl (by show V+1<_;omega)))).low (by omega)
 rw[<-N];exact(((U.trans (m.mono (by omega))).setCell (p:=⟨V+1,0,none⟩) (by show V<=V+1;omega) _).setCell (p:=⟨V+1,1,none⟩) (by show V<=V+1;omega) _)
theorem zG4 (A B:Option Addr) (ca cb:Nat) (l:La) (letters:Int) (w:World) (hh:zE w 0 A ca l.h) (hl:zE w 0 B cb l.l):
  Calls Tryz.prog 24 #[.agg #[.slice A l.h.length ca,.slice B l.l.length cb],letters] w (zDr w (zGu l letters) (ckL l letters)):=by
 have HW:=hId (zJI w A B ca cb l);have HH:=hId (hh.below HW.o.below);have HL:=hId (hl.below HW.o.below);have hcph:=hh.le;have hcpl:=hl.le;have hcqh:=hh.cap;have hcql:=hl.cap
 obtain⟨i0,hi0,hz0,hz1,hz2⟩:=info_parts qX;have HCK:=hId (fY A B ca cb l letters (loW w A B ca cb l) HH.o HL.o);have HF:=hId (fun h=>zEq (l:=l) (letters:=letters) h)
 have HV:=hId (show zGu l letters=if ckL l letters=0 then lE l else⟨[],[]⟩ from rfl)
 generalize zGu l letters=vm at *;generalize ckL l letters=ck at *;clear hh hl
 go_enter Tryz.func24,Tryz.ntmps24
 go_wp2_with fail
 change Calls _ _ _ (loW w A B ca cb l) _;generalize loW w A B ca cb l=W0 at *;refine HCK.o.mono ?_;rintro e J ⟨rfl,h3⟩;obtain⟨V,hV⟩:∃V,V=w.heap.size:=⟨_,rfl⟩
 have d:Hid (Below V w W0/\V+1<W0.heap.size/\W0.cell? ⟨V,0,none⟩=some (.slice A l.h.length ca)/\W0.cell? ⟨V,1,none⟩=some (.slice B l.l.length cb)/\
   W0.cell? ⟨V+1,0,none⟩=some (.slice none 0 0)/\W0.cell? ⟨V+1,1,none⟩=some (.slice none 0 0)/\W0.frozen? ⟨V+1,0,none⟩=false/\W0.frozen? ⟨V+1,1,none⟩=false):=by
  rw[hV];exact⟨HW.o.below,by have:=HW.o.size;omega,HW.o.l0,HW.o.l1,HW.o.r0,HW.o.r1,HW.o.f0,HW.o.f1⟩
 rw[<-hV];have HVV:=hId hV;have O:=d.o.2.1;have hV1:V<W0.heap.size:=by omega
 clear hV HW HCK;have h8:=hId h3;have c0:=(zT h3 (b:=V) (o:=0) hV1).trans d.o.2.2.1;have c1:=(zT h3 (b:=V) (o:=1) hV1).trans d.o.2.2.2.1;have g0:=(zT h3 (b:=V+1) (o:=0) O).trans d.o.2.2.2.2.1
 have g1:=(zT h3 (b:=V+1) (o:=1) O).trans d.o.2.2.2.2.2.1;have z0:=(h3.frozen (p:=⟨V+1,0,none⟩) O).trans d.o.2.2.2.2.2.2.1;have z1:=(h3.frozen (p:=⟨V+1,1,none⟩) O).trans d.o.2.2.2.2.2.2.2;clear h3
 by_cases hc:ck=0
 ·subst hc
  have hV3:=HV.o;rw[if_pos rfl] at hV3;subst hV3;have hne:=(HF.o rfl).1;have h4:=(HF.o rfl).2.1;have h5:=(HF.o rfl).2.2;have hp:0<l.l.length:=by omega
  clear HV HF g0 g1 z0 z1 hne
  go_wp2_with fail
  refine(zEp B cb l.l J (HL.o.below h8.o)).mono ?_;rintro e w2 ⟨C,cc,rfl,hC,hb2⟩;have HC:=hId hC;have h9:Hid (Below W0 W0 w2):=zA h8.o hb2 h8.o.size;have hcc:=hC.le;have hcc2:=hC.cap
  have hw12:J.heap.size<=w2.heap.size:=hb2.size
  clear hb2 hC c0 c1
  go_upto_block 0 with fail
  go_cut [7] (fun s wx=>∃(n:Nat) (c':Nat),0<n/\n<=l.l.length/\s=.slice C n c'/\Below W0 W0 wx/\J.heap.size<=wx.heap.size/\Hid (pE l=n/\zE wx J.heap.size C c' (l.l.take n)))
  case first=>
   go_wp2_with fail
   go_loopw [7,8] (fun s7 s wr=>∃k:Nat,0<k/\k<=l.l.length/\s7=.slice C l.l.length cc/\s=.int .i64 k/\Below w2 w2 wr/\Hid (∀ j,0<j->j<k->(decide (l.l.length%j=0)&&qS l.l j)=false)) (fun _ s _=>l.l.length-(intOf s).toNat)
   case atStart=>exact⟨1,by omega,by omega,rfl,rfl,bRf,fun j a b=>absurd b (by omega)⟩
   obtain⟨k,hk0,hk,rfl,rfl,hb,HJ⟩:=hrel;have g:=hId hb;have HC3:=hId (HC.o.below hb);have HT:=hId (zJ1 C cc l.l k wr (HC3.o.low (Nat.zero_le _)) (by omega) (by omega))
   clear hb
   by_cases hkl:k<l.l.length
   ·by_cases hm:l.l.length%k=0
    ·have hmm:((l.l.length:Int)%(k:Int)==0)=true:=by
      have:((l.l.length:Int)%(k:Int))=((l.l.length%k:Nat):Int):=by simp
      rw[this,hm];rfl
     have HM:=hId hm;clear hm
     cases ht:qS l.l k with
     |true=>
      have hg:=HT;rw[ht] at hg;have hf:Hid (pE l=k):=zAg hp hk0 hk HJ.o (fun _=>by rw[ht,decide_eq_true HM.o];rfl)
      clear ht HT
      go_wp2_with (go_at_call 71;refine hg.o.mono ?_;rintro e w4 ⟨rfl,i⟩;have h0:=hId i;clear i)
      go_meet
      have hl:(l.l.take k).length=k:=by rw[List.length_take];omega
      exact⟨k,cc,hk0,hk,rfl,zA (zA h9.o g.o h9.o.size) h0.o (by have:=h9.o.size;have:=g.o.size;omega),by have:=g.o.size;have:=h0.o.size;omega,hf.o,(HC3.o.below h0.o).take k⟩
     |false=>
      have hg:=HT;rw[ht] at hg
      have HN:Hid (∀ j,0<j->j<k+1->(decide (l.l.length%j=0)&&qS l.l j)=false):=by
       intro j a b
       rcases Nat.lt_or_ge j k with h|h
       ·exact HJ.o j a h
       obtain rfl:j=k:=by omega
       rw[ht,Bool.and_false]
      clear ht HT
      go_wp2_with (go_at_call 71;refine hg.o.mono ?_;rintro e w4 ⟨rfl,i⟩;have h0:=hId i;clear i)
      go_roundw
      case rel=>exact⟨k+1,by omega,by omega,rfl,by go_num,zA g.o h0.o g.o.size,HN⟩
      case measure=>simp[intOf];omega
    have hmm:((l.l.length:Int)%(k:Int)==0)=false:=by
     have:((l.l.length:Int)%(k:Int))=((l.l.length%k:Nat):Int):=by simp
     rw[this];simp only[beq_eq_false_iff_ne,ne_eq];omega
    have HN:Hid (∀ j,0<j->j<k+1->(decide (l.l.length%j=0)&&qS l.l j)=false):=by
     intro j a b
     rcases Nat.lt_or_ge j k with h|h
     ·exact HJ.o j a h
     obtain rfl:j=k:=by omega
     rw[decide_eq_false hm];rfl
    clear hm HT
    go_wp2_with fail
    go_roundw
    case rel=>exact⟨k+1,by omega,by omega,rfl,by go_num,g.o,HN⟩
    case measure=>simp[intOf];omega
   have hf:Hid (pE l=k):=zAg hp hk0 hk HJ.o (fun h=>absurd h hkl)
   obtain rfl:k=l.l.length:=by omega
   clear HT
   go_wp2_with fail
   go_meet
   exact⟨l.l.length,cc,hp,nLe,rfl,zA h9.o g.o h9.o.size,by have:=g.o.size;omega,hf.o,by rw[List.take_of_length_le nLe];exact HC3.o⟩
  obtain⟨n,c',hn0,hn,rfl,hb3,hw13,HN⟩:=hcut;obtain⟨w3,rfl⟩:∃w3:World,w3=wc:=⟨_,rfl⟩;have g:=hId hb3;have c0:=(zT hb3 (b:=V) (o:=0) hV1).trans d.o.2.2.1
  have c1:=(zT hb3 (b:=V) (o:=1) hV1).trans d.o.2.2.2.1;clear hb3
  go_wp2_with fail
  refine(zEp A ca l.h w3 (HH.o.below g.o)).mono ?_;rintro e w4 ⟨D,cd,rfl,hD,i⟩;have HD:=hId hD;have h0:Hid (Below W0 W0 w4):=zA g.o i g.o.size
  have HC4:Hid (zE w4 J.heap.size C c' (xZ l.at l.h.length n)):=by
   show zE _ _ _ _ _;rw[zDo hn];exact HN.o.2.below i
  have hf:Hid (pE l=n):=HN.o.1
  have hw14:J.heap.size<=w4.heap.size:=Nat.le_trans hw13 i.size
  have hw03:W0.heap.size<=w3.heap.size:=g.o.size
  clear hD i c0 c1 HN
  go_upto_block 2 with fail
  go_cut [7,9] (fun s7 s9 wx=>∃(k:Nat) (C':Option Addr) (c':Nat),k<=l.h.length/\s7=.slice C' n c'/\s9=.slice D k cd/\Below W0 W0 wx/\Hid (fU l.at n l.h.length=k/\zE wx J.heap.size D cd (l.h.take k)/\zE wx J.heap.size C' c' (xZ l.at k n)))
  case first=>
   go_wp2_with fail
   go_loopw [7,9] (fun s7 s9 wr=>∃(k:Nat) (C':Option Addr) (c':Nat),k<=l.h.length/\s7=.slice C' n c'/\s9=.slice D k cd/\Below W0 W0 wr/\Hid (fU l.at n k=fU l.at n l.h.length/\J.heap.size<=wr.heap.size/\zE wr J.heap.size D cd (l.h.take k)/\zE wr J.heap.size C' c' (xZ l.at k n))) (fun _ s _=>lenOf s)
   case atStart=>exact⟨l.h.length,C,c',nLe,rfl,rfl,h0.o,rfl,hw14,by rw[List.take_of_length_le nLe];exact HD.o.low (by omega),HC4.o⟩
   obtain⟨k,C',c5,hk,rfl,rfl,hb5,K⟩:=hrel;have HB5:=hId hb5;have hk4:k<=4000:=by omega
   have hn4:n<=4000:=by omega
   clear hb5 HC4 HD h0
   by_cases hk0:0<k
   ·have hlk:(l.h.take k).length=k:=by rw[List.length_take];omega
    have hln:(xZ l.at k n).length=n:=by simp[xZ]
    obtain⟨b1,o1,hD1,_,_,q1⟩:=zE.at_ K.o.2.2.1 (k:=k-1) (by omega)
    obtain⟨b2,o2,hC1,_,_,q2⟩:=zE.at_ K.o.2.2.2 (k:=n-1) (by omega)
    obtain⟨x,hx⟩:∃x,x=l.at (k-1):=⟨_,rfl⟩;obtain⟨y,hy⟩:∃y,y=l.at (k-1+n):=⟨_,rfl⟩
    have e1:(l.h.take k)[k-1]'(by omega)=x:=by
     rw[hx,List.getElem_take];unfold La.at;rw[if_pos (by omega),List.getD_eq_getElem?_getD,List.getElem?_eq_getElem (by omega)]
     rfl
    have e2:(xZ l.at k n)[n-1]'(by omega)=y:=by
     rw[hy];simp only[xZ,List.getElem_map,List.getElem_range]
     congr 1
     omega
    rw[e1] at q1;rw[e2] at q2;have HX:=hId hx;have HY:=hId hy;have hl5:n<=c5:=by have:=K.o.2.2.2.le;omega
    have hc5:=K.o.2.2.2.cap;have hld:k<=cd:=by have:=K.o.2.2.1.le;omega
    have hcd:=K.o.2.2.1.cap;have HD1:=hId hD1;have HC1:=hId hC1;clear hx hy e1 e2 hlk hln hD1 hC1;subst HD1 HC1
    go_wp2_with fail
    go_quiet (fail)
    have ha:Hid (Below W0 W0 (wr.drewN nq)):=zC HB5.o nq
    have N:Hid (J.heap.size<=(wr.drewN nq).heap.size/\zE (wr.drewN nq) J.heap.size (some ⟨b1,o1,none⟩) cd (l.h.take k)/\zE (wr.drewN nq) J.heap.size (some ⟨b2,o2,none⟩) c5 (xZ l.at k n)):=
     ⟨K.o.2.1,K.o.2.2.1.below (zC (Below.refl _ wr) nq),K.o.2.2.2.below (zC (Below.refl _ wr) nq)⟩
    have HKD:Hid (fU l.at n k=fU l.at n l.h.length):=K.o.1
    have q3:(wr.drewN nq).cell? ⟨b2,o2+(n-1),none⟩=some (.int .i64 y):=q2
    clear q1 q2 K HB5;generalize wr.drewN nq=w6 at *
    by_cases hxy:x=y
    ·have hxy1:(x==y)=true:=by simpa using hxy
     have HXY:=hId hxy;have HO6:=hId (zIq w6 3 y)
     have HS6:Hid (Rd (w6.alloc (.cells #[y] 3)) 0 (some ⟨b2,o2,none⟩) (((xZ l.at k n).take (n-1)).flatMap fun n:Int=>[Value.int .i64 n])):=
      ((N.o.2.2.take (n-1)).rd.below (bLa) nLe).low (Nat.zero_le _)
     have HL6:Hid ((((xZ l.at k n).take (n-1)).flatMap fun n:Int=>[Value.int .i64 n]).length=(n-1)*1):=by
      show _=_;rw[zN (sz:=1) (fun _=>rfl)]
      simp[xZ]
     have HN6:Hid (1+(n-1)=n):=by show _=_;omega
     have m1:1+(n-1)<=maxLen:=by simp only[maxLen];omega
     have m2:(1+(n-1))*8<=140737488355328:=by omega
     have h6:w6.heap.size<=(w6.alloc (.cells #[y] 3)).heap.size:=by simp
     clear hxy
     go_wp2_with fail
     have y4:((n:Int)-1).toNat=n-1:=by omega
     have y1:IntKind.i64.wrap ((n:Int)-1)=(n:Int)-1:=IntWalk.i64_in _ (by omega)
     have y2:(1:Int)<=(n:Int):=by omega
     have y3:(n:Int)-1<(n:Int):=by omega
     have y5:(n:Int)-1<=(c5:Int):=by omega
     go_region_law ((refine zB9 _ rfl (.tmp 71) (.tmp 76) _ rfl w6.heap.size 3 i0 _ 1 8 Tryz.underlying22 hi0 hz0 hz1 hz2 rfl (by decide) (.slice (some ⟨w6,0,none⟩) 1 1) 1 [.int .i64 y] (by go_simp) HO6.o (some ⟨b2,o2,none⟩) (n-1) c5 _ (by go_simp) HL6.o HS6.o (jK _) m1 m2 h6 ?_;intro v9 w9 U hg9 hat9;rw[HN6.o] at U;obtain⟨A9,c9,hv9,_⟩:=zF U;subst hv9))
     all_goals
      clear y1 y2 y3 y4 y5;have hbb:Below w6 w6 w9:=qV ((Below.refl _ w6).alloc nLe _).drew hg9 HO6.o nLe h6
      have HR9:Hid (Below W0 W0 w9/\fU l.at n (k-1)=fU l.at n l.h.length/\J.heap.size<=w9.heap.size/\zE w9 J.heap.size (some ⟨b1,o1,none⟩) cd (l.h.take (k-1))/\zE w9 J.heap.size A9 c9 (xZ l.at (k-1) n)):=by
       have hxy2:l.at (k-1)=l.at (k-1+n):=by rw[<-HX.o,<-HY.o];exact HXY.o
       refine⟨zA ha.o hbb ha.o.size,?_,Nat.le_trans N.o.1 hbb.size,?_,?_⟩
       ·rw[<-HKD.o]
        obtain⟨m,rfl⟩:∃m,k=m+1:=⟨k-1,by omega⟩
        rw[Nat.add_sub_cancel] at hxy2 ⊢
        conv=>rhs;unfold fU
        rw[if_pos hxy2]
       ·have:=(N.o.2.1.below hbb).take (k-1)
        rwa[List.take_take,Nat.min_eq_left (by omega)] at this
       refine(zCB (n:=n) (xs:=xZ l.at (k-1) n) (e:=3) ?_ (by simp[xZ]) (by omega)).low N.o.1
       have:=zC4 (f:=l.at) (k:=k-1) hn0 hxy2;rw[show k-1+1=k by omega,<-HY.o] at this
       rw[<-this];exact U
      clear U hg9 hat9 hbb;go_simp
      go_wp2_with fail
      go_roundw
      case rel=>exact⟨k-1,A9,c9,by omega,rfl,rfl,HR9.o.1,HR9.o.2⟩
      case measure=>simp[lenOf];omega
    have hxy1:(x==y)=false:=by simpa using hxy
    have HKF:Hid (fU l.at n l.h.length=k):=by
     show _=_;rw[<-HKD.o];obtain⟨m,rfl⟩:∃m,k=m+1:=⟨k-1,by omega⟩
     have h1:=HX.o;have h2:=HY.o;rw[Nat.add_sub_cancel] at h1 h2;unfold fU;rw[if_neg (by rw[<-h1,<-h2];exact hxy)]
    clear hxy
    go_wp2_with fail
    go_meet
    exact⟨k,_,c5,hk,rfl,rfl,ha.o,HKF.o,N.o.2.1,N.o.2.2⟩
   have hk00:k=0:=by omega
   have HKF:Hid (fU l.at n l.h.length=k):=by
    show _=_;rw[<-K.o.1,hk00];rfl
   have hk02:decide (0<k)=false:=decide_eq_false hk0
   clear hk00
   go_wp2_with fail
   go_quiet (fail)
   have ha:Hid (Below W0 W0 (wr.drewN nq)):=zC HB5.o nq
   have N:Hid (zE (wr.drewN nq) J.heap.size D cd (l.h.take k)/\zE (wr.drewN nq) J.heap.size C' c5 (xZ l.at k n)):=
    ⟨K.o.2.2.1.below (zC (Below.refl _ wr) nq),K.o.2.2.2.below (zC (Below.refl _ wr) nq)⟩
   clear K HB5;generalize wr.drewN nq=w6 at *
   go_wp2_with fail
   go_meet
   exact⟨k,_,c5,hk,rfl,rfl,ha.o,HKF.o,N.o.1,N.o.2⟩
  obtain⟨k,C',c5,hk,rfl,rfl,h7,K⟩:=hcut;have g0:=(zT h7 (b:=V+1) (o:=0) O).trans d.o.2.2.2.2.1;have g1:=(zT h7 (b:=V+1) (o:=1) O).trans d.o.2.2.2.2.2.1
  have z0:=(h7.frozen (p:=⟨V+1,0,none⟩) O).trans d.o.2.2.2.2.2.2.1;have z1:=(h7.frozen (p:=⟨V+1,1,none⟩) O).trans d.o.2.2.2.2.2.2.2;have he:=hId (zJQ HVV.o d.o.1 O h8.o.size h7 hf.o K.o.1 hk K.o.2.1 K.o.2.2)
  have hd:=hId (zBR (u:=.slice D k cd) (v:=.slice C' n c5) g0 g1);clear h7
  go_wp2_with fail
  have r0:=hd.o.1;have r1:=hd.o.2;exact bodyPost_ret (v:=.tuple #[.agg #[.slice D k cd,.slice C' n c5],(0:Int)]) (by simp[results,Tryz.results24,go_sem,r0,r1]) rfl he.o
 have hV3:=HV.o;rw[if_neg hc] at hV3;subst hV3;have hc2:(ck !=0)=true:=by simpa using hc
 have hd:=hId (zBR (u:=.slice none 0 0) (v:=.slice none 0 0) g0 g1)
 have he:Hid (zDr w ⟨[],[]⟩ ck (.returned (.tuple #[.agg #[(),()],ck])) ((J.setCell ⟨V+1,0,none⟩ ()).setCell ⟨V+1,1,none⟩ ())):=by
  refine⟨none,none,0,0,rfl,⟨nLe,by omega,by simp,Rd.nil,Fz.no⟩,⟨nLe,by omega,by simp,Rd.nil,Fz.no⟩,?_⟩
  rw[<-HVV.o];exact(((d.o.1.trans (h8.o.mono (by omega))).setCell (p:=⟨V+1,0,none⟩) (by show V<=V+1;omega) _).setCell (p:=⟨V+1,1,none⟩) (by show V<=V+1;omega) _)
 clear hc c0 c1
 go_wp2_with fail
 have r0:=hd.o.1;have r1:=hd.o.2;exact bodyPost_ret (v:=.tuple #[.agg #[(),()],ck]) (by simp[results,Tryz.results24,go_sem,r0,r1]) rfl he.o
end
section
open Go Go.RowKit

end
section
open Go Go.RowKit Go.Shelf
theorem oT (k:Int) (w:World):Calls Tryz.prog 111 #[k] w fun e w'=>e=.returned (.bool (yI k))/\w=w':=by
 go_enter Tryz.func111,Tryz.ntmps111
 go_wp2
 all_goals(go_ret;refine⟨yJ ?_,rfl⟩;unfold yI btw;simp[*])
 omega
theorem zKb {a b c a' d e:Bool} (g:a=a') (h:b=d) (i:c=e):Ending.returned (.tuple #[a,b,c])=Ending.returned (.tuple #[a',d,e]):=by rw[g,h,i]
theorem iO (k:Int) (w:World):Calls Tryz.prog 113 #[k] w fun e w'=>e=.returned (.tuple #[.bool (nmA k),.bool (nmB k),.bool (nmN k)])/\w=w':=by
 go_enter Tryz.func113,Tryz.ntmps113
 go_wp2
 all_goals(go_ret3;refine⟨zKb ?_ ?_ ?_,rfl⟩<;>simp_all [nmA,nmB,nmN,btw]<;>omega)
theorem zEj (A:Option Addr) (c:Nat) (f:List Nd) (w:World) (h:Nds w 0 A c f):
  Calls Tryz.prog 73 #[.slice A f.length c] w fun e w'=>e=.returned (.bool (xA f))/\Below w w w':=by
 have h3:=h.le;have h1:=h.cap
 go_enter Tryz.func73,Tryz.ntmps73
 go_wp2
 go_loopw [3,8] (fun n i wr=>∃k:Nat,k<=f.length/\i=.int .i64 k/\n=.int .i64 (zCc (f.take k))/\Below w w wr) (fun _ i _=>f.length-(intOf i).toNat)
 case atStart=>exact⟨0,Nat.zero_le _,rfl,rfl,bRf⟩
 obtain⟨k,hk,rfl,rfl,g⟩:=hrel;have h2:=zHK f k
 by_cases hlt:k<f.length
 ·obtain⟨b,o,rfl,_,_,N,O,U,h0⟩:=Nds.at_ (h.below g) hlt
  have u:=zE4 hlt;have s:=hId u;clear u;have m:=hId (g.alloc g.size (.cells #[.int .i64 f[k].k,.int .i64 f[k].a,.int .i64 f[k].b,.int .i64 f[k].n] 63))
  go_wp2_with (go_at_call 111;refine(oT _ _).mono ?_;rintro e w' ⟨rfl,rfl⟩)
  ·have j:yI f[k].k=true:=by assumption
   go_roundw
   case rel=>exact⟨k+1,by omega,by go_num,by rw[s.o,if_pos j];go_num,m.o⟩
   case measure=>simp[intOf];omega
  have j:yI f[k].k=false:=by assumption
  go_roundw
  case rel=>exact⟨k+1,by omega,by go_num,by rw[s.o,if_neg (by simp[j])];go_num,m.o⟩
  case measure=>simp[intOf];omega
 have d:f.take k=f:=List.take_of_length_le (by omega)
 have J:=hId d;clear d
 go_wp2
 all_goals(go_ret;refine⟨yJ ?_,g⟩;have K:=J.o;(try rw[K]);unfold xA)
 ·rfl
 rw[decide_eq_true (by assumption)];rfl
theorem zJL (i k:Int) (B:Nat) (w:World) (d:w.cell? ⟨B,0,none⟩=some (.int .i64 i)):
  Calls Tryz.prog 141 #[k,(⟨B,0,none⟩:Addr)] w fun e w'=>e=.returned (.bool (btw k 0 (i-1)))/\w=w':=by
 go_enter Tryz.func141,Tryz.ntmps141
 go_wp2
 all_goals(go_ret;refine⟨yJ ?_,rfl⟩;unfold btw;rw[Bool.eq_iff_iff];simp;omega)
theorem zJo (x:Nd) (i:Int) (w:World):
  Calls Tryz.prog 102 #[.agg #[x.k,x.a,x.b,x.n],i] w fun e w'=>e=.returned (kK x i)/\Below w w w':=by
 go_enter Tryz.func102,Tryz.ntmps102
 go_wp2_with (first|(go_at_call 113;refine(iO _ _).mono ?_;rintro e w' ⟨rfl,rfl⟩)|(go_at_call 141;refine(zJL i _ (w.heap.size+1) _ (by go_simp)).mono ?_;rintro e w' ⟨rfl,rfl⟩))
 all_goals(go_ret;refine⟨zJ ?_,by go_grown⟩;go_tidy;have d:=xH x.k 1 8;have g:=xH x.n 0 2;cases h1:btw x.k 1 8<;>cases h2:btw x.n 0 2<;>simp_all [kK]<;>omega)
theorem jW (A:Option Addr) (c:Nat) (f:List Nd) (w:World) (j:Nds w 0 A c f):
  Calls Tryz.prog 59 #[.slice A f.length c] w fun e w'=>e=.returned (ckF f)/\Below w w w':=by
 have hle:=j.le;have hmx:=j.max;have hcp:=j.cap
 by_cases h0:f.length=0
 ·have K:((f.length:Int)==0)=true:=by simp[h0]
  go_enter Tryz.func59,Tryz.ntmps59
  have H0:=hId h0;clear h0
  go_wp2
  go_ret
  exact⟨zJ (by rw[ckF,if_pos H0.o]),bRf⟩
 have K:((f.length:Int)==0)=false:=by simpa using h0
 by_cases hm:xA f=true
 ·go_enter Tryz.func59,Tryz.ntmps59
  go_wp2_with (go_at_call 73;refine(zEj _ _ _ _ j).mono ?_;rintro e O ⟨rfl,g⟩)
  go_ret
  exact⟨zJ (by rw[ckF,if_neg h0,if_pos hm]),g⟩
 have hm':xA f=false:=by simpa using hm
 have d:ckF f=mQ (f.drop 0) 0:=by rw[ckF,if_neg h0,if_neg hm];rfl
 have HF:=hId d;clear d hm
 go_enter Tryz.func59,Tryz.ntmps59
 go_wp2_with (go_at_call 73;refine(zEj _ _ _ _ j).mono ?_;rintro e O ⟨rfl,g⟩)
 go_loopw [15] (fun i wr=>∃k:Nat,k<=f.length/\i=.int .i64 k/\ckF f=mQ (f.drop k) k/\Below w w wr) (fun i _=>f.length-(intOf i).toNat)
 case atStart=>exact⟨0,Nat.zero_le _,rfl,HF.o,g⟩
 obtain⟨k,hk,rfl,hc,u⟩:=hrel;have J:=hId hc;clear hc
 by_cases hlt:k<f.length
 ·obtain⟨b,o,rfl,_,hbl,hc1,hc2,hc3,hc4⟩:=Nds.at_ (j.below u) hlt
  have m:=fP hlt;have U:=hId m;clear m;have s:=hId (u.alloc u.size (.cells #[.int .i64 f[k].k,.int .i64 f[k].a,.int .i64 f[k].b,.int .i64 f[k].n] 63))
  by_cases he:kK f[k] k=0
  ·have N:(kK f[k] k !=0)=false:=by simpa using he
   have HE:=hId he;clear he
   go_wp2_with (go_at_call 102;refine(zJo _ _ _).mono ?_;rintro e O ⟨rfl,h⟩)
   go_roundw
   case rel=>exact⟨k+1,by omega,by go_num,by rw[J.o,U.o,if_pos HE.o],zA s.o h s.o.size⟩
   case measure=>simp[intOf];omega
  have N:(kK f[k] k !=0)=true:=by simpa using he
  go_wp2_with (go_at_call 102;refine(zJo _ _ _).mono ?_;rintro e O ⟨rfl,h⟩)
  go_ret
  exact⟨zJ (by rw[J.o,U.o,if_neg he]),zA s.o h s.o.size⟩
 go_wp2
 go_ret
 exact⟨zJ (by rw[J.o,lO (by omega)]),u⟩
end
section
inductive Fm where
 |tt:Fm
 |pr:Int->Fm
 |no:Fm->Fm
 |nx:Fm->Fm
 |bi:Int->Fm->Fm->Fm
 deriving DecidableEq
def sgn (k:Int):UInt8:=if k=4 then 38 else if k=5 then 124 else if k=7 then 85 else 82
def Fm.show:Fm->List UInt8
 | .tt=>[116,114,117,101]
 | .pr n=>[112,UInt8.ofNat (48+n.toNat)]
 | .no a=>33::a.show
 | .nx a=>88::a.show
 | .bi k a b=>40::(a.show++[32,sgn k,32]++b.show++[41])
def Fm.flat:Fm->List Nd->List Nd
 | .tt,o=>o++[⟨1,0,0,0⟩]
 | .pr n,o=>o++[⟨2,0,0,n⟩]
 | .no a,o=>a.flat o++[⟨3,((a.flat o).length:Int)-1,0,0⟩]
 | .nx a,o=>a.flat o++[⟨6,((a.flat o).length:Int)-1,0,0⟩]
 | .bi k a b,o=>b.flat (a.flat o)++[⟨k,((a.flat o).length:Int)-1,((b.flat (a.flat o)).length:Int)-1,0⟩]
def Fm.size:Fm->Nat
 | .tt=>1
 | .pr _=>1
 | .no a=>a.size+1
 | .nx a=>a.size+1
 | .bi _ a b=>a.size+b.size+1
theorem Fm.flat_len (t:Fm):∀o,(t.flat o).length=o.length+t.size:=by
 induction t with
 |tt=>intro o;simp[Fm.flat,Fm.size]
 |pr n=>intro o;simp[Fm.flat,Fm.size]
 |no a ih=>intro o;simp[Fm.flat,Fm.size,ih];omega
 |nx a ih=>intro o;simp[Fm.flat,Fm.size,ih];omega
 |bi k a b iha ihb=>intro o;simp[Fm.flat,Fm.size,iha,ihb];omega
def mD (ts:List Fm) (x:Nd):Fm:=
 if x.k=1 then .tt
 else if x.k=2 then .pr x.n
 else if x.k=3 then .no (ts.getD x.a.toNat .tt)
 else if x.k=6 then .nx (ts.getD x.a.toNat .tt)
 else .bi x.k (ts.getD x.a.toNat .tt) (ts.getD x.b.toNat .tt)
def qG:Nd:=⟨0,0,0,0⟩
def xY (f:List Nd):Nat->List Fm
 |0=>[]
 |k+1=>xY f k++[mD (xY f k) (f.getD k qG)]
def zB (f:List Nd) (i:Nat):Fm:=mD (xY f i) (f.getD i qG)
theorem mB (f:List Nd) (k:Nat):(xY f k).length=k:=by
 induction k with
 |zero=>rfl
 |succ k ih=>simp[xY,ih]
theorem vM (f:List Nd):∀(k i:Nat),i<k->(xY f k).getD i .tt=zB f i
 |0,i,h=>absurd h (by omega)
 |k+1,i,h=>by
  unfold xY;rw[List.getD_eq_getElem?_getD]
  rcases Nat.lt_or_ge i k with h1|h1
  ·rw[List.getElem?_append_left (by rw[mB];exact h1),<-List.getD_eq_getElem?_getD]
   exact vM f k i h1
  obtain rfl:i=k:=by omega
  rw[List.getElem?_append_right (by rw[mB];exact nLe),mB]
  simp[zB]
def Fm.ok:Fm->Prop
 | .tt=>True
 | .pr n=>0<=n/\n<=9
 | .no a=>a.ok
 | .nx a=>a.ok
 | .bi k a b=>(k=4\/k=5\/k=7\/k=8)/\a.ok/\b.ok
def chr (s:List UInt8) (i:Nat):UInt8:=s.getD i 0
def yY (s:List UInt8):List UInt8->Nat->Except Nat Nat
 |[],i=>.ok i
 |c::r,i=>if i<s.length/\chr s i=c then yY s r (i+1) else .error i
def kI (c:UInt8):Int:=if c=38 then 4 else if c=124 then 5 else if c=85 then 7 else if c=82 then 8 else 0
def prs (s:List UInt8):Nat->Nat->Except Nat (Fm×Nat)
 |0,i=>.error i
 |m+1,i=>
  if s.length<=i then .error s.length
  else if chr s i=116 then(match yY s [116,114,117,101] i with| .error e=>.error e| .ok j=>.ok (.tt,j))
  else if chr s i=112 then(if i+1<s.length/\48<=chr s (i+1)/\chr s (i+1)<=57 then .ok (.pr ((chr s (i+1)).toNat-48),i+2) else .error (i+1))
  else if chr s i=33 then(match prs s m (i+1) with| .error e=>.error e| .ok (a,j)=>.ok (.no a,j))
  else if chr s i=88 then(match prs s m (i+1) with| .error e=>.error e| .ok (a,j)=>.ok (.nx a,j))
  else if chr s i=40 then
   (match prs s m (i+1) with
   | .error e=>.error e
   | .ok (a,j)=>
    match yY s [32] j with
    | .error e=>.error e
    | .ok j=>
     if j<s.length/\kI (chr s j)≠0 then
      (match yY s [32] (j+1) with
      | .error e=>.error e
      | .ok j2=>
       match prs s m j2 with
       | .error e=>.error e
       | .ok (b,j3)=>
        match yY s [41] j3 with
        | .error e=>.error e
        | .ok j4=>.ok (.bi (kI (chr s j)) a b,j4))
     else .error j)
  else .error i
end
end Go.Proofs.YtoglgeaiiipchaaGreatDoor
