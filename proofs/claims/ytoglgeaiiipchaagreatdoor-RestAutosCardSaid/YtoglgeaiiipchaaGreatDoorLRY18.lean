import Derived.Test.YtoglgeaiiipchaaGreatDoorLRY17
import Derived.Sort.CutIn
set_option linter.unusedSimpArgs false
set_option linter.unusedVariables false
set_option maxRecDepth 100000
set_option maxHeartbeats 8000000
namespace Go.Proofs.YtoglgeaiiipchaaGreatDoor
section
open Go Go.RowKit Go.Maps Go.Shelf Go.Sort
attribute [local go_sem] Oper.semAt_some
def edW (f:List Nd) (c nx p:Nat) (k:Nat):List Stp:=(List.range k).map fun v:Nat=>⟨yH f p v,(c:Int),yH f nx (onW f (zV f c nx) v)⟩
theorem zHb (f:List Nd) (c nx p k:Nat):edW f c nx p (k+1)=edW f c nx p k++[⟨yH f p k,(c:Int),yH f nx (onW f (zV f c nx) k)⟩]:=by unfold edW;rw[List.range_succ,List.map_append];rfl
theorem zBB (f:List Nd) (c nx p k:Nat):(edW f c nx p k).length=k:=by simp[edW]
def ed0 (f:List Nd) (c nx:Nat):List Stp:=if(zV f c nx).getD (f.length-1) false=true then[⟨0,(c:Int),yH f nx (onW f (zV f c nx) 0)⟩] else[]
def nD (f:List Nd) (c nx p:Nat):List Stp:=edW f c nx p ((zK f).length+1)++ed0 f c nx
theorem zKM (f:List Nd) (hf:vF f) (c nx:Nat) (hc:c<8) (hnx:nx<2^tn f) (w0:World) (Bk M:Nat) (FA:Option Addr) (fc:Nat) (gv sv:Value) (es:List Stp) (hes:es.length<=1000000) (w:World) (hT:TbW w0 Bk M f FA fc gv sv es w):
  Calls Tryz.prog 144 #[(⟨Bk,0,none⟩:Addr),(c:Int),(nx:Int)] w fun e w'=>e=.returned (.tuple #[])/\∃sv' p,jF f (zV f c nx) p/\TbW w0 Bk M f FA fc gv sv' (es++nD f c nx p) w'/\kF Bk w w':=by
 have HF:=hId hf;have HNX:=hId hnx;have hn4:=(gY hf).1;have hfn:=(gY hf).2;have h16:2^tn f<=16:=Nat.pow_le_pow_right (n:=2) (by decide) hn4
 have HN16:Hid (nx<=16/\2^tn f<=16/\(zK f).length<=4/\c<8):=⟨by omega,h16,by omega,hc⟩
 have HTW:=hId hT;obtain⟨GA,gc,rfl,hTA⟩:=hT.rd hf;have HTR:=hId (zHS f hf c nx hc hnx Bk M FA GA fc gc w hTA);clear hT hf hc hnx hn4 hfn h16 hTA;refine(callsIn_wide (n:=9)).1 ?_
 refine callsIn_of_wp Tryz.func144 rfl trivial ?_
 simp only[Tryz.ntmps144,List.size_toArray,List.length_cons,List.length_nil,Nat.reduceAdd,Nat.reduceSub,Array.replicate_succ,Array.replicate_zero,List.push_toArray,List.append_toArray,List.nil_append,List.cons_append]
 gi_wp2
 refine⟨trivial,?_⟩;refine(callsIn_wide.2 HTR.o).mono ?_;rintro e w1 ⟨G,rfl,hG,hrow,hb1⟩;have HL:Hid ((zV f c nx).length=f.length):=vW f c nx f.length;have HT1:=hId (HTW.o.on hb1);have HR1:=hId hrow
 obtain⟨GA1,gc1,he1,hTA1⟩:=HT1.o.rd HF.o;obtain⟨rfl,rfl⟩:GA=GA1/\gc=gc1:=by simpa using he1
 have HKP:=hId (zLm f HF.o (zV f c nx) HL.o G Bk M FA GA fc gc w1 hTA1 hrow);have HK1:Hid (kF Bk w w1):=kF.of_below hb1;clear HTR hrow hb1 hG he1 hTA1 HTW
 have HE0:Hid (ed0 f c nx=if(zV f c nx).getD (f.length-1) false=true then[⟨0,(c:Int),yH f nx (onW f (zV f c nx) 0)⟩] else[]):=rfl
 have HEW:=hId (zHb f c nx);generalize htt:zV f c nx=t at *;have HTT:=hId htt;clear htt
 gi_wp2
 refine⟨trivial,?_⟩;refine(callsIn_wide.2 HKP.o).mono ?_;rintro e w2 ⟨p,rfl,hkp,hb2⟩;have HT2:=hId (HT1.o.on hb2);have HR2:=hId (HR1.o.below hb2 HR1.o.lt);have HKI:=hId hkp
 have hp16:p<=16:=by have:=hkp.lt;have:=HN16.o;omega
 have HK2:Hid (kF Bk w w2):=HK1.o.trans (kF.of_below hb2)
 clear HKP hkp hb2 HT1 HR1 HK1;have c2:=(kY HT2.o.obj).2.2.1;rw[qU] at c2;obtain⟨n,hn⟩:∃n,n=(zK f).length:=⟨_,rfl⟩;have HNN:=hId hn;rw[<-hn] at c2;have hn4:n<=4:=by rw[hn];exact HN16.o.2.2.1
 clear hn
 gi_wp2
 gi_loopw [8,22] (fun _ v22 wr=>∃(k:Nat) (s:Value),k<=n+1/\v22=(k:Int)/\Hid (TbW w0 Bk M f FA fc (.slice GA (qL f).length gc) s (es++edW f c nx p k) wr)/\Hid (zU wr G t)/\Hid (kF Bk w wr)) (fun _ v22 _=>n+1-(intOf v22).toNat)
 case atStart=>exact⟨0,sv,Nat.zero_le _,rfl,by show TbW _ _ _ _ _ _ _ _ _ _;simpa[edW] using HT2.o,HR2.o,HK2.o⟩
 obtain⟨k,s,hk,rfl,HT,HR,HKS⟩:=hrel
 by_cases hkn:k<n+1
 ·have q1:(k:Int)<(n:Int)+1:=by omega
  clear c2
  gi_wp2
  have hdw:Below wr wr wr.drew:=bRf.drew
  have HTD:=hId (HT.o.on hdw);have HRD:=hId (HR.o.below hdw HR.o.lt);obtain⟨sA,sc,rfl,hsl,hsc,-⟩:=zF HT.o.s;have HKN:=hId hkn;obtain⟨GA2,gc2,he2,g⟩:=HTD.o.rd HF.o
  obtain⟨rfl,rfl⟩:GA=GA2/\gc=gc2:=by simpa using he2
  have U:=(kY HTD.o.obj).2.2.2.1;have J:zU wr.drew G t:=HRD.o;have hkf:k<=(zK f).length:=by have:=HNN.o;omega
  have HON:=hId (fun W (j:mE W Bk M f FA fc GA gc) (m:zU W G t)=>on_ f HF.o k hkf t HL.o G Bk M FA GA fc gc W j m)
  have hle:=rK (t:=t) hkf;have hn5:onW f t k<=5:=by have:=HN16.o.2.2.1;omega
  have hk5:k<=5:=by omega
  have hnx16:=HN16.o.1;generalize hLS:es++edW f c nx p k=ls at *;have HLS:Hid (es++edW f c nx p (k+1)=ls++[⟨yH f p k,(c:Int),yH f nx (onW f t k)⟩]):=by show _=_;rw[HEW.o,<-List.append_assoc,hLS]
  generalize onW f t k=ov at *;have hll:ls.length<=1000000000:=by rw[<-hLS,List.length_append,zBB];omega
  clear hLS hle hkf he2 HT HR;refine xK (fun w'=>mE w' Bk M f FA fc GA gc/\zU w' G t/\w'.cell? ⟨Bk,3,none⟩=some (.slice sA ls.length sc)) 22 (by kernel_rfl) ?_
  generalize wr.drew=W6 at *;refine tZ 0 ?v0e ?hy0e ⟨g,J,U⟩ ?rest0e
  case hy0e=>(intro w' d;obtain⟨u,j,m⟩:=d;go_simp;(try with_reducible rfl))
  (try simp only[lAy])
  refine tZ 1 ?v1e ?hy1e ⟨g,J,U⟩ ?rest1e
  case hy1e=>(intro w' d;obtain⟨u,j,m⟩:=d;go_simp;(try with_reducible rfl))
  (try simp only[lAy])
  refine tZ 2 ?v2e ?hy2e ⟨g,J,U⟩ ?rest2e
  case hy2e=>(intro w' d;obtain⟨u,j,m⟩:=d;go_simp;(try with_reducible rfl))
  (try simp only[lAy])
  refine tZ 3 ?v3e ?hy3e ⟨g,J,U⟩ ?rest3e
  case hy3e=>(intro w' d;obtain⟨u,j,m⟩:=d;go_simp;(try with_reducible rfl))
  (try simp only[lAy])
  refine tZ 4 ?v4e ?hy4e ⟨g,J,U⟩ ?rest4e
  case hy4e=>(intro w' d;obtain⟨u,j,m⟩:=d;go_simp;(try with_reducible rfl))
  (try simp only[lAy])
  refine tZ 5 ?v5e ?hy5e ⟨g,J,U⟩ ?rest5e
  case hy5e=>(intro w' d;obtain⟨u,j,m⟩:=d;go_simp;(try with_reducible rfl))
  (try simp only[lAy])
  refine tZ 6 ?v6e ?hy6e ⟨g,J,U⟩ ?rest6e
  case hy6e=>(intro w' d;obtain⟨u,j,m⟩:=d;go_simp;(try with_reducible rfl))
  (try simp only[lAy])
  refine tZ 7 ?v7e ?hy7e ⟨g,J,U⟩ ?rest7e
  case hy7e=>(intro w' d;obtain⟨u,j,m⟩:=d;go_simp;(try with_reducible rfl))
  (try simp only[lAy])
  refine xT (i:=8) (v:=.int .i64 (yH f p k)) rfl (by kernel_rfl) (by kernel_rfl) (by kernel_rfl) (by kernel_rfl) (by kernel_rfl) (by kernel_rfl) (fun _ _ _ h=>h) (qW (f:=143) (args:=#[.pointer (some ⟨Bk,0,none⟩),.int .i64 (p:Int),.int .i64 (k:Int)]) (fun _ _ _ _=>trivial) (by rfl) ?hx8e (fun h=>(by cases h)) ?hc8e) ⟨g,J,U⟩ ?rest8e
  case hx8e=>(intro w';go_simp;(try with_reducible rfl))
  case hc8e=>(intro w' d;exact(callsIn_wide.2 (nS f HF.o p k hp16 hk5 Bk M FA GA fc gc w' d.1)).mono (fun e w'' h=>⟨h.1,h.2⟩))
  (try simp only[lAy])
  refine tZ 9 ?v9e ?hy9e ⟨g,J,U⟩ ?rest9e
  case hy9e=>(intro w' d;obtain⟨u,j,m⟩:=d;go_simp;(try with_reducible rfl))
  (try simp only[lAy])
  refine tZ 10 ?v10e ?hy10e ⟨g,J,U⟩ ?rest10e
  case hy10e=>(intro w' d;obtain⟨u,j,m⟩:=d;go_simp;(try with_reducible rfl))
  (try simp only[lAy])
  refine tZ 11 ?v11e ?hy11e ⟨g,J,U⟩ ?rest11e
  case hy11e=>(intro w' d;obtain⟨u,j,m⟩:=d;go_simp;(try with_reducible rfl))
  (try simp only[lAy])
  refine tZ 12 ?v12e ?hy12e ⟨g,J,U⟩ ?rest12e
  case hy12e=>(intro w' d;obtain⟨u,j,m⟩:=d;go_simp;(try with_reducible rfl))
  (try simp only[lAy])
  refine tZ 13 ?v13e ?hy13e ⟨g,J,U⟩ ?rest13e
  case hy13e=>(intro w' d;obtain⟨u,j,m⟩:=d;go_simp;(try with_reducible rfl))
  (try simp only[lAy])
  refine tZ 14 ?v14e ?hy14e ⟨g,J,U⟩ ?rest14e
  case hy14e=>(intro w' d;obtain⟨u,j,m⟩:=d;go_simp;(try with_reducible rfl))
  (try simp only[lAy])
  refine zI (i:=15) rfl (by kernel_rfl) rfl (fun K hK=>?_)
  refine vJ (f:=170) (args:=#[.pointer (some ⟨Bk,0,none⟩),.int .i64 (k:Int),.slice (some ⟨G,0,none⟩) t.length t.length]) (by go_simp;(try with_reducible rfl)) (fun _ h=>by cases h) (fun _=>trivial) (fun h=>(by cases h)) ?_
  refine(callsIn_wide.2 (HON.o W6 g J)).mono ?_;rintro e w7 ⟨rfl,hb7⟩;refine⟨_,rfl,?_⟩;have O:=hId (HTD.o.on hb7);have N:=hId (HRD.o.below hb7 HRD.o.lt);obtain⟨GA7,gc7,he7,hA7⟩:=O.o.rd HF.o
  obtain⟨rfl,rfl⟩:GA=GA7/\gc=gc7:=by simpa using he7
  have s7:=(kY O.o.obj).2.2.2.1;have r7:zU w7 G t:=N.o;refine hK.out _ _ (.inr ⟨hA7,r7,s7⟩) ?_;clear hK K he7
  (try simp only[lAy])
  refine xT (i:=16) (v:=.int .i64 (yH f nx ov)) rfl (by kernel_rfl) (by kernel_rfl) (by kernel_rfl) (by kernel_rfl) (by kernel_rfl) (by kernel_rfl) (fun _ _ _ h=>h) (qW (f:=143) (args:=#[.pointer (some ⟨Bk,0,none⟩),.int .i64 (nx:Int),.int .i64 (ov:Int)]) (fun _ _ _ _=>trivial) (by rfl) ?hx16e (fun h=>(by cases h)) ?hc16e) ⟨hA7,r7,s7⟩ ?rest16e
  case hx16e=>(intro w';go_simp;(try with_reducible rfl))
  case hc16e=>(intro w' d;exact(callsIn_wide.2 (nS f HF.o nx ov hnx16 hn5 Bk M FA GA fc gc w' d.1)).mono (fun e w'' h=>⟨h.1,h.2⟩))
  (try simp only[lAy])
  refine tZ 17 ?v17e ?hy17e ⟨hA7,r7,s7⟩ ?rest17e
  case hy17e=>(intro w' d;obtain⟨u,j,m⟩:=d;go_simp;(try with_reducible rfl))
  (try simp only[lAy])
  obtain⟨T8,cc8,he8,hlc8,hcm8,T3,c3,w8,hrun,q8,f8,hgr,hT8,hR8⟩:=O.o.app ⟨yH f p k,(c:Int),yH f nx ov⟩ hll;obtain⟨rfl,rfl⟩:sA=T8/\sc=cc8:=by simpa using he8
  have hal:Below w7 w7 (w7.alloc (.cells #[(yH f p k),(c:Int),(yH f nx ov)] 80)):=bLa
  have HTA:=hId (O.o.on hal);obtain⟨GA9,gc9,he9,hA9⟩:=HTA.o.rd HF.o;obtain⟨rfl,rfl⟩:GA=GA9/\gc=gc9:=by simpa using he9
  have s9:=(kY HTA.o.obj).2.2.2.1;have r9:=N.o.below hal N.o.lt;obtain⟨hA8,hRR⟩:=O.o.mid HF.o hal hgr;have r8:=hRR G t N.o;have HRUN:=hId hrun;have HT8:=hId hT8;have HR8:=hId (hR8.brow (O.o.brow_ne N.o) N.o)
  have HK8:=hId (HKS.o.trans ((kF.of_below hdw).trans ((kF.of_below hb7).trans hR8)));clear he8 he9 hrun hgr hT8 hR8 hRR hal;refine zI (i:=18) rfl (by kernel_rfl) rfl (fun K hK=>?_)
  go_simp
  refine hK.out _ _ (.inr ⟨hA9,r9,s9⟩) ?_;clear hK K
  (try simp only[lAy])
  refine zI (i:=19) rfl (by kernel_rfl) rfl (fun K hK=>?_)
  refine pF (.tmp 29) (.tmp 43) _ _ rfl (.slice sA ls.length sc) (.slice (some ⟨w7,0,none⟩) 1 1) (.slice T3 (ls.length+1) c3) (by go_simp) (by go_simp) HRUN.o ?_
  refine hK.out _ _ (.inr ⟨hA8,r8,q8⟩) ?_;clear hK K
  (try simp only[lAy])
  refine tZ 20 ?v20e ?hy20e ⟨hA8,r8,q8⟩ ?rest20e
  case hy20e=>(intro w' d;obtain⟨u,j,m⟩:=d;go_simp;(try with_reducible rfl))
  (try simp only[lAy])
  refine tZ 21 ?v21e ?hy21e ⟨hA8,r8,q8⟩ ?rest21e
  case hy21e=>(intro w' d;obtain⟨u,j,m⟩:=d;go_simp;(try with_reducible rfl))
  (try simp only[lAy])
  refine zI (i:=22) rfl (by kernel_rfl) rfl (fun K hK=>?_)
  go_simp
  refine hK.out _ _ (.inl rfl) ?_;clear hK K;refine xL (by kernel_rfl) (xB ?_) _
  gi_wp2
  go_roundw
  case rel=>exact⟨k+1,_,HKN.o,by go_num,by show TbW _ _ _ _ _ _ _ _ _ _;rw[HLS.o];exact HT8.o,HR8.o,HK8.o⟩
  case measure=>simp[intOf];have:=HKN.o;omega
 have q1:¬(k:Int)<(n:Int)+1:=by omega
 obtain rfl:k=n+1:=by omega
 clear c2;have hpos:0<f.length:=HF.o.pos;have hfl:=zD8 HF.o
 have q2:IntKind.i64.wrap ((t.length:Int)-1)=((t.length-1:Nat):Int):=by
  have:=HL.o;rw[IntWalk.i64_in _ (by omega)]
  omega
 have q3:((t.length-1:Nat):Int)<(t.length:Int):=by have:=HL.o;omega
 have q4:(1:Int)<=(t.length:Int):=by have:=HL.o;omega
 obtain⟨y0,_⟩:=HR.o.getD_ (i:=t.length-1) (by have:=HL.o;omega) false
 rw[<-HL.o] at HE0;have HEA:Hid (nD f c nx p=edW f c nx p (n+1)++ed0 f c nx):=by show _=_;unfold nD;rw[HNN.o]
 generalize t.getD (t.length-1) false=tv at *
 cases tv with
 |false=>
  have HP:Hid (∃ sv' p',jF f (zV f c nx) p'/\TbW w0 Bk M f FA fc (.slice GA (qL f).length gc) sv' (es++nD f c nx p') wr/\kF Bk w wr):=⟨s,p,by rw[HTT.o];exact HKI.o,by rw[HEA.o,HE0.o,if_neg (by simp),List.append_nil];exact HT.o,HKS.o⟩
  clear hpos hfl
  gi_wp2
  go_end0
  exact⟨rfl,HP.o⟩
 |true=>
 clear hpos hfl
 gi_wp2
 have hdw:Below wr wr wr.drew:=bRf.drew
 have HTD:=hId (HT.o.on hdw);have HRD:=hId (HR.o.below hdw HR.o.lt);obtain⟨sA,sc,rfl,hsl,hsc,-⟩:=zF HT.o.s;obtain⟨GA2,gc2,he2,g⟩:=HTD.o.rd HF.o;obtain⟨rfl,rfl⟩:GA=GA2/\gc=gc2:=by simpa using he2
 have U:=(kY HTD.o.obj).2.2.2.1;have J:zU wr.drew G t:=HRD.o;have HON:=hId (fun W (j:mE W Bk M f FA fc GA gc) (m:zU W G t)=>on_ f HF.o 0 (Nat.zero_le _) t HL.o G Bk M FA GA fc gc W j m)
 have hle:=rK (f:=f) (t:=t) (w:=0) (Nat.zero_le _);have hn5:onW f t 0<=5:=by have:=HN16.o.2.2.1;omega
 have hnx16:=HN16.o.1;generalize hLS:es++edW f c nx p (n+1)=ls at *;have HLS:Hid (es++nD f c nx p=ls++[⟨0,(c:Int),yH f nx (onW f t 0)⟩]):=by show _=_;rw[HEA.o,HE0.o,if_pos (by simp),<-List.append_assoc,hLS]
 have hll:ls.length<=1000000000:=by rw[<-hLS,List.length_append,zBB];omega
 generalize onW f t 0=ov at *;clear hLS hle he2 HT HR y0 q2 q3 q4;refine xK (fun w'=>mE w' Bk M f FA fc GA gc/\zU w' G t/\w'.cell? ⟨Bk,3,none⟩=some (.slice sA ls.length sc)) 17 (by kernel_rfl) ?_
 generalize wr.drew=W6 at *;refine tZ 0 ?v0g ?hy0g ⟨g,J,U⟩ ?rest0g
 case hy0g=>(intro w' d;obtain⟨u,j,m⟩:=d;go_simp;(try with_reducible rfl))
 (try simp only[lAy])
 refine tZ 1 ?v1g ?hy1g ⟨g,J,U⟩ ?rest1g
 case hy1g=>(intro w' d;obtain⟨u,j,m⟩:=d;go_simp;(try with_reducible rfl))
 (try simp only[lAy])
 refine tZ 2 ?v2g ?hy2g ⟨g,J,U⟩ ?rest2g
 case hy2g=>(intro w' d;obtain⟨u,j,m⟩:=d;go_simp;(try with_reducible rfl))
 (try simp only[lAy])
 refine tZ 3 ?v3g ?hy3g ⟨g,J,U⟩ ?rest3g
 case hy3g=>(intro w' d;obtain⟨u,j,m⟩:=d;go_simp;(try with_reducible rfl))
 (try simp only[lAy])
 refine tZ 4 ?v4g ?hy4g ⟨g,J,U⟩ ?rest4g
 case hy4g=>(intro w' d;obtain⟨u,j,m⟩:=d;go_simp;(try with_reducible rfl))
 (try simp only[lAy])
 refine tZ 5 ?v5g ?hy5g ⟨g,J,U⟩ ?rest5g
 case hy5g=>(intro w' d;obtain⟨u,j,m⟩:=d;go_simp;(try with_reducible rfl))
 (try simp only[lAy])
 refine tZ 6 ?v6g ?hy6g ⟨g,J,U⟩ ?rest6g
 case hy6g=>(intro w' d;obtain⟨u,j,m⟩:=d;go_simp;(try with_reducible rfl))
 (try simp only[lAy])
 refine tZ 7 ?v7g ?hy7g ⟨g,J,U⟩ ?rest7g
 case hy7g=>(intro w' d;obtain⟨u,j,m⟩:=d;go_simp;(try with_reducible rfl))
 (try simp only[lAy])
 refine tZ 8 ?v8g ?hy8g ⟨g,J,U⟩ ?rest8g
 case hy8g=>(intro w' d;obtain⟨u,j,m⟩:=d;go_simp;(try with_reducible rfl))
 (try simp only[lAy])
 refine tZ 9 ?v9g ?hy9g ⟨g,J,U⟩ ?rest9g
 case hy9g=>(intro w' d;obtain⟨u,j,m⟩:=d;go_simp;(try with_reducible rfl))
 (try simp only[lAy])
 refine zI (i:=10) rfl (by kernel_rfl) rfl (fun K hK=>?_)
 refine vJ (f:=170) (args:=#[.pointer (some ⟨Bk,0,none⟩),.int .i64 0,.slice (some ⟨G,0,none⟩) t.length t.length]) (by go_simp;(try with_reducible rfl)) (fun _ h=>by cases h) (fun _=>trivial) (fun h=>(by cases h)) ?_
 refine(callsIn_wide.2 (HON.o W6 g J)).mono ?_;rintro e w7 ⟨rfl,hb7⟩;refine⟨_,rfl,?_⟩;have O:=hId (HTD.o.on hb7);have N:=hId (HRD.o.below hb7 HRD.o.lt);obtain⟨GA7,gc7,he7,hA7⟩:=O.o.rd HF.o
 obtain⟨rfl,rfl⟩:GA=GA7/\gc=gc7:=by simpa using he7
 have s7:=(kY O.o.obj).2.2.2.1;have r7:zU w7 G t:=N.o;refine hK.out _ _ (.inr ⟨hA7,r7,s7⟩) ?_;clear hK K he7
 (try simp only[lAy])
 refine xT (i:=11) (v:=.int .i64 (yH f nx ov)) rfl (by kernel_rfl) (by kernel_rfl) (by kernel_rfl) (by kernel_rfl) (by kernel_rfl) (by kernel_rfl) (fun _ _ _ h=>h) (qW (f:=143) (args:=#[.pointer (some ⟨Bk,0,none⟩),.int .i64 (nx:Int),.int .i64 (ov:Int)]) (fun _ _ _ _=>trivial) (by rfl) ?hx11g (fun h=>(by cases h)) ?hc11g) ⟨hA7,r7,s7⟩ ?rest11g
 case hx11g=>(intro w';go_simp;(try with_reducible rfl))
 case hc11g=>(intro w' d;exact(callsIn_wide.2 (nS f HF.o nx ov hnx16 hn5 Bk M FA GA fc gc w' d.1)).mono (fun e w'' h=>⟨h.1,h.2⟩))
 (try simp only[lAy])
 refine tZ 12 ?v12g ?hy12g ⟨hA7,r7,s7⟩ ?rest12g
 case hy12g=>(intro w' d;obtain⟨u,j,m⟩:=d;go_simp;(try with_reducible rfl))
 (try simp only[lAy])
 obtain⟨T8,cc8,he8,hlc8,hcm8,T3,c3,w8,hrun,q8,f8,hgr,hT8,hR8⟩:=O.o.app ⟨0,(c:Int),yH f nx ov⟩ hll;obtain⟨rfl,rfl⟩:sA=T8/\sc=cc8:=by simpa using he8
 have hal:Below w7 w7 (w7.alloc (.cells #[(0:Int),(c:Int),(yH f nx ov)] 80)):=bLa
 have HTA:=hId (O.o.on hal);obtain⟨GA9,gc9,he9,hA9⟩:=HTA.o.rd HF.o;obtain⟨rfl,rfl⟩:GA=GA9/\gc=gc9:=by simpa using he9
 have s9:=(kY HTA.o.obj).2.2.2.1;have r9:=N.o.below hal N.o.lt;obtain⟨hA8,hRR⟩:=O.o.mid HF.o hal hgr;have r8:=hRR G t N.o;have HRUN:=hId hrun;have HT8:=hId hT8;have HR8:=hId (hR8.brow (O.o.brow_ne N.o) N.o)
 have HK8:=hId (HKS.o.trans ((kF.of_below hdw).trans ((kF.of_below hb7).trans hR8)));clear he8 he9 hrun hgr hT8 hR8 hRR hal;refine zI (i:=13) rfl (by kernel_rfl) rfl (fun K hK=>?_)
 go_simp
 refine hK.out _ _ (.inr ⟨hA9,r9,s9⟩) ?_;clear hK K
 (try simp only[lAy])
 refine zI (i:=14) rfl (by kernel_rfl) rfl (fun K hK=>?_)
 refine pF (.tmp 58) (.tmp 67) _ _ rfl (.slice sA ls.length sc) (.slice (some ⟨w7,0,none⟩) 1 1) (.slice T3 (ls.length+1) c3) (by go_simp) (by go_simp) HRUN.o ?_
 refine hK.out _ _ (.inr ⟨hA8,r8,q8⟩) ?_;clear hK K
 (try simp only[lAy])
 refine tZ 15 ?v15g ?hy15g ⟨hA8,r8,q8⟩ ?rest15g
 case hy15g=>(intro w' d;obtain⟨u,j,m⟩:=d;go_simp;(try with_reducible rfl))
 (try simp only[lAy])
 refine tZ 16 ?v16g ?hy16g ⟨hA8,r8,q8⟩ ?rest16g
 case hy16g=>(intro w' d;obtain⟨u,j,m⟩:=d;go_simp;(try with_reducible rfl))
 (try simp only[lAy])
 refine zI (i:=17) rfl (by kernel_rfl) rfl (fun K hK=>?_)
 go_simp
 refine hK.out _ _ (.inl rfl) ?_;clear hK K;refine xL (by kernel_rfl) (xB ?_) _
 have HP:Hid (∃ sv' p',jF f (zV f c nx) p'/\TbW w0 Bk M f FA fc (.slice GA (qL f).length gc) sv' (es++nD f c nx p') (w8.setCell ⟨Bk,3,none⟩ (.slice T3 (ls.length+1) c3))/\kF Bk w (w8.setCell ⟨Bk,3,none⟩ (.slice T3 (ls.length+1) c3))):=⟨_,p,by rw[HTT.o];exact HKI.o,by rw[HLS.o];exact HT8.o,HK8.o⟩
 clear hA8 r8 q8 f8 hA9 r9 s9 hA7 r7 s7 g J U
 gi_wp2
 go_end0
 exact⟨rfl,HP.o⟩
end
section
open Go Go.RowKit Go.Maps
theorem dB:∀(D:List (Int×Int)) (m:DataW Unit),Tidy m->(D.map Prod.fst).Nodup->(∀ p∈D,has m p.1=false)->Maps.size (D.foldl (fun m p=>m.put p.1 (itL p.2)) m)=Maps.size m+D.length
 |[],_,_,_,_=>rfl
 |p::D,m,hm,hn,hh=>by
  rw[List.map_cons,List.nodup_cons] at hn
  rw[List.foldl_cons,dB D _ (hm.put (show WideAt.IsKeyLit p.1 from trivial) _) hn.2 (fun q d=>by
   rw[has_put_other (fun e=>hn.1 (by
    have g:q.1=p.1:=by simpa using e
    rw[<-g];exact List.mem_map_of_mem d))]
   exact hh q (List.mem_cons_of_mem _ d)),size_put hm,hh p (List.mem_cons_self ..)]
  simp
  omega
theorem zH5 {f:List Nd}:Maps.size (itD (atD f f.length))=tn f:=by
 have h:=dB (atD f f.length) (.map []) tidy_empty (dO _ _) (fun p _=>rfl)
 rw[show Maps.size (.map []:DataW Unit)=0 from rfl,Nat.zero_add,aN f f.length nLe] at h;exact h
def kA (f:List Nd) (k:Nat):List Bool:=(List.range (2^tn f*((zK f).length+1)+1)).map fun i=>decide (i≠0/\(i-1)%((zK f).length+1)=(zK f).length/\(i-1)/((zK f).length+1)<k)
theorem iG (f:List Nd) (k:Nat):(kA f k).length=2^tn f*((zK f).length+1)+1:=by simp[kA]
theorem zE5 (f:List Nd):kA f 0=List.replicate (2^tn f*((zK f).length+1)+1) false:=by
 unfold kA
 apply List.ext_getElem
 ·simp
 intro i d e
 simp
theorem zG1 (f:List Nd):kA f (2^tn f)=mC f:=by
 unfold kA mC
 apply List.map_congr_left
 intro i e;have e:=List.mem_range.1 e
 have:i≠0->(i-1)/((zK f).length+1)<2^tn f:=fun d=>by
  rw[Nat.div_lt_iff_lt_mul (by omega)]
  omega
 by_cases d:i=0<;>simp[d]
 intro _;exact this d
theorem zFl (f:List Nd) {k:Nat} (s:k<2^tn f):(kA f k).set (1+k*((zK f).length+1)+(zK f).length) true=kA f (k+1):=by
 unfold kA;generalize (zK f).length=n
 apply List.ext_getElem
 ·simp
 intro i m h;rw[List.getElem_set];simp only[List.length_map,List.length_range] at h;simp only[List.getElem_map,List.getElem_range]
 split
 ·rename_i he
  have j:i-1=k*(n+1)+n:=by omega
  have d:(k*(n+1)+n)%(n+1)=n:=by rw[Nat.add_comm,Nat.add_mul_mod_self_right,Nat.mod_eq_of_lt (by omega)]
  have e:(k*(n+1)+n)/(n+1)=k:=by rw[Nat.add_comm,Nat.add_mul_div_right _ _ (by omega),Nat.div_eq_of_lt (by omega)];omega
  rw[j,d,e]
  simp
  omega
 rename_i he
 by_cases h0:i=0
 ·simp[h0]
 by_cases d:(i-1)%(n+1)=n
 ·have g:=Nat.div_add_mod (i-1) (n+1)
  have:(i-1)/(n+1)≠k:=fun e=>by
   rw[e,d,Nat.mul_comm] at g;omega
  simp[h0,d]
  omega
 simp[h0,d]
structure EdM (f:List Nd) (c j:Nat) (es:List Stp):Prop where
 mem:∀s,s∈es↔∃c' nx p,(c'<c\/c'=c/\nx<j)/\nx<2^tn f/\jF f (zV f c' nx) p/\s∈nD f c' nx p
 len:es.length<=(c*16+j)*6
theorem EdM.start (f:List Nd):EdM f 0 0 []:=⟨fun s=>⟨fun h=>(by cases h),fun⟨d,nx,p,h,_⟩=>(by omega)⟩,by simp⟩
theorem zFp {f:List Nd} (d:vF f) (c nx p:Nat):(nD f c nx p).length<=6:=by
 unfold nD ed0;rw[List.length_append,zBB];have:=gY d
 split
 ·simp;omega
 simp;omega
theorem EdM.add {f:List Nd} (J:vF f) {c j p:Nat} {es:List Stp} (h:EdM f c j es) (K:j<2^tn f) (u:jF f (zV f c j) p):EdM f c (j+1) (es++nD f c j p):=by
 refine⟨fun s=>?_,?_⟩
 ·rw[List.mem_append,h.mem]
  constructor
  ·rintro(⟨d,nx,i,h1,e⟩|h1)
   ·exact⟨d,nx,i,by omega,e⟩
   exact⟨c,j,p,by omega,K,u,h1⟩
  rintro⟨d,nx,i,h1,e,m,g⟩
  by_cases he:d=c/\nx=j
  ·obtain⟨rfl,rfl⟩:=he
   rw[zBW m u] at g;exact .inr g
  exact .inl ⟨d,nx,i,by omega,e,m,g⟩
 rw[List.length_append];have:=zFp J c j p;have:=h.len;omega
theorem EdM.next {f:List Nd} (m:vF f) {c:Nat} {es:List Stp} (h:EdM f c (2^tn f) es):EdM f (c+1) 0 es:=by
 refine⟨fun s=>?_,?_⟩
 ·rw[h.mem]
  constructor
  ·rintro⟨d,nx,g,i,e⟩
   exact⟨d,nx,g,by omega,e⟩
  rintro⟨d,nx,g,i,e,j⟩;exact⟨d,nx,g,by omega,e,j⟩
 have:=h.len;have:2^tn f<=16:=Nat.pow_le_pow_right (n:=2) (by decide) (gY m).1
 omega
theorem EdM.raw {f:List Nd} {es:List Stp} (h:EdM f 8 0 es):zDU f es:=fun s=>by
 rw[h.mem]
 constructor
 ·rintro⟨c,nx,p,j,e,g,d⟩
  refine⟨c,nx,p,by omega,e,g,?_⟩
  unfold nD at d
  rcases List.mem_append.1 d with h5|h5
  ·unfold edW at h5
   obtain⟨v,i,rfl⟩:=List.mem_map.1 h5;exact .inl ⟨v,by have:=List.mem_range.1 i;omega,rfl⟩
  unfold ed0 at h5
  split at h5
  ·exact .inr ⟨by assumption,List.mem_singleton.1 h5⟩
  cases h5
 rintro⟨c,nx,p,j,e,g,d⟩;refine⟨c,nx,p,by omega,e,g,?_⟩
 unfold nD
 rcases d with⟨v,i,rfl⟩|⟨ht,rfl⟩
 ·exact List.mem_append_left _ (List.mem_map.2 ⟨v,List.mem_range.2 (by omega),rfl⟩)
 refine List.mem_append_right _ ?_;unfold ed0;rw[if_pos ht];exact List.mem_singleton.2 rfl
end
section
open Go Go.RowKit Go.Maps Go.Shelf Go.Sort
attribute [local go_sem] Oper.semAt_some
structure BuA (lo Y FZ GR:Nat) (st:Int) (gs:List Bool) (W:World):Prop where
 lY:lo<=Y
 lF:lo<=FZ
 lG:lo<=GR
 obj:W.heap[Y]?=some (.cells #[st,(8:Int),.slice (some ⟨FZ,0,none⟩) 1 1,.slice (some ⟨GR,0,none⟩) gs.length gs.length,()] 31 (0,0))
 fz:W.heap[FZ]?=some (.cells #[(0:Int)] 3 (0,0))
 row:zU W GR gs
section
variable {lo Y FZ GR Bk:Nat} {st:Int} {gs:List Bool} {W W':World}
theorem BuA.on (h:BuA lo Y FZ GR st gs W) (d:Below W W W'):BuA lo Y FZ GR st gs W':=
 ⟨h.lY,h.lF,h.lG,(d.block Y (gLt h.obj)).trans h.obj,(d.block FZ (gLt h.fz)).trans h.fz,h.row.below d h.row.lt⟩
theorem BuA.keep (h:BuA lo Y FZ GR st gs W) (d:kF Bk W W') (g:Y≠Bk) (i:FZ≠Bk) (j:GR≠Bk):BuA lo Y FZ GR st gs W':=
 ⟨h.lY,h.lF,h.lG,d Y _ h.obj g (fun cs m e=>by injection e with _ e2 _;exact absurd e2 (by decide)),d FZ _ h.fz i (fun cs m e=>by injection e with _ e2 _;exact absurd e2 (by decide)),d.brow j h.row⟩
theorem BuA.set (h:BuA lo Y FZ GR st gs W) (i:Nat) (v:Bool):BuA lo Y FZ GR st (gs.set i v) (W.setCell ⟨GR,i,none⟩ (.bool v)):=by
 have d:W.heap[GR]?=_:=h.row
 have j:Y≠GR:=fun e=>by have:=h.obj;rw[e,d] at this;simp at this
 have g:FZ≠GR:=fun e=>by have:=h.fz;rw[e,d] at this;simp at this
 refine⟨h.lY,h.lF,h.lG,?_,(Below.heap_setCell _ ⟨GR,i,none⟩ _ _ g).trans h.fz,h.row.set_ i v⟩;rw[List.length_set];exact(Below.heap_setCell _ ⟨GR,i,none⟩ _ _ j).trans h.obj
end
section
variable {w0 W W':World} {Bk M:Nat} {f:List Nd} {FA:Option Addr} {fc:Nat} {gv sv:Value} {es:List Stp}
theorem TbW.setRow {G:Nat} {t:List Bool} (h:TbW w0 Bk M f FA fc gv sv es W) (d:zU W G t) (u:w0.heap.size<=G) (i:Nat) (v:Value):TbW w0 Bk M f FA fc gv sv es (W.setCell ⟨G,i,none⟩ v):=by
 refine⟨h.lo,(Below.heap_setCell _ ⟨G,i,none⟩ _ _ (fun e=>h.brow_ne d e.symm)).trans h.obj,h.nd,h.below.setCell (p:=⟨G,i,none⟩) u _,h.at_.heap (Below.heap_setCell _ ⟨G,i,none⟩ _ _ fun e=>?_),yM h.fr d (by decide) i v,yM h.s d (by decide) i v⟩
 obtain⟨j,c,g,_⟩:=h.at_;have m:W.heap[G]?=_:=d;rw[show M=G from e,m] at g;cases g
theorem TbW.setObj {Y:Nat} {cs:Array Value} (h:TbW w0 Bk M f FA fc gv sv es W) (d:W.heap[Y]?=some (.cells cs 31 (0,0))) (m:w0.heap.size<=Y) (i:Nat) (v:Value):TbW w0 Bk M f FA fc gv sv es (W.setCell ⟨Y,i,none⟩ v):=by
 refine⟨h.lo,(Below.heap_setCell _ ⟨Y,i,none⟩ _ _ (fun e=>?_)).trans h.obj,h.nd,h.below.setCell (p:=⟨Y,i,none⟩) m _,h.at_.heap (Below.heap_setCell _ ⟨Y,i,none⟩ _ _ fun e=>?_),yM h.fr d (by decide) i v,yM h.s d (by decide) i v⟩
 ·have:=h.obj
  rw[e,d] at this
  simp at this
 obtain⟨j,c,g,_⟩:=h.at_;rw[show M=Y from e,d] at g;cases g
end
theorem zG6 {W W':World} {B n sz:Nat} {e:TypeId} {v:Value} {xs:List Value} (h:W.ownsRow B e sz v n xs) (j:∀k,v.ownBlock=some k->W'.heap[k]?=W.heap[k]?):W'.ownsRow B e sz v n xs:=by
 obtain⟨i,d⟩:=h;refine⟨i,?_⟩
 rcases d with d|⟨g,cap,cur,hv,hg,hh,r⟩
 ·exact .inl d
 exact .inr ⟨g,cap,cur,hv,hg,(j g (by rw[hv];rfl)).trans hh,r⟩
theorem zGT (w:World) (V:Nat) (e g h i j:Value) {k:Nat} (d:k≠V):(set5 w V e g h i j).heap[k]?=w.heap[k]?:=by
 unfold set5;rw[Below.heap_setCell _ ⟨V,4,none⟩ _ _ d,Below.heap_setCell _ ⟨V,3,none⟩ _ _ d,Below.heap_setCell _ ⟨V,2,none⟩ _ _ d,Below.heap_setCell _ ⟨V,1,none⟩ _ _ d,Below.heap_setCell _ ⟨V,0,none⟩ _ _ d]
theorem zFv {W:World} {B lo:Nat} {x:Int} (h:W.heap[B]?=some (.cells #[x] 3 (0,0))) (g:lo<=B):zE W lo (some ⟨B,0,none⟩) 1 [x]:=by
 refine⟨nLe,by omega,by simp,fun _=>⟨B,0,rfl,g,(gLt h),fun j u d=>?_⟩,fun _ b off e j _=>by injection e with e;injection e with e1 e2;subst e1;simp[World.frozen?,h]⟩
 match j,d with
 |0,d=>simp at d;subst d;simp[World.cell?,h]
 |j+1,d=>simp at d
theorem zHo {n:Nat} (h:n<=4):wrap64 (2^n)=((2^n:Nat):Int):=by
 have:∀n:Fin 5,wrap64 (2^(n:Nat))=((2^(n:Nat):Nat):Int):=by decide +kernel
 exact this ⟨n,by omega⟩
theorem zJA (f:List Nd) (hf:vF f) (w0:World) (Bk M:Nat) (FA:Option Addr) (fc:Nat) (gv:Value) (w:World) (hT:TbW w0 Bk M f FA fc gv () [] w):
  Calls Tryz.prog 112 #[(⟨Bk,0,none⟩:Addr)] w fun e w'=>∃raw A B C ca cb cc,EdM f 8 0 raw/\e=.returned (.agg #[.int .i64 (yH f (2^tn f) 0),(8:Int),.slice A 1 ca,.slice B (mC f).length cb,.slice C (dd (zR raw)).length cc])/\zM w' w0.heap.size (pQ f (dd (zR raw))) A B C ca cb cc/\Below w0 w0 w':=by
 have HF:=hId hf;have hn4:=(gY hf).1;have hfn:=(gY hf).2;obtain⟨P,hP⟩:∃P,P=2^tn f:=⟨_,rfl⟩;have hP16:P<=16:=by rw[hP];exact Nat.pow_le_pow_right (n:=2) (by decide) hn4
 have hpw:=zHo hn4;rw[<-hP] at hpw;have HPP:=hId hP;obtain⟨GA,gc,rfl,_⟩:=hT.rd hf;have hz:Below w w (w.alloc (.cells #[(0:Int),(0:Int),(),(),()] 31)):=bLa
 have HT1:=hId (hT.on hz)
 have HZ1:Hid ((w.alloc (.cells #[(0:Int),(0:Int),(),(),()] 31)).heap[w.heap.size]?=some (.cells #[(0:Int),(0:Int),(),(),()] 31 (0,0))):=World.alloc_heap_new _ _
 have HLW:Hid (w0.heap.size<=w.heap.size/\Bk<w.heap.size):=⟨hT.below.size,hT.lt⟩
 clear hT hf hP hz;refine(callsIn_wide (n:=9)).1 ?_;refine callsIn_of_wp Tryz.func112 rfl trivial ?_
 simp only[Tryz.ntmps112,List.size_toArray,List.length_cons,List.length_nil,Nat.reduceAdd,Nat.reduceSub,Array.replicate_succ,Array.replicate_zero,List.push_toArray,List.append_toArray,List.nil_append,List.cons_append]
 gi_upto_region 1 with fail
 obtain⟨u,hR2⟩:∃u,u=w.heap.size:=⟨_,rfl⟩;rw[<-hR2] at HZ1 HLW ⊢;clear hR2;generalize w.alloc (.cells #[(0:Int),(0:Int),(),(),()] 31)=W1 at *
 have hlen:=World.ownsMap.len (show W1.ownsMap Tryz.prog 3 (plainElem (H:=Unit) Tryz.prog 3) M (atD f f.length).length (itD (atD f f.length)) from HT1.o.at_) Tryz.underlying165;rw[zH5] at hlen
 obtain⟨GA1,gc1,he1,hA1⟩:=HT1.o.rd HF.o;obtain⟨rfl,rfl⟩:GA=GA1/\gc=gc1:=by simpa using he1
 have HNM:=hId (nS f HF.o P 0 hP16 (by omega) Bk M FA GA fc gc W1 hA1)
 have c1:=hA1.c1;clear he1 hA1
 gi_wp2
 refine⟨trivial,?_⟩;refine(callsIn_wide.2 HNM.o).mono ?_;rintro e w2 ⟨rfl,rfl⟩;clear hlen c1 HNM
 gi_upto_region 3 with fail
 obtain⟨FZ,hFZ⟩:∃FZ,FZ=w2.heap.size:=⟨_,rfl⟩;obtain⟨Y,hY⟩:∃Y,Y=w2.heap.size+1:=⟨_,rfl⟩
 have hb3:Below w2 w2 ((w2.alloc (.cells #[(0:Int)] 3)).alloc (.cells #[(yH f P 0),(8:Int),.slice (some ⟨w2,0,none⟩) 1 1,(),()] 31)):=(bLa).alloc (by simp) _
 have HT3:=hId (HT1.o.on hb3)
 have HO3:Hid (((w2.alloc (.cells #[(0:Int)] 3)).alloc (.cells #[(yH f P 0),(8:Int),.slice (some ⟨w2,0,none⟩) 1 1,(),()] 31)).heap[Y]?=some (.cells #[(yH f P 0),(8:Int),.slice (some ⟨w2,0,none⟩) 1 1,(),()] 31 (0,0))):=by
  have:=World.alloc_heap_new (w2.alloc (.cells #[(0:Int)] 3)) (.cells #[(yH f P 0),(8:Int),.slice (some ⟨w2,0,none⟩) 1 1,(),()] 31);rw[World.size_alloc,<-hY] at this
  exact this
 have HF3:Hid (((w2.alloc (.cells #[(0:Int)] 3)).alloc (.cells #[(yH f P 0),(8:Int),.slice (some ⟨w2,0,none⟩) 1 1,(),()] 31)).heap[FZ]?=some (.cells #[(0:Int)] 3 (0,0))):=by
  show _=_;rw[hFZ,Below.heap_alloc _ _ _ (by simp)]
  exact World.alloc_heap_new _ _
 have HZ3:Hid (((w2.alloc (.cells #[(0:Int)] 3)).alloc (.cells #[(yH f P 0),(8:Int),.slice (some ⟨w2,0,none⟩) 1 1,(),()] 31)).heap[u]?=_):=(hb3.block u (gLt HZ1.o)).trans HZ1.o
 have U:Hid (w0.heap.size<=FZ/\w0.heap.size<=Y/\Bk<FZ/\Bk<Y/\u<FZ/\FZ<Y/\Y<((w2.alloc (.cells #[(0:Int)] 3)).alloc (.cells #[(yH f P 0),(8:Int),.slice (some ⟨w2,0,none⟩) 1 1,(),()] 31)).heap.size):=by
  have h1:=HT1.o.below.size;have h2:=HT1.o.lt;have h3:=(gLt HZ1.o);have h4:=(gLt HO3.o);exact⟨by omega,by omega,by omega,by omega,by omega,by omega,h4⟩
 rw[<-hFZ,<-hY] at *;clear hFZ hY hb3 HT1 HZ1;generalize (w2.alloc (.cells #[(0:Int)] 3)).alloc (.cells #[(yH f P 0),(8:Int),.slice (some ⟨FZ,0,none⟩) 1 1,(),()] 31)=W3 at *
 obtain⟨N,hN⟩:∃N:Nat,N=P*((zK f).length+1)+1:=⟨_,rfl⟩
 have hst:((N:Nat):Int)=yH f P 0:=by
  rw[hN];unfold yH;rw[Int.natCast_add,Int.natCast_mul,Int.natCast_add];simp only[Int.natCast_one];omega
 have hN6:N<=1000000:=by
  rw[hN];have:P*((zK f).length+1)<=16*5:=Nat.mul_le_mul hP16 (by omega)
  omega
 have hmk:=jV (yH f P 0) N hst hN6 W3;obtain⟨GR,hGR⟩:∃GR,GR=W3.heap.size:=⟨_,rfl⟩;have hb4:Below W3 W3 (W3.alloc (.cells (madeCells #[Value.bool false] N) 4)):=bLa;have hrow:=zU.new W3 N;rw[<-hGR] at hrow
 have ho4:=(hb4.block Y U.o.2.2.2.2.2.2).trans HO3.o;obtain⟨a0,a1,a2,a3,a4,z0,z1,z2,z3,z4⟩:=zZ ho4;obtain⟨b0,_⟩:=zZ HO3.o
 have HG0:Hid (List.replicate N false=kA f 0/\(kA f 0).length=N):=by
  rw[iG,zE5,<-HPP.o,<-hN];exact⟨rfl,rfl⟩
 have HB4:Hid (BuA w0.heap.size Y FZ GR (yH f P 0) (kA f 0) ((W3.alloc (.cells (madeCells #[Value.bool false] N) 4)).setCell ⟨Y,3,none⟩ (.slice (some ⟨GR,0,none⟩) N N))):=by
  have hYG:GR≠Y:=by have:=U.o;omega
  refine⟨U.o.2.1,U.o.1,by have:=U.o;omega,?_,?_,?_⟩
  ·rw[HG0.o.2]
   simp[World.setCell,Array.getElem?_modify,ho4]
  ·exact(Below.heap_setCell _ ⟨Y,3,none⟩ _ _ (show FZ≠Y by have:=U.o;omega)).trans ((hb4.block FZ (by have:=U.o;omega)).trans HF3.o)
  rw[<-HG0.o.1];exact(Below.heap_setCell _ ⟨Y,3,none⟩ _ _ hYG).trans hrow
 have HT4:Hid (TbW w0 Bk M f FA fc (.slice GA (qL f).length gc) () [] ((W3.alloc (.cells (madeCells #[Value.bool false] N) 4)).setCell ⟨Y,3,none⟩ (.slice (some ⟨GR,0,none⟩) N N))):=(HT3.o.on hb4).setObj ho4 U.o.2.1 3 _
 have HZ4:Hid (((W3.alloc (.cells (madeCells #[Value.bool false] N) 4)).setCell ⟨Y,3,none⟩ (.slice (some ⟨GR,0,none⟩) N N)).heap[u]?=some (.cells #[(0:Int),(0:Int),(),(),()] 31 (0,0))):=(Below.heap_setCell _ ⟨Y,3,none⟩ _ _ (show u≠Y by have:=U.o;omega)).trans ((hb4.block u (by have:=U.o;omega)).trans HZ3.o)
 have g:Hid (u≠Y/\u≠FZ/\u≠GR/\GR≠Bk/\Y≠Bk/\FZ≠Bk/\u≠Bk/\w0.heap.size<=u):=by have:=U.o;have:=HLW.o;exact⟨by omega,by omega,by omega,by omega,by omega,by omega,by omega,by omega⟩
 have HNN:=hId hN;rw[<-hGR] at hmk;clear hb4 hrow ho4 hN hst HO3 HF3 HZ3 HT3 hGR
 gi_upto_region 4 with fail
 clear a0 a1 a2 a3 a4 z0 z1 z2 z3 z4 b0 hmk;generalize (W3.alloc (.cells (madeCells #[Value.bool false] N) 4)).setCell ⟨Y,3,none⟩ (.slice (some ⟨GR,0,none⟩) N N)=W4 at *
 gi_wp2
 gi_loopw [5,24] (fun _ v24 wr=>∃k:Nat,k<=P/\v24=(k:Int)/\Hid (BuA w0.heap.size Y FZ GR (yH f P 0) (kA f k) wr)/\Hid (TbW w0 Bk M f FA fc (.slice GA (qL f).length gc) () [] wr)/\Hid (wr.heap[u]?=some (.cells #[(0:Int),(0:Int),(),(),()] 31 (0,0)))) (fun _ v24 _=>P-(intOf v24).toNat)
 case atStart=>exact⟨0,Nat.zero_le _,rfl,HB4.o,HT4.o,HZ4.o⟩
 obtain⟨k,hk,rfl,HB,HT,HZ⟩:=hrel
 by_cases hkP:k<P
 ·have q1:(k:Int)<(P:Int):=by omega
  gi_wp2
  have hdw:Below wr wr wr.drew:=bRf.drew
  have HBD:=hId (HB.o.on hdw);have HTD:=hId (HT.o.on hdw);have HZD:Hid (wr.drew.heap[u]?=_):=HZ.o;have HKP:=hId hkP;obtain⟨GA2,gc2,he2,O⟩:=HTD.o.rd HF.o;obtain⟨rfl,rfl⟩:GA=GA2/\gc=gc2:=by simpa using he2
  obtain⟨_,_,_,s6,_⟩:=zZ HBD.o.obj;have hk16:k<=16:=by omega
  obtain⟨ix,hix⟩:∃ix:Nat,ix=1+k*((zK f).length+1)+(zK f).length:=⟨_,rfl⟩
  have hti:yH f k (zK f).length=(ix:Int):=by
   rw[hix];unfold yH;rw[Int.natCast_add,Int.natCast_add,Int.natCast_mul,Int.natCast_add];simp only[Int.natCast_one]
  have hgl:=iG f k
  have hixl:ix<(kA f k).length:=by
   rw[hgl,hix,<-HPP.o];have:(k+1)*((zK f).length+1)<=P*((zK f).length+1):=Nat.mul_le_mul_right _ hkP;rw[Nat.succ_mul] at this;omega
  have HGS:Hid ((kA f k).set ix true=kA f (k+1)):=by
   show _=_;rw[hix];exact zFl f (by rw[<-HPP.o];exact hkP)
  obtain⟨g0,g1⟩:=HBD.o.row.getD_ (i:=ix) hixl false;have hixl2:(ix:Int)<((kA f k).length:Int):=by omega
  have hn5:(zK f).length<=5:=by omega
  clear he2 hix hgl hixl HB HT HZ;refine xK (fun w'=>mE w' Bk M f FA fc GA gc/\w'.cell? ⟨Y,3,none⟩=some (.slice (some ⟨GR,0,none⟩) (kA f k).length (kA f k).length)/\True) 11 (by kernel_rfl) ?_
  generalize wr.drew=W6 at *;refine tZ 0 ?v0h ?hy0h ⟨O,s6,trivial⟩ ?rest0h
  case hy0h=>(intro w' d;obtain⟨h0,h1,h2⟩:=d;have h3:=h0.c2;go_simp;(try with_reducible rfl))
  (try simp only[lAy])
  refine tZ 1 ?v1h ?hy1h ⟨O,s6,trivial⟩ ?rest1h
  case hy1h=>(intro w' d;obtain⟨h0,h1,h2⟩:=d;have h3:=h0.c2;go_simp;(try with_reducible rfl))
  (try simp only[lAy])
  refine tZ 2 ?v2h ?hy2h ⟨O,s6,trivial⟩ ?rest2h
  case hy2h=>(intro w' d;obtain⟨h0,h1,h2⟩:=d;have h3:=h0.c2;go_simp;(try with_reducible rfl))
  (try simp only[lAy])
  refine tZ 3 ?v3h ?hy3h ⟨O,s6,trivial⟩ ?rest3h
  case hy3h=>(intro w' d;obtain⟨h0,h1,h2⟩:=d;have h3:=h0.c2;go_simp;(try with_reducible rfl))
  (try simp only[lAy])
  refine tZ 4 ?v4h ?hy4h ⟨O,s6,trivial⟩ ?rest4h
  case hy4h=>(intro w' d;obtain⟨h0,h1,h2⟩:=d;have h3:=h0.c2;go_simp;(try with_reducible rfl))
  (try simp only[lAy])
  refine tZ 5 ?v5h ?hy5h ⟨O,s6,trivial⟩ ?rest5h
  case hy5h=>(intro w' d;obtain⟨h0,h1,h2⟩:=d;have h3:=h0.c2;go_simp;(try with_reducible rfl))
  (try simp only[lAy])
  refine tZ 6 ?v6h ?hy6h ⟨O,s6,trivial⟩ ?rest6h
  case hy6h=>(intro w' d;obtain⟨h0,h1,h2⟩:=d;have h3:=h0.c2;go_simp;(try with_reducible rfl))
  (try simp only[lAy])
  refine tZ 7 ?v7h ?hy7h ⟨O,s6,trivial⟩ ?rest7h
  case hy7h=>(intro w' d;obtain⟨h0,h1,h2⟩:=d;have h3:=h0.c2;go_simp;(try with_reducible rfl))
  (try simp only[lAy])
  rw[qU];refine zI (i:=8) rfl (by kernel_rfl) rfl (fun K hK=>?_)
  go_simp
  refine hK.out _ _ (.inr ⟨O,s6,trivial⟩) ?_;clear hK K
  (try simp only[lAy])
  refine xT (i:=9) (v:=.int .i64 (ix:Int)) rfl (by kernel_rfl) (by kernel_rfl) (by kernel_rfl) (by kernel_rfl) (by kernel_rfl) (by kernel_rfl) (fun _ _ _ h=>h) (qW (f:=143) (args:=#[.pointer (some ⟨Bk,0,none⟩),.int .i64 (k:Int),.int .i64 ((zK f).length:Int)]) (fun _ _ _ _=>trivial) (by rfl) ?hx9h (fun h=>(by cases h)) ?hc9h) ⟨O,s6,trivial⟩ ?rest9h
  case hx9h=>(intro w';go_simp;(try with_reducible rfl))
  case hc9h=>(intro w' d;exact(callsIn_wide.2 (hti▸nS f HF.o k (zK f).length hk16 hn5 Bk M FA GA fc gc w' d.1)).mono (fun e w'' h=>⟨h.1,h.2⟩))
  (try simp only[lAy])
  refine tZ 10 ?v10h ?hy10h ⟨O,s6,trivial⟩ ?rest10h
  case hy10h=>(intro w' d;obtain⟨h0,h1,h2⟩:=d;have h3:=h0.c2;go_simp;(try with_reducible rfl))
  (try simp only[lAy])
  refine zI (i:=11) rfl (by kernel_rfl) rfl (fun K hK=>?_)
  go_simp
  refine hK.out _ _ (.inl rfl) ?_;clear hK K;refine xL (by kernel_rfl) (xB ?_) _
  have HB9:=hId (HBD.o.set ix true);rw[HGS.o] at HB9;have HT9:=hId (HTD.o.setRow HBD.o.row HBD.o.lG ix (.bool true))
  have HZ9:Hid ((W6.setCell ⟨GR,ix,none⟩ (.bool true)).heap[u]?=_):=(Below.heap_setCell _ ⟨GR,ix,none⟩ _ _ g.o.2.2.1).trans HZD.o
  clear O s6 g0 g1
  gi_wp2
  go_roundw
  case rel=>exact⟨k+1,HKP.o,by go_num,HB9.o,HT9.o,HZ9.o⟩
  case measure=>simp[intOf];have:=HKP.o;omega
 have q1:¬(k:Int)<(P:Int):=by omega
 obtain rfl:k=P:=by omega
 clear q1 hk hkP
 gi_wp2
 gi_loopw [39] (fun v39 wr=>∃(c:Nat) (es:List Stp) (sv:Value),c<=8/\v39=(c:Int)/\Hid (EdM f c 0 es)/\Hid (BuA w0.heap.size Y FZ GR (yH f k 0) (kA f k) wr)/\Hid (TbW w0 Bk M f FA fc (.slice GA (qL f).length gc) sv es wr)/\Hid (wr.heap[u]?=some (.cells #[(0:Int),(0:Int),(),(),()] 31 (0,0)))) (fun v39 _=>8-(intOf v39).toNat)
 case atStart=>exact⟨0,[],_,by omega,rfl,EdM.start f,HB.o,HT.o,HZ.o⟩
 clear HB HT HZ;obtain⟨c,es,sv,hc,rfl,HE,HB,HT,HZ⟩:=hrel
 by_cases hc8:c<8
 ·have q1:(c:Int)<8:=by omega
  have HC8:=hId hc8
  gi_wp2
  gi_loopw [43] (fun v43 wr=>∃(j:Nat) (es:List Stp) (sv:Value),j<=k/\v43=(j:Int)/\Hid (EdM f c j es)/\Hid (BuA w0.heap.size Y FZ GR (yH f k 0) (kA f k) wr)/\Hid (TbW w0 Bk M f FA fc (.slice GA (qL f).length gc) sv es wr)/\Hid (wr.heap[u]?=some (.cells #[(0:Int),(0:Int),(),(),()] 31 (0,0)))) (fun v43 _=>k-(intOf v43).toNat)
  case atStart=>exact⟨0,es,sv,Nat.zero_le _,rfl,HE.o,HB.o,HT.o,HZ.o⟩
  clear HE HB HT HZ;obtain⟨j,es,sv,hj,rfl,HE,HB,HT,HZ⟩:=hrel
  by_cases hjk:j<k
  ·have q2:(j:Int)<(k:Int):=by omega
   have HJ:=hId hjk;have hjt:j<2^tn f:=by rw[<-HPP.o];exact hjk
   have HED:=hId (zKM f HF.o c j hc8 hjt w0 Bk M FA fc _ sv es (by have:=HE.o.len;omega) wr HT.o)
   gi_wp2
   refine⟨trivial,?_⟩;refine(callsIn_wide.2 HED.o).mono ?_;rintro e w5 ⟨rfl,sv',p,hkp,hT5,hK5⟩;have HE5:=hId (HE.o.add HF.o hjt hkp);have HB5:=hId (HB.o.keep hK5 g.o.2.2.2.2.1 g.o.2.2.2.2.2.1 g.o.2.2.2.1)
   have HT5:=hId hT5;have HZ5:=hId (hK5 u _ HZ.o g.o.2.2.2.2.2.2.1 (fun cs m e=>by injection e with _ e2 _;exact absurd e2 (by decide)))
   clear hkp hT5 hK5 hjt HED
   gi_wp2
   go_roundw
   case rel=>exact⟨j+1,_,sv',HJ.o,by go_num,HE5.o,HB5.o,HT5.o,HZ5.o⟩
   case measure=>simp[intOf];have:=HJ.o;omega
  have q2:¬(j:Int)<(k:Int):=by omega
  obtain rfl:j=k:=by omega
  have HE2:Hid (EdM f (c+1) 0 es):=by
   have:=HE.o;rw[HPP.o] at this;exact this.next HF.o
  gi_wp2
  go_roundw
  case rel=>exact⟨c+1,es,sv,HC8.o,by go_num,HE2.o,HB.o,HT.o,HZ.o⟩
  case measure=>simp[intOf];have:=HC8.o;omega
 have q1:¬(c:Int)<8:=by omega
 obtain rfl:c=8:=by omega
 clear hc hc8;obtain⟨_,_,_,b3,_⟩:=kY HT.o.obj;have hraw:es.length<=768:=by have:=HE.o.len;omega
 have HSC:=hId (zG7 wr w0.heap.size sv es HT.o.s (by omega))
 gi_wp2
 refine⟨trivial,?_⟩;refine(callsIn_wide.2 HSC.o).mono ?_;rintro e ws ⟨rfl,J,hgs⟩;have hks:kF Bk wr ws:=fun k o ho h1 h2=>(hgs.block k (gLt ho) (fun e=>eH HT.o.s ho h2 e.symm)).trans ho
 have hauto:∀(cs:Array Value) (cs':Array Value) (m:Nat×Nat),Obj.cells cs 31 (0,0)≠.cells cs' 80 m:=fun cs cs' m e=>by injection e with _ e2 _;exact absurd e2 (by decide)
 have HBs:=hId (HB.o.keep hks g.o.2.2.2.2.1 g.o.2.2.2.2.2.1 g.o.2.2.2.1);have HZs:=hId (hks u _ HZ.o g.o.2.2.2.2.2.2.1 (hauto _));have hobs:=(hgs.block Bk HT.o.lt (fun e=>wG HT.o.s HT.o.obj (by decide) e.symm)).trans HT.o.obj
 have HOs:=hId hobs;have HRs:=hId J;have HWs:=hId (HT.o.below.grown hgs (by have:=HT.o.below.size;omega) (fun k hk=>(HT.o.s.lt k hk).1))
 obtain⟨_,_,_,d3,_⟩:=kY hobs;have HCC:=hId (zAt ws w0.heap.size sv (zR es) HRs.o (by rw[kW];omega))
 clear J hgs hks hobs b3 HSC HB HZ HT
 gi_wp2
 refine⟨trivial,?_⟩;refine(callsIn_wide.2 HCC.o).mono ?_;rintro e wc ⟨vc,rfl,J,hgs,hvb⟩;have hks:kF Bk ws wc:=fun k o ho h1 h2=>(hgs.block k (gLt ho) (fun e=>eH HRs.o ho h2 e.symm)).trans ho
 have HBc:=hId (HBs.o.keep hks g.o.2.2.2.2.1 g.o.2.2.2.2.2.1 g.o.2.2.2.1);have HZc:=hId (hks u _ HZs.o g.o.2.2.2.2.2.2.1 (hauto _));have HWc:=hId (HWs.o.grown hgs (by have:=HWs.o.size;omega) (fun k hk=>(HRs.o.lt k hk).1))
 have hgl:(kA f k)=mC f:=by rw[HPP.o];exact zG1 f
 have hdl:(dd (zR es)).length<=768:=Nat.le_trans (sJ _ _) (by rw[kW];exact hraw)
 obtain⟨TC,cC,rfl,hss⟩:=SlE.of_own (enc:=Stp.cells) (bt:=24) J (by omega)
 have hY:=HBc.o.obj;obtain⟨-,-,-,-,y4,-,-,-,-,g4⟩:=zZ hY;have hY5:=wR hY (.slice TC (dd (zR es)).length cC);obtain⟨x0,x1,x2,x3,x4,-⟩:=zZ hY5
 have hR5:=(Below.heap_setCell wc ⟨Y,4,none⟩ (.slice TC (dd (zR es)).length cC) u g.o.1).trans HZc.o;obtain⟨r0,r1,r2,r3,r4,s0,s1,s2,s3,s4⟩:=zZ hR5
 have HFI:Hid (∃ raw A B C ca cb cc,EdM f 8 0 raw/\Ending.returned (.agg #[(yH f k 0),(8:Int),.slice (some ⟨FZ,0,none⟩) 1 1,.slice (some ⟨GR,0,none⟩) (kA f k).length (kA f k).length,.slice TC (dd (zR es)).length cC])=.returned (.agg #[.int .i64 (yH f (2^tn f) 0),(8:Int),.slice A 1 ca,.slice B (mC f).length cb,.slice C (dd (zR raw)).length cc])/\
   zM (set5 (wc.setCell ⟨Y,4,none⟩ (.slice TC (dd (zR es)).length cC)) u (.int .i64 (yH f k 0)) (.int .i64 8) (.slice (some ⟨FZ,0,none⟩) 1 1) (.slice (some ⟨GR,0,none⟩) (kA f k).length (kA f k).length) (.slice TC (dd (zR es)).length cC)) w0.heap.size (pQ f (dd (zR raw))) A B C ca cb cc/\
   Below w0 w0 (set5 (wc.setCell ⟨Y,4,none⟩ (.slice TC (dd (zR es)).length cC)) u (.int .i64 (yH f k 0)) (.int .i64 8) (.slice (some ⟨FZ,0,none⟩) 1 1) (.slice (some ⟨GR,0,none⟩) (kA f k).length (kA f k).length) (.slice TC (dd (zR es)).length cC))):=by
  have hfar:∀q,q≠Y->q≠u->(set5 (wc.setCell ⟨Y,4,none⟩ (.slice TC (dd (zR es)).length cC)) u (.int .i64 (yH f k 0)) (.int .i64 8) (.slice (some ⟨FZ,0,none⟩) 1 1) (.slice (some ⟨GR,0,none⟩) (kA f k).length (kA f k).length) (.slice TC (dd (zR es)).length cC)).heap[q]?=wc.heap[q]?:=fun q h1 h2=>(zGT _ _ _ _ _ _ _ h2).trans (Below.heap_setCell _ ⟨Y,4,none⟩ _ _ h1)
  have hFY:FZ≠Y:=fun e=>by have:=HBc.o.fz;rw[e,hY] at this;simp at this
  have hGY:GR≠Y:=fun e=>by
   have h1:wc.heap[GR]?=_:=HBc.o.row
   rw[e,hY] at h1
   simp at h1
  have hrow:zU (set5 (wc.setCell ⟨Y,4,none⟩ (.slice TC (dd (zR es)).length cC)) u (.int .i64 (yH f k 0)) (.int .i64 8) (.slice (some ⟨FZ,0,none⟩) 1 1) (.slice (some ⟨GR,0,none⟩) (kA f k).length (kA f k).length) (.slice TC (dd (zR es)).length cC)) GR (kA f k):=(hfar GR hGY (fun e=>g.o.2.2.1 e.symm)).trans HBc.o.row
  have hbs:=hrow.bools (by rw[iG,<-HPP.o,<-HNN.o];exact hN6)
  have hsr:(set5 (wc.setCell ⟨Y,4,none⟩ (.slice TC (dd (zR es)).length cC)) u (.int .i64 (yH f k 0)) (.int .i64 8) (.slice (some ⟨FZ,0,none⟩) 1 1) (.slice (some ⟨GR,0,none⟩) (kA f k).length (kA f k).length) (.slice TC (dd (zR es)).length cC)).ownsRow w0.heap.size 80 3 (.slice TC (dd (zR es)).length cC) (dd (zR es)).length ((dd (zR es)).flatMap Stp.cells):=
   zG6 J fun q hq=>hfar q (fun e=>wG J hY (by decide) (by rw[<-e];exact hq)) (fun e=>wG J HZc.o (by decide) (by rw[<-e];exact hq))
  obtain⟨TC',cC',he',hss'⟩:=SlE.of_own (enc:=Stp.cells) (bt:=24) hsr (by omega)
  obtain⟨rfl,rfl⟩:TC=TC'/\cC=cC':=by simpa using he'
  refine⟨es,some ⟨FZ,0,none⟩,some ⟨GR,0,none⟩,TC,1,_,cC,HE.o,by rw[HPP.o,<-HPP.o,hgl],⟨zFv ((hfar FZ hFY (fun e=>g.o.2.1 e.symm)).trans HBc.o.fz) HBc.o.lF,?_,hss'⟩,zS (HWc.o.setCell (p:=⟨Y,4,none⟩) HBc.o.lY _) g.o.2.2.2.2.2.2.2 _ _ _ _ _⟩
  show xG _ _ _ (mC f).length (mC f);rw[<-hgl];exact hbs.low HBc.o.lG
 have HO1:=hId (zW hR5 (.int .i64 (yH f k 0)) (.int .i64 8) (.slice (some ⟨FZ,0,none⟩) 1 1) (.slice (some ⟨GR,0,none⟩) (kA f k).length (kA f k).length) (.slice TC (dd (zR es)).length cC));unfold set5 at HFI HO1
 clear J hgs hvb hks hgl hdl hss hY hY5 hR5 d3 hraw HBs HZs HOs HRs HWs HCC
 gi_wp2
 exact bodyPost_ret (zEm Tryz.results112 _ _ u rfl HO1.o) rfl HFI.o
attribute [local go_sem] Oper.semAt_some
def mP (f:List Nd) (n:Nat):List Int:=(lH f n).map fun i:Nat=>(i:Int)
theorem zDx (f:List Nd) (n:Nat):mP f (n+1)=mP f n++if pC (f.getD n qG).k=true then[(n:Int)] else[]:=by
 unfold mP lH;rw[List.range_succ,List.filter_append,List.map_append]
 by_cases h:pC (f.getD n qG).k=true
 ·rw[if_pos h,List.filter_cons_of_pos (p:=fun i:Nat=>pC (f.getD i qG).k) h];rfl
 rw[if_neg h,List.filter_cons_of_neg (p:=fun i:Nat=>pC (f.getD i qG).k) h];rfl
theorem oS (f:List Nd) (n:Nat):(mP f n).length<=n:=by
 unfold mP lH;rw[List.length_map];exact Nat.le_trans (List.length_filter_le _ _) (by simp)
theorem zFN {f:List Nd} {n:Nat} (d:n<=f.length):Maps.size (itD (atD f n))=tix f n:=by
 have h:=dB (atD f n) (.map []) tidy_empty (dO _ _) (fun p _=>rfl)
 rw[show Maps.size (.map []:DataW Unit)=0 from rfl,Nat.zero_add,aN f n d] at h;exact h
structure TbL (w0:World) (Bk M:Nat) (f:List Nd) (FA:Option Addr) (fc:Nat) (D:List (Int×Int)) (L:List Int) (gv:Value) (W:World):Prop where
 lo:w0.heap.size<=Bk
 lM:w0.heap.size<=M
 obj:W.heap[Bk]?=some (.cells #[.slice FA f.length fc,.map (some M),gv,()] 167 (0,0))
 nd:Nds w0 0 FA fc f
 below:Below w0 w0 W
 at_:AtI W M D
 fr:W.ownsRow w0.heap.size 3 1 gv L.length (L.flatMap viL)
section
variable {w0 W W':World} {Bk M:Nat} {f:List Nd} {FA:Option Addr} {fc:Nat} {gv:Value} {D:List (Int×Int)} {L:List Int}
theorem TbL.lt (h:TbL w0 Bk M f FA fc D L gv W):Bk<W.heap.size:=(gLt h.obj)
theorem TbL.on (h:TbL w0 Bk M f FA fc D L gv W) (d:Below W W W'):TbL w0 Bk M f FA fc D L gv W':=
 ⟨h.lo,h.lM,(d.block _ h.lt).trans h.obj,h.nd,zA h.below d h.below.size,h.at_.on d,zD h.fr d⟩
theorem TbL.put {D':List (Int×Int)} (h:TbL w0 Bk M f FA fc D L gv W) (m:AtI W' M D') (g:W.grownBy W' (some M)):TbL w0 Bk M f FA fc D' L gv W':=by
 have d:Bk≠M:=fun e=>by
  obtain⟨i,c,j,_⟩:=h.at_;have:=h.obj;rw[e,j] at this;cases this
 exact⟨h.lo,h.lM,(g.block Bk h.lt (fun e=>d (Option.some.inj e))).trans h.obj,h.nd,h.below.trans (pK g h.below.size (fun r e=>by cases e;exact h.lM)),m,World.ownsRow.kept h.fr g (.inr (mY h.at_ h.fr))⟩
theorem TbL.app (h:TbL w0 Bk M f FA fc D L gv W) (x:Int) (hl:L.length<=1000000000):
  mO Bk 2 gv 22 3 #[x] L.length W (fun v' W'=>TbL w0 Bk M f FA fc D (L++[x]) v' W'):=by
 obtain⟨i0,J,N,O,U⟩:=info_parts qX;have K:=h.lt;have i:Below W W (W.alloc (.cells #[x] 3)):=bLa;obtain⟨A1,c1,e1,s,u,_⟩:=zF h.fr
 obtain⟨v3,w3,hr,g,j,hat⟩:=jC (P:=Tryz.prog) (W.alloc (.cells #[x] 3)) w0.heap.size 22 22 3 i0 _ 1 8 Tryz.underlying22 J N O U rfl (by decide) _ L.length _ (zD h.fr i) (some ⟨W,0,none⟩) 1 1 [.int .i64 x] rfl
  (Rd.new W #[x] 3) (by simp[Value.oneCell']) (by simp only[maxLen];omega) (by omega) (by have:=h.below.size;simp;omega)
 obtain⟨T3,c3,rfl,_,_,_⟩:=zF g;have d:=wH h.obj h.fr (by decide) i j
 obtain⟨_,_,q,_,_⟩:=kY d;have fz:w3.frozen? ⟨Bk,2,none⟩=false:=by simp[World.frozen?,d]
 have m:M≠Bk:=fun e=>by
  obtain⟨es',c,h1,_⟩:=h.at_;rw[e,h.obj] at h1;cases h1
 refine⟨A1,c1,e1,s,u,T3,c3,w3,by rw[<-e1];exact hr,q,fz,j,⟨h.lo,h.lM,?_,h.nd,h.below.trans (bR h.fr K h.lo i j 2 _),?_,?_⟩⟩
 ·simp[World.setCell,Array.getElem?_modify,d]
 ·exact h.at_.heap ((Below.heap_setCell _ ⟨Bk,2,none⟩ _ _ m).trans ((j.block M (by have:=h.at_.lt;have:=i.size;omega) (fun e=>mY h.at_ h.fr e.symm)).trans (i.block M h.at_.lt)))
 have:=yM g d (by decide) 2 (.slice T3 (L.length+1) c3)
 rw[show(L++[x]).length=L.length+1 by simp,show(L++[x]).flatMap viL=L.flatMap viL++[.int .i64 x] by simp[viL]]
 exact this
theorem TbL.done (h:TbL w0 Bk M f FA fc (atD f f.length) (mP f f.length) gv W):TbW w0 Bk M f FA fc gv () [] W:=
 ⟨h.lo,h.obj,h.nd,h.below,h.at_,h.fr,World.ownsRow_nil _ _ _ _⟩
end
theorem zIN (f:List Nd) (u:vF f) (w0:World) (Bk M:Nat) (FA:Option Addr) (fc:Nat) (gv:Value) (w:World) (s:TbW w0 Bk M f FA fc gv () [] w):
  Calls Tryz.prog 112 #[(⟨Bk,0,none⟩:Addr)] w fun e w'=>∃d g A B C ca cb cc,EdM f 8 0 d/\g=pQ f (dd (zR d))/\e=.returned (.agg #[g.st,g.le,.slice A g.fs.length ca,.slice B g.gs.length cb,.slice C g.ss.length cc])/\zM w' w0.heap.size g A B C ca cb cc/\Below w0 w0 w':=
 (zJA f u w0 Bk M FA fc gv w s).mono fun e w' ⟨d,A,B,C,ca,cb,cc,h,i,j,m⟩=>⟨d,_,A,B,C,ca,cb,cc,h,rfl,i,j,m⟩
structure zD5 (f:List Nd) (r:Au):Prop where
 ok:ckA r=0
 le:r.le=8
 takes:∀u:Nat->Int,(∀ m,0<=u m/\u m<8)->(xJ r u↔(zB f (f.length-1)).sem u 0)
 few:r.st<=81
 fewS:r.ss.length<=768
theorem zCm {a:Au} {keep:List Bool} (d:1<=a.st):(qD a keep).st<=a.st/\(qD a keep).ss.length<=a.ss.length:=by
 have e:pos keep a.st.toNat<=a.st.toNat:=by
  unfold pos;exact Nat.le_trans (List.count_le_length) (List.length_take_le _ _)
 unfold qD
 by_cases h0:pos keep a.st.toNat=0
 ·rw[if_pos h0]
  exact⟨d,Nat.zero_le _⟩
 rw[if_neg h0];refine⟨by show((pos keep a.st.toNat:Nat):Int)<=a.st;omega,?_⟩
 show(yD a keep a.ss.length).length<=a.ss.length;unfold yD;rw[List.length_map];exact Nat.le_trans (List.length_filter_le _ _) (List.length_take_le _ _)
theorem zBt {f:List Nd} (g:vF f) (ss:List Stp):1<=(pQ f ss).st/\(pQ f ss).st<=81:=by
 have h:=gY g;have d:2^tn f<=16:=Nat.pow_le_pow_right (n:=2) (by decide) h.1
 have i:2^tn f*((zK f).length+1)<=16*5:=Nat.mul_le_mul d (by omega)
 have e:yH f (2^tn f) 0=((2^tn f*((zK f).length+1)+1:Nat):Int):=by
  unfold yH;rw[Int.natCast_add,Int.natCast_mul,Int.natCast_add];simp only[Int.natCast_one];omega
 show 1<=yH f (2^tn f) 0/\yH f (2^tn f) 0<=81;rw[e];omega
def zEe (f:List Nd) (w:World) (e:Ending) (w':World):Prop:=∃r A B C ca cb cc,zD5 f r/\e=.returned (.agg #[r.st,r.le,.slice A r.fs.length ca,.slice B r.gs.length cb,.slice C r.ss.length cc])/\zM w' w.heap.size r A B C ca cb cc/\Below w w w'
theorem zLr {f:List Nd} (g:vF f) {d:List Stp} (h:EdM f 8 0 d) {out:List Bool} (j:nK (pQ f (dd (zR d))) out):zD5 f (qD (pQ f (dd (zR d))) out):=by
 have i:=zAW d;have e:=zGP g h.raw i (by have:=h.len;omega)
 obtain⟨m,_⟩:=yP.1 e
 exact⟨zH2 e j.len,by unfold qD;split<;>rfl,fun u s=>(zC7 m (j.ok m) u).trans (zE8 g h.raw i s),Int.le_trans (zCm (zBt g _).1).1 (zBt g _).2,Nat.le_trans (zCm (zBt g _).1).2 (Nat.le_trans i.len (by have:=h.len;omega))⟩
theorem zL6 (f:List Nd) (hf:vF f) (FA:Option Addr) (fc:Nat) (w:World) (hN:Nds w 0 FA fc f):
  Calls Tryz.prog 74 #[.slice FA f.length fc] w (zEe f w):=by
 have HF:=hId hf;have hmm:=@run_makeMap Tryz.prog;have hz:Below w w (w.alloc (.cells #[(0:Int),(0:Int),(),(),()] 31)):=bLa
 have HZ1:Hid ((w.alloc (.cells #[(0:Int),(0:Int),(),(),()] 31)).heap[w.heap.size]?=some (.cells #[(0:Int),(0:Int),(),(),()] 31 (0,0))):=World.alloc_heap_new _ _
 have HN1:=hId (hN.below hz);have HB1:=hId hz;have hfl:=zD8 hf;clear hN hz hf;refine(callsIn_wide (n:=9)).1 ?_;refine callsIn_of_wp Tryz.func74 rfl trivial ?_
 simp only[Tryz.ntmps74,List.size_toArray,List.length_cons,List.length_nil,Nat.reduceAdd,Nat.reduceSub,Array.replicate_succ,Array.replicate_zero,List.push_toArray,List.append_toArray,List.nil_append,List.cons_append]
 gi_upto_region 1 with fail
 obtain⟨R2,h6⟩:∃R2,R2=w.heap.size:=⟨_,rfl⟩;rw[<-h6] at HZ1 ⊢;have HRR:=hId h6;clear h6;generalize w.alloc (.cells #[(0:Int),(0:Int),(),(),()] 31)=W1 at *
 gi_upto_region 2 with fail
 have hb2:Below W1 W1 ((W1.alloc (Obj.map #[] 0)).alloc (.cells #[.slice FA f.length fc,.map (some W1.heap.size),(),()] 167)):=(bLa).alloc (by simp) _
 have hob:((W1.alloc (Obj.map #[] 0)).alloc (.cells #[.slice FA f.length fc,.map (some W1.heap.size),(),()] 167)).heap[W1.heap.size+1]?=some (.cells #[.slice FA f.length fc,.map (some W1.heap.size),(),()] 167 (0,0)):=by
  have:=World.alloc_heap_new (W1.alloc (Obj.map #[] 0)) (.cells #[.slice FA f.length fc,.map (some W1.heap.size),(),()] 167)
  rwa[World.size_alloc] at this
 have hmp:AtI ((W1.alloc (Obj.map #[] 0)).alloc (.cells #[.slice FA f.length fc,.map (some W1.heap.size),(),()] 167)) W1.heap.size []:=(AtI.made W1).on (bLa)
 have HL2:Hid (TbL W1 (W1.heap.size+1) W1.heap.size f FA fc [] [] () ((W1.alloc (Obj.map #[] 0)).alloc (.cells #[.slice FA f.length fc,.map (some W1.heap.size),(),()] 167))):=⟨by omega,nLe,hob,HN1.o,hb2,hmp,World.ownsRow_nil _ _ _ _⟩
 clear hb2 hob hmp hmm;obtain⟨M,hM⟩:∃M,M=W1.heap.size:=⟨_,rfl⟩;rw[<-hM] at HL2 ⊢;clear hM
 generalize (W1.alloc (Obj.map #[] 0)).alloc (.cells #[.slice FA f.length fc,.map (some M),(),()] 167)=W2 at *
 gi_wp2
 gi_loopw [14] (fun v14 wr=>∃(i:Nat) (gv:Value),i<=f.length/\v14=(i:Int)/\Hid (TbL W1 (M+1) M f FA fc (atD f i) (mP f i) gv wr)) (fun v14 _=>f.length-(intOf v14).toNat)
 case atStart=>exact⟨0,_,Nat.zero_le _,rfl,HL2.o⟩
 obtain⟨i,gv,hi,rfl,HL⟩:=hrel
 by_cases hil:i<f.length
 ·have q1:(i:Int)<(f.length:Int):=by omega
  have hnd:=HN1.o.below HL.o.below;have hle:=hnd.le;obtain⟨fb,fo,rfl,_,_,x0,x1,x2,x3⟩:=Nds.at_ hnd hil
  have HXE:Hid (f.getD i qG=f[i]):=by show _=_;rw[List.getD_eq_getElem?_getD,List.getElem?_eq_getElem hil];rfl
  have g:=hId (zB2 f i);have m:=hId (zDx f i);rw[HXE.o] at g m;have s:=hId hil;generalize f[i]=x at *
  gi_upto_region 5 with fail
  have hba:Below wr wr (wr.alloc (.cells #[x.k,x.a,x.b,x.n] 63)):=bLa
  have h5:=hId (HL.o.on hba)
  have HZA:Hid ((wr.alloc (.cells #[x.k,x.a,x.b,x.n] 63)).heap[wr.heap.size]?=some (.cells #[x.k,x.a,x.b,x.n] 63 (0,0))):=World.alloc_heap_new _ _
  obtain⟨Z,hZ⟩:∃Z,Z=wr.heap.size:=⟨_,rfl⟩;rw[<-hZ] at HZA ⊢;clear hZ hba x0 x1 x2 x3 hnd HL;generalize wr.alloc (.cells #[x.k,x.a,x.b,x.n] 63)=Wa at *
  have z0:Wa.cell? ⟨Z,0,none⟩=some (.int .i64 x.k):=by simp[World.cell?,HZA.o]
  have hlen:=World.ownsMap.len (show Wa.ownsMap Tryz.prog 3 (plainElem (H:=Unit) Tryz.prog 3) M (atD f i).length (itD (atD f i)) from h5.o.at_) Tryz.underlying165;rw[zFN hi] at hlen;obtain⟨b0,b1,b2,_,_⟩:=kY h5.o.obj
  have HTP:=hId (oT x.k Wa)
  gi_wp2
  refine⟨trivial,?_⟩;refine(callsIn_wide.2 HTP.o).mono ?_;rintro e w5 ⟨rfl,rfl⟩;have hii:(Lit.int .i64 (i:Int)).wf=true:=WalkArith.wf_i64 (by omega)
  have htl:tix f i<=4:=by
   have:=sW (f:=f) (i:=i) (j:=f.length) hi nLe;have:=(gY HF.o).1;unfold tn at this;omega
  have htw:(Lit.int .i64 ((tix f i:Nat):Int)).wf=true:=WalkArith.wf_i64 (by omega)
  obtain⟨W5,hput,hA5,hg5⟩:=h5.o.at_.put (by rw[aN f i hi];omega) hii htw
  have U:=hId (h5.o.put hA5 hg5);have HO5:=hId U.o.obj
  have hZM:Z≠M:=fun e=>by
   obtain⟨es',c,h1,_⟩:=h5.o.at_;have:=HZA.o;rw[e,h1] at this;cases this
  have hz5:=(hg5.block Z (gLt HZA.o) (fun e=>hZM (Option.some.inj e))).trans HZA.o
  have y0:W5.cell? ⟨Z,0,none⟩=some (.int .i64 x.k):=by simp[World.cell?,hz5]
  clear hlen HTP hA5 hg5 hZM hz5 hii htw
  by_cases hk:x.k=6
  ·rw[hk] at z0 y0 g m ⊢
   rw[if_pos (by decide)] at g
   rw[if_neg (by decide)] at m
   have ht:yI 6=true:=by decide
   rw[ht];clear hk ht;have J:Hid (TbL W1 (M+1) M f (some ⟨fb,fo,none⟩) fc (atD f (i+1)) (mP f (i+1)) gv W5):=by rw[g.o,m.o,List.append_nil];exact U.o
   gi_wp2
   go_roundw
   case rel=>exact⟨i+1,_,s.o,by go_num,J.o⟩
   case measure=>simp[intOf];have:=s.o;omega
  have k6:(x.k==6)=false:=by simp[hk]
  have HK6:=hId hk;clear hk
  by_cases hk:x.k=7
  ·rw[hk] at z0 y0 g m ⊢
   rw[if_pos (by decide)] at g
   rw[if_pos (by decide)] at m
   have ht:yI 7=true:=by decide
   rw[ht];clear hk ht;obtain⟨T,c',rfl,hlc,hcm,T3,c3,w6,u,p2,f2,hgr,N⟩:=U.o.app (i:Int) (by have:=oS f i;omega)
   rw[<-m.o,<-g.o] at N;have J:=hId N;generalize (mP f i).length=gn at *
   have HRUN:Hid ((Builtin.append_ #[22,22] 22 #[.slice T gn c',.slice (some ⟨W5,0,none⟩) 1 1]).run Tryz.prog (W5.alloc (.cells #[(i:Int)] 3))=.ok (.slice T3 (gn+1) c3) w6):=u
   clear u hgr N U;obtain⟨e0,e1,e2,_,_⟩:=kY HO5.o
   gi_wp2_with (gi_at_builtin;refine gU rfl (.tmp 45) (.tmp 47) _ _ rfl _ _ _ rfl rfl HRUN.o ?_)
   go_roundw
   case rel=>exact⟨i+1,_,s.o,by go_num,J.o⟩
   case measure=>simp[intOf];have:=s.o;omega
  have k7:(x.k==7)=false:=by simp[hk]
  have HK7:=hId hk;clear hk
  by_cases hk:x.k=8
  ·rw[hk] at z0 y0 g m ⊢
   rw[if_pos (by decide)] at g
   rw[if_pos (by decide)] at m
   have ht:yI 8=true:=by decide
   rw[ht];clear hk ht;obtain⟨T,c',rfl,hlc,hcm,T3,c3,w6,u,p2,f2,hgr,N⟩:=U.o.app (i:Int) (by have:=oS f i;omega)
   rw[<-m.o,<-g.o] at N;have J:=hId N;generalize (mP f i).length=gn at *
   have HRUN:Hid ((Builtin.append_ #[22,22] 22 #[.slice T gn c',.slice (some ⟨W5,0,none⟩) 1 1]).run Tryz.prog (W5.alloc (.cells #[(i:Int)] 3))=.ok (.slice T3 (gn+1) c3) w6):=u
   clear u hgr N U;obtain⟨e0,e1,e2,_,_⟩:=kY HO5.o
   gi_wp2_with (gi_at_builtin;refine gU rfl (.tmp 45) (.tmp 47) _ _ rfl _ _ _ rfl rfl HRUN.o ?_)
   go_roundw
   case rel=>exact⟨i+1,_,s.o,by go_num,J.o⟩
   case measure=>simp[intOf];have:=s.o;omega
  have k8:(x.k==8)=false:=by simp[hk]
  have ht:yI x.k=false:=by
   cases h:yI x.k with
   |false=>rfl
   |true=>have:=wL.1 h;have:=HK6.o;have:=HK7.o;omega
  have hfr:pC x.k=false:=by unfold pC;simp[hk];exact HK7.o
  rw[if_neg (by rw[ht];decide),List.append_nil] at g
  rw[if_neg (by rw[hfr];decide),List.append_nil] at m
  rw[ht];have J:Hid (TbL W1 (M+1) M f (some ⟨fb,fo,none⟩) fc (atD f (i+1)) (mP f (i+1)) gv Wa):=by rw[g.o,m.o];exact h5.o
  clear hk ht hfr k6 HK6 HK7 hput y0
  gi_wp2
  go_roundw
  case rel=>exact⟨i+1,_,s.o,by go_num,J.o⟩
  case measure=>simp[intOf];have:=s.o;omega
 have q1:¬(i:Int)<(f.length:Int):=by omega
 obtain rfl:i=f.length:=by omega
 have HBD:=hId (zIN f HF.o W1 (M+1) M FA fc gv wr HL.o.done)
 gi_wp2
 refine⟨trivial,?_⟩;refine(callsIn_wide.2 HBD.o).mono ?_;rintro e w5 ⟨raw,d,A,B,C,ca,cb,cc,hE,htb,rfl,hrd,hb5⟩;have hs:=zAW raw;have hck:ckA d=0:=by rw[htb];exact zGP HF.o hE.raw hs (by have:=hE.len;omega)
 obtain⟨oa,so⟩:=yP.1 hck;have HOA:=hId oa;have HSO:=hId so;have HRS:Hid (∀ out,nK d out->zD5 f (qD d out)):=fun out ho=>by rw[htb] at ho ⊢;exact zLr HF.o hE ho
 have hal:Below w5 w5 (w5.alloc (.cells #[d.st,d.le,.slice A d.fs.length ca,.slice B d.gs.length cb,.slice C d.ss.length cc] 31)):=bLa
 have hX:=World.alloc_heap_new w5 (.cells #[d.st,d.le,.slice A d.fs.length ca,.slice B d.gs.length cb,.slice C d.ss.length cc] 31);have HRD:=hId ((hrd.low (Nat.zero_le _)).below hal)
 have hB6:=zA hb5 hal hb5.size;have HBW:=hId (zA HB1.o hB6 HB1.o.size);have h6:=(hB6.block R2 (gLt HZ1.o)).trans HZ1.o;have HR2:=hId h6;clear hE htb hs hck oa so hrd hb5 hal hB6 h6 HBD q1 hil hi HL HL2
 gi_upto_region 12 with fail
 obtain⟨X,hXX⟩:∃X,X=w5.heap.size:=⟨_,rfl⟩;rw[<-hXX] at hX ⊢;clear hXX;generalize w5.alloc (.cells #[d.st,d.le,.slice A d.fs.length ca,.slice B d.gs.length cb,.slice C d.ss.length cc] 31)=W6 at *
 have hdw:Below W6 W6 W6.drew:=bRf.drew
 have hA6:yG W6.drew X d A B C ca cb cc:=by
  obtain⟨x0,x1,x2,x3,x4,_⟩:=zZ hX;exact(⟨(gLt hX),x0,x1,x2,x3,x4⟩:yG W6 X d A B C ca cb cc).below hdw (gLt hX)
 have HRC:=hId (zCa d A B C ca cb cc W6.drew (HRD.o.below hdw) HOA.o HSO.o);refine xK (fun w'=>yG w' X d A B C ca cb cc) 4 (by kernel_rfl) ?_
 refine tZ 0 ?v0r ?hy0r hA6 ?rest0r
 case hy0r=>(intro w' hw';obtain⟨_,h0,h1,h2,h3,h4⟩:=hw';go_simp;(try with_reducible rfl))
 (try simp only[lAy])
 refine tZ 1 ?v1r ?hy1r hA6 ?rest1r
 case hy1r=>(intro w' hw';obtain⟨_,h0,h1,h2,h3,h4⟩:=hw';go_simp;(try with_reducible rfl))
 (try simp only[lAy])
 refine zI (i:=2) rfl (by kernel_rfl) rfl (fun K hK=>?_)
 refine vJ (f:=63) (args:=#[.agg #[.int .i64 d.st,.int .i64 d.le,.slice A d.fs.length ca,.slice B d.gs.length cb,.slice C d.ss.length cc]]) (by go_simp;(try with_reducible rfl)) (fun _ h=>by cases h) (fun _=>trivial) (fun h=>(by cases h)) ?_
 refine(callsIn_wide.2 HRC.o).mono ?_;rintro e w7 ⟨G,out,rfl,hG,hrow,hrs,hb7⟩;refine⟨_,rfl,?_⟩;have O:=zA hdw hb7 hdw.size;have hA7:=hA6.below hb7 hA6.lt
 have hol:out.length<=1000000:=by have:=hrs.len;have:=HOA.o.st2;omega
 have HMD:=hId (zI6 d out A B C (some ⟨G,0,none⟩) ca cb cc out.length w7 (HRD.o.below O) ((hrow.bools hol).zero) hrs.len HOA.o);have HRW:=hId (HRS.o out hrs);have HB7:=hId (zA HBW.o O HBW.o.size)
 have HR7:=hId ((O.block R2 (gLt HR2.o)).trans HR2.o);refine hK.out _ _ (.inr hA7) ?_;clear hK K
 (try simp only[lAy])
 refine zI (i:=3) rfl (by kernel_rfl) rfl (fun K hK=>?_)
 refine vJ (f:=62) (args:=#[.agg #[.int .i64 d.st,.int .i64 d.le,.slice A d.fs.length ca,.slice B d.gs.length cb,.slice C d.ss.length cc],.slice (some ⟨G,0,none⟩) out.length out.length]) (by go_simp;(try with_reducible rfl)) (fun _ h=>by cases h) (fun _=>trivial) (fun h=>(by cases h)) ?_
 refine(callsIn_wide.2 HMD.o).mono ?_;rintro e w8 ⟨A8,B8,C8,ca8,cb8,cc8,rfl,hrd8,hb8⟩;refine⟨_,rfl,?_⟩;have hA8:=hA7.below hb8 hA7.lt;have HR8:=hId ((hb8.block R2 (gLt HR7.o)).trans HR7.o);have hr2l:=(gLt HR7.o)
 obtain⟨r0,r1,r2,r3,r4,s0,s1,s2,s3,s4⟩:=zZ HR8.o;generalize qD d out=r at *
 have HFI:Hid (zEe f w (.returned (.agg #[r.st,r.le,.slice A8 r.fs.length ca8,.slice B8 r.gs.length cb8,.slice C8 r.ss.length cc8])) (set5 w8 R2 r.st r.le (.slice A8 r.fs.length ca8) (.slice B8 r.gs.length cb8) (.slice C8 r.ss.length cc8))):=
  ⟨r,A8,B8,C8,ca8,cb8,cc8,HRW.o,rfl,(hrd8.set5_ hr2l _ _ _ _ _).low HB7.o.size,zS (zA HB7.o hb8 HB7.o.size) (by rw[HRR.o];exact nLe) _ _ _ _ _⟩
 have HO1:=hId (zW HR8.o r.st r.le (.slice A8 r.fs.length ca8) (.slice B8 r.gs.length cb8) (.slice C8 r.ss.length cc8));unfold set5 at HFI HO1;refine hK.out _ _ (.inr hA8) ?_;clear hK K
 (try simp only[lAy])
 refine zI (i:=4) rfl (by kernel_rfl) rfl (fun K hK=>?_)
 go_simp
 refine hK.out _ _ (.inl rfl) ?_;clear hK K;refine xL (by kernel_rfl) (xB ?_) _
 clear r0 r1 r2 r3 r4 s0 s1 s2 s3 s4 hA8 hA7 hA6 hX hdw O hb7 hb8 hrow hrs hrd8
 gi_wp2
 exact bodyPost_ret (zEm Tryz.results74 _ _ R2 rfl HO1.o) rfl HFI.o
end
end Go.Proofs.YtoglgeaiiipchaaGreatDoor
