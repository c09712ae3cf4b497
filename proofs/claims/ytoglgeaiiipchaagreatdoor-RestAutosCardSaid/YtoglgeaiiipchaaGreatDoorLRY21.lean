import Derived.Test.YtoglgeaiiipchaaGreatDoorLRY20
set_option linter.unusedSimpArgs false
set_option linter.unusedVariables false
set_option maxRecDepth 100000
set_option maxHeartbeats 8000000
namespace Go.Proofs.YtoglgeaiiipchaaGreatDoor
section
open Go Go.RowKit Go.Sort
theorem zHw {f g:List Nd} (d:f.length=g.length) (h:∀i,i<f.length->f[i]?=g[i]?):f=g:=by
 apply List.ext_getElem?
 intro i
 rcases Nat.lt_or_ge i f.length with h1|h1
 ·exact h i h1
 rw[List.getElem?_eq_none h1,List.getElem?_eq_none (by omega)]
theorem sF (A B:Option Addr) (ca cb:Nat) (f g:List Nd) (w:World) (hf:Nds w 0 A ca f) (hg:Nds w 0 B cb g):
  Calls Tryz.prog 30 #[.slice A f.length ca,.slice B g.length cb] w fun e w'=>e=.returned (.bool (decide (f=g)))/\Below w w w':=by
 have hfl:=hf.le;have hgl:=hg.le;have hfc:=hf.cap;have hgc:=hg.cap;have HF:=hId hf;have HG:=hId hg;clear hf hg
 by_cases hl:f.length=g.length
 ·have hq:((f.length:Int) !=(g.length:Int))=false:=by simp[hl]
  go_enter Tryz.func30,Tryz.ntmps30
  have HL:=hId hl;clear hl
  go_wp2_with fail
  go_loopw [5] (fun s5 wr=>∃k:Nat,k<=f.length/\s5=(k:Int)/\Hid (Below w w wr/\∀i,i<k->f[i]?=g[i]?)) (fun s5 _=>f.length-(intOf s5).toNat)
  case atStart=>exact⟨0,Nat.zero_le _,rfl,bRf,fun i h=>absurd h (by omega)⟩
  obtain⟨k,hk,rfl,j⟩:=hrel
  by_cases hlt:k<f.length
  ·have m:k<g.length:=by have:=HL.o;omega
   have q1:(k:Int)<(f.length:Int):=by omega
   have q2:(k:Int)<(g.length:Int):=by omega
   obtain⟨b,o,rfl,_,hbl,c0,c1,c2,c3⟩:=Nds.at_ (HF.o.below j.o.1) hlt;obtain⟨b',o',rfl,_,hbl',e0,e1,e2,e3⟩:=Nds.at_ (HG.o.below j.o.1) m;have O:Hid (f[k]?=some f[k]):=List.getElem?_eq_getElem hlt
   have U:Hid (g[k]?=some g[k]):=List.getElem?_eq_getElem m
   generalize f[k]=x at *;generalize g[k]=y at *
   by_cases hxy:x=y
   ·subst hxy
    have HA:Hid (∀ i,i<k+1->f[i]?=g[i]?):=fun i hi=>by
     rcases Nat.lt_or_ge i k with h|h
     ·exact j.o.2 i h
     obtain rfl:i=k:=by omega
     rw[O.o,U.o]
    have u:=hId j.o.1;clear O U j;obtain⟨s,K,x3,x4⟩:=x;simp only at c0 c1 c2 c3 e0 e1 e2 e3
    go_wp2_with fail
    go_quiet (fail)
    go_wp2_with fail
    go_roundw
    case rel=>exact⟨k+1,by omega,by go_num,zC u.o _,HA.o⟩
    case measure=>simp[intOf];omega
   have J:Hid (decide (f=g)=false):=by
    show _=_;simp only[decide_eq_false_iff_not];intro h;have d:=O.o;rw[h,U.o] at d;exact hxy (Option.some.inj d).symm
   have u:=hId j.o.1;clear O U j;obtain⟨s,K,x3,x4⟩:=x;obtain⟨N,y2,y3,y4⟩:=y;simp only at c0 c1 c2 c3 e0 e1 e2 e3
   have hd:s≠N\/(s=N/\K≠y2)\/(s=N/\K=y2/\x3≠y3)\/(s=N/\K=y2/\x3=y3/\x4≠y4):=by
    by_cases d:s=N
    ·by_cases h2:K=y2
     ·by_cases h3:x3=y3
      ·by_cases h4:x4=y4
       ·exact absurd (by rw[d,h2,h3,h4]) hxy
       exact .inr (.inr (.inr ⟨d,h2,h3,h4⟩))
      exact .inr (.inr (.inl ⟨d,h2,h3⟩))
     exact .inr (.inl ⟨d,h2⟩)
    exact .inl d
   clear hxy
   rcases hd with d|⟨rfl,d⟩|⟨rfl,rfl,d⟩|⟨rfl,rfl,rfl,d⟩
   all_goals
    go_wp2_with fail
    go_quiet (fail)
    go_wp2_with fail
    go_ret
    exact⟨yJ J.o.symm,zC u.o _⟩
  have J:Hid (decide (f=g)=true):=by
   show _=_;simp only[decide_eq_true_eq];exact zHw HL.o (fun i hi=>j.o.2 i (by omega))
  have q1:¬(k:Int)<(f.length:Int):=by omega
  have u:=hId j.o.1;clear j
  go_wp2_with fail
  go_ret
  exact⟨yJ J.o.symm,u.o⟩
 have hq:((f.length:Int) !=(g.length:Int))=true:=by simp;omega
 have J:Hid (decide (f=g)=false):=by
  show _=_;simp only[decide_eq_false_iff_not];exact fun h=>hl (by rw[h])
 clear hl
 go_enter Tryz.func30,Tryz.ntmps30
 go_wp2_with fail
 go_ret
 exact⟨yJ J.o.symm,bRf⟩
theorem yG.set5_ {w:World} {V:Nat} {e g i j m:Value} {t:TypeId} {a:Au} {A B C:Option Addr} {ca cb cc:Nat} {X:Nat} (h:yG w X a A B C ca cb cc) (U:X≠V):yG (Go.Proofs.YtoglgeaiiipchaaGreatDoor.set5 w V e g i j m) X a A B C ca cb cc:=by
 obtain⟨s,u,J,K,N,O⟩:=h;have d:=pB w V e g i j m U
 exact⟨by rw[uG];exact s,(World.cell?_of_block (w:=w) (a:=⟨X,0,none⟩) d).trans u,(World.cell?_of_block (w:=w) (a:=⟨X,1,none⟩) d).trans J,(World.cell?_of_block (w:=w) (a:=⟨X,2,none⟩) d).trans K,(World.cell?_of_block (w:=w) (a:=⟨X,3,none⟩) d).trans N,(World.cell?_of_block (w:=w) (a:=⟨X,4,none⟩) d).trans O⟩
theorem zHW (g v:Au) (n:Int) (A B C D E F:Option Addr) (ca cb cc cd ce cf:Nat) (w:World) (hg:zM w 0 g A B C ca cb cc) (hv:zM w 0 v D E F cd ce cf) (h:g=if n=0 then v else qR):
  Calls Tryz.prog 31 #[.agg #[g.st,g.le,.slice A g.fs.length ca,.slice B g.gs.length cb,.slice C g.ss.length cc],n,n,.agg #[v.st,v.le,.slice D v.fs.length cd,.slice E v.gs.length ce,.slice F v.ss.length cf]] w (xX w true):=by
 have O:=jN w g A B C ca cb cc;have h2:=jN (auW w g A B C ca cb cc) v D E F cd ce cf;have i:Hid (Below w w (auW (auW w g A B C ca cb cc) v D E F cd ce cf)):=zA O.below h2.below O.below.size
 have J:Hid (yG (auW (auW w g A B C ca cb cc) v D E F cd ce cf) w.heap.size g A B C ca cb cc):=O.at.below h2.below O.at.lt
 have U:Hid (yG (auW (auW w g A B C ca cb cc) v D E F cd ce cf) (w.heap.size+1) v D E F cd ce cf):=by have:=h2.at;rwa[O.size] at this
 have u:(auW (auW w g A B C ca cb cc) v D E F cd ce cf).heap[w.heap.size+1]?=some (.cells #[v.st,v.le,.slice D v.fs.length cd,.slice E v.gs.length ce,.slice F v.ss.length cf] 31 (0,0)):=by
  rw[<-O.size];show((auW w g A B C ca cb cc).heap.push _)[(auW w g A B C ca cb cc).heap.size]?=_
  simp
 have N:=hId u;have d:=hId (hg.below i.o);have h0:=hId (hv.below i.o);have HH:=hId h;clear O h2 hg hv u h
 go_enter Tryz.func31,Tryz.ntmps31
 go_upto_region 1 with fail
 change Code.wp _ _ _ _ (auW (auW w g A B C ca cb cc) v D E F cd ce cf);generalize auW (auW w g A B C ca cb cc) v D E F cd ce cf=W0 at *;obtain⟨V,hV⟩:∃V,V=w.heap.size:=⟨_,rfl⟩;rw[<-hV] at J U N ⊢;have HV:=hId hV
 clear hV
 by_cases hn:n=0
 ·subst hn
  obtain rfl:g=v:=HH.o
  obtain⟨_,c0,c1,c2,c3,c4⟩:=J.o;obtain⟨_,d0,d1,d2,d3,d4⟩:=U.o;have HS:=hId (dI g A B C D E F ca cb cc cd ce cf W0 d.o h0.o)
  go_wp2_with fail
  refine HS.o.mono ?_;rintro e w1 ⟨rfl,j⟩;have K:=hId (zA i.o j i.o.size);clear j HS c0 c1 c2 c3 c4 d0 d1 d2 d3 d4
  go_wp2_with fail
  go_ret
  exact⟨rfl,K.o⟩
 obtain rfl:g=qR:=HH.o.trans (if_neg hn)
 clear HH;have hn1:(n !=0)=true:=by simp[hn]
 have HS0:Hid (yG (set5 W0 (V+1) (.int .i64 0) (.int .i64 0) () () ()) V qR A B C ca cb cc):=yG.set5_ (t:=0) J.o (by omega)
 have HOO:=hId (zZ (zW N.o (.int .i64 0) (.int .i64 0) () () ()))
 have s:Hid (Below w w (set5 W0 (V+1) (.int .i64 0) (.int .i64 0) () () ())):=zS i.o (by rw[HV.o];omega) _ _ _ _ _
 have HRA:Hid (zM (set5 W0 (V+1) (.int .i64 0) (.int .i64 0) () () ()) 0 qR A B C ca cb cc):=⟨⟨d.o.fs.le,d.o.fs.cap,d.o.fs.max,fun m=>absurd rfl m,Fz.zero⟩,⟨d.o.gs.le,d.o.gs.cap,d.o.gs.max,fun m=>absurd rfl m,Fz.zero⟩,⟨d.o.ss.le,d.o.ss.cap,d.o.ss.max,fun m=>absurd rfl m,Fz.zero⟩⟩
 have HRB:Hid (zM (set5 W0 (V+1) (.int .i64 0) (.int .i64 0) () () ()) 0 qR none none none 0 0 0):=zDJ _
 obtain⟨s0,s1,s2,s3,s4,sf0,sf1,sf2,sf3,sf4⟩:=zZ N.o;clear d h0
 go_upto_region 3 with fail
 change Code.wp _ _ _ _ (set5 W0 (V+1) (.int .i64 0) (.int .i64 0) () () ())
 generalize set5 W0 (V+1) (.int .i64 0) (.int .i64 0) () () ()=W1 at *;clear s0 s1 s2 s3 s4 sf0 sf1 sf2 sf3 sf4;obtain⟨_,c0,c1,c2,c3,c4⟩:=HS0.o
 obtain⟨d0,d1,d2,d3,d4,_⟩:=HOO.o;have HS:=hId (dI qR A B C none none none ca cb cc 0 0 0 W1 HRA.o HRB.o)
 go_wp2_with fail
 refine HS.o.mono ?_;rintro e w1 ⟨rfl,j⟩;have K:=hId (zA s.o j s.o.size);clear j HS c0 c1 c2 c3 c4 d0 d1 d2 d3 d4
 go_wp2_with fail
 go_ret
 exact⟨rfl,K.o⟩
variable {a b:Au} {l:La} {f:List Nd} {p q t:Ad} {V X Y Z TR:Nat} {ue it:Int} {WL W:World} {v16 v17 v18 v20 v22 v25 v27 v29 v31 v33 v34 v35:Value} {Kn:Act->World->Prop} {Qx:Exit->Act->World->Prop} {ac:Act}
theorem zC1 (A B C D:Option Addr) (ca cb cc cd:Nat) (l:La) (w:World) (i:zE w 0 A ca l.h) (j:zE w 0 B cb l.l) (d:zE w 0 C cc l.h) (g:zE w 0 D cd l.l):
  Calls Tryz.prog 29 #[.agg #[.slice A l.h.length ca,.slice B l.l.length cb],.agg #[.slice C l.h.length cc,.slice D l.l.length cd]] w fun e w'=>e=.returned (.bool true)/\Below w w w':=by
 have:=eX A B C D ca cb cc cd l l w i j d g
 rwa[decide_eq_true rfl] at this
theorem zAP (A B:Option Addr) (ca cb:Nat) (f:List Nd) (w:World) (d:Nds w 0 A ca f) (g:Nds w 0 B cb f):
  Calls Tryz.prog 30 #[.slice A f.length ca,.slice B f.length cb] w fun e w'=>e=.returned (.bool true)/\Below w w w':=by
 have:=sF A B ca cb f f w d g
 rwa[decide_eq_true rfl] at this
theorem zKL {T:Nat} {lo:Nat} (HA:Hid (∀ W,Below WL WL W->RaM a b l f p q t V X Y Z TR W)) (HB:Hid (Below WL WL W)) (HU:Hid (ue=ckA a)) (HT:Hid (∃ A B C ca cb cc,yG W T (yW a) A B C ca cb cc/\zM W lo (yW a) A B C ca cb cc)) (HK:Hid (∀ ac' W',RaQ V X Y Z TR f.length p q ue it (.pointer (some ⟨T,0,none⟩)) (.int .i64 (ckA a)) v18 v20 v22 v25 v27 v29 v31 v33 v34 v35 ac'->Below W W W'->Kn ac' W')) (ha:RaQ V X Y Z TR f.length p q ue it (.pointer (some ⟨T,0,none⟩)) (.int .i64 (ckA a)) v18 v20 v22 v25 v27 v29 v31 v33 v34 v35 ac):
  Code.wp Tryz.prog (zL (yU 8)) (Exit.then Kn Qx) ac W:=by
 obtain⟨u,rfl⟩:=ha;unfold raQ
 conv=>arg 2;whnf
 obtain⟨A1,B1,C1,U,h0,h1,hat,hrt⟩:=HT.o;have J:=hId hat;have HRT:=hId (hrt.low (Nat.zero_le _))
 have HIS:Hid (yW a=if ckA a=0 then yW a else qR):=by
  show _=_
  by_cases h:ckA a=0
  ·rw[if_pos h]
  rw[if_neg h,zBp h]
 obtain rfl:=HU.o;clear hat hrt HT HU
 have d:Hid (∀ W',Below W W W'->RaM a b l f p q t V X Y Z TR W'/\yG W' T (yW a) A1 B1 C1 U h0 h1/\zM W' 0 (yW a) A1 B1 C1 U h0 h1):=fun W' h=>⟨HA.o _ (zA HB.o h HB.o.size),J.o.below h J.o.lt,HRT.o.below h⟩
 clear J HRT;have HM2:Hid (∀ W',Below W W W'->yG W' TR (yW a) t.A t.B t.C t.ca t.cb t.cc/\zM W' 0 (yW a) t.A t.B t.C t.ca t.cb t.cc):=fun W' h=>⟨(d.o _ h).1.tr,(d.o _ h).1.rt⟩
 clear HA HB;generalize yW a=tv at *;generalize ckA a=ck at *;have m:=hId (dI a q.A q.B q.C p.A p.B p.C q.ca q.cb q.cc p.ca p.cb p.cc W (d.o _ bRf).1.xa (d.o _ bRf).1.e.ra);obtain⟨_,N,O,c2,c3,c4⟩:=(d.o _ bRf).1.ax
 obtain⟨_,d0,d1,d2,d3,d4⟩:=(d.o _ bRf).1.e.aa
 go_wp2_with fail
 refine m.o.mono ?_;rintro e w1 ⟨rfl,hb1⟩;have i:=hId hb1;clear hb1 N O c2 c3 c4 d0 d1 d2 d3 d4 m;have m:=hId (dI b q.D q.E q.F p.D p.E p.F q.cd q.ce q.cf p.cd p.ce p.cf w1 (d.o _ i.o).1.xb (d.o _ i.o).1.e.rb)
 obtain⟨_,N,O,c2,c3,c4⟩:=(d.o _ i.o).1.ay;obtain⟨_,d0,d1,d2,d3,d4⟩:=(d.o _ i.o).1.e.ab
 go_wp2_with fail
 refine m.o.mono ?_;rintro e w2 ⟨rfl,hb2⟩;have g:=hId (zA i.o hb2 i.o.size);clear hb2 N O c2 c3 c4 d0 d1 d2 d3 d4 m i
 have m:=hId (zC1 q.G q.K p.G p.K q.cg q.ck p.cg p.ck l w2 (d.o _ g.o).1.wh (d.o _ g.o).1.wl (d.o _ g.o).1.e.lh (d.o _ g.o).1.e.ll);obtain⟨N,O,_⟩:=vK (d.o _ g.o).1.az;obtain⟨d0,d1,_⟩:=vK (d.o _ g.o).1.e.al
 go_wp2_with fail
 refine m.o.mono ?_;rintro e w3 ⟨rfl,hb3⟩;have s:=hId (zA g.o hb3 g.o.size);clear hb3 N O d0 d1 m g;have m:=hId (zAP q.FA p.FA q.fc p.fc f w3 (d.o _ s.o).1.gf (d.o _ s.o).1.e.fr)
 go_wp2_with fail
 refine m.o.mono ?_;rintro e w4 ⟨rfl,hb4⟩;have j:=hId (zA s.o hb4 s.o.size);clear hb4 m s;have m:=hId (zHW tv tv ck A1 B1 C1 t.A t.B t.C U h0 h1 t.ca t.cb t.cc w4 (d.o _ j.o).2.2 (HM2.o _ j.o).2 HIS.o)
 obtain⟨_,N,O,c2,c3,c4⟩:=(d.o _ j.o).2.1;obtain⟨_,d0,d1,d2,d3,d4⟩:=(HM2.o _ j.o).1
 go_wp2_with fail
 refine m.o.mono ?_;rintro e w5 ⟨rfl,hb5⟩;have HB5:=hId (zA j.o hb5 j.o.size);clear hb5 N O c2 c3 c4 d0 d1 d2 d3 d4 m j
 go_wp2_with fail
 exact HK.o _ _ (RaQ.mk rfl) HB5.o
theorem zK4 {T L:Nat} (HL:Hid (L<=W.heap.size)) (i:Hid (AuS L W T)) (HK:Hid (∀ d W',RaQ V X Y Z TR f.length p q ue it (.pointer (some ⟨T,0,none⟩)) v17 v18 v20 v22 v25 v27 v29 v31 v33 v34 v35 d->Spl L W W'->Kn d W')) (ha:RaQ V X Y Z TR f.length p q ue it (.pointer (some ⟨T,0,none⟩)) v17 v18 v20 v22 v25 v27 v29 v31 v33 v34 v35 ac):
  Code.wp Tryz.prog (zL (yU 9)) (Exit.then Kn Qx) ac W:=by
 obtain⟨u,rfl⟩:=ha;unfold raQ
 conv=>arg 2;whnf
 obtain⟨st,le,A,B,C,na,nb,nc,ca,cb,cc,c0,c1,c2,c3,c4,w1,w2,w3,m,s,J,K,N,O,U⟩:=i.o.is;have h:=hId (zBC st le A B C na nb nc ca cb cc L W w1 w2 w3 m s J K N O U HL.o);clear w1 w2 w3 m s J K N O U i
 go_wp2_with fail
 refine h.o.mono ?_;rintro e w' ⟨rfl,j⟩;have g:=hId j;clear j c0 c1 c2 c3 c4 h
 go_wp2_with fail
 exact HK.o _ _ (RaQ.mk rfl) g.o
theorem zKP {T L:Nat} (HL:Hid (L<=W.heap.size)) (i:Hid (AuS L W T)) (HK:Hid (∀ d W',RaQ V X Y Z TR f.length p q ue it v16 v17 (.pointer (some ⟨T,0,none⟩)) v20 v22 v25 v27 v29 v31 v33 v34 v35 d->Spl L W W'->Kn d W')) (ha:RaQ V X Y Z TR f.length p q ue it v16 v17 (.pointer (some ⟨T,0,none⟩)) v20 v22 v25 v27 v29 v31 v33 v34 v35 ac):
  Code.wp Tryz.prog (zL (yU 10)) (Exit.then Kn Qx) ac W:=by
 obtain⟨u,rfl⟩:=ha;unfold raQ
 conv=>arg 2;whnf
 obtain⟨st,le,A,B,C,na,nb,nc,ca,cb,cc,c0,c1,c2,c3,c4,w1,w2,w3,m,s,J,K,N,O,U⟩:=i.o.is;have h:=hId (zBC st le A B C na nb nc ca cb cc L W w1 w2 w3 m s J K N O U HL.o);clear w1 w2 w3 m s J K N O U i
 go_wp2_with fail
 refine h.o.mono ?_;rintro e w' ⟨rfl,j⟩;have g:=hId j;clear j c0 c1 c2 c3 c4 h
 go_wp2_with fail
 exact HK.o _ _ (RaQ.mk rfl) g.o
theorem zKS {T L:Nat} (HL:Hid (L<=W.heap.size)) (i:Hid (AuS L W T)) (HK:Hid (∀ d W',RaQ V X Y Z TR f.length p q ue it v16 v17 v18 (.pointer (some ⟨T,0,none⟩)) v22 v25 v27 v29 v31 v33 v34 v35 d->Spl L W W'->Kn d W')) (ha:RaQ V X Y Z TR f.length p q ue it v16 v17 v18 (.pointer (some ⟨T,0,none⟩)) v22 v25 v27 v29 v31 v33 v34 v35 ac):
  Code.wp Tryz.prog (zL (yU 11)) (Exit.then Kn Qx) ac W:=by
 obtain⟨u,rfl⟩:=ha;unfold raQ
 conv=>arg 2;whnf
 obtain⟨st,le,A,B,C,na,nb,nc,ca,cb,cc,c0,c1,c2,c3,c4,w1,w2,w3,m,s,J,K,N,O,U⟩:=i.o.is;have h:=hId (zBC st le A B C na nb nc ca cb cc L W w1 w2 w3 m s J K N O U HL.o);clear w1 w2 w3 m s J K N O U i
 go_wp2_with fail
 refine h.o.mono ?_;rintro e w' ⟨rfl,j⟩;have g:=hId j;clear j c0 c1 c2 c3 c4 h
 go_wp2_with fail
 exact HK.o _ _ (RaQ.mk rfl) g.o
theorem zKJ {T L:Nat} (HL:Hid (L<=W.heap.size)) (i:Hid (AuS L W T)) (HK:Hid (∀ d W',RaQ V X Y Z TR f.length p q ue it v16 v17 v18 v20 v22 v25 v27 (.pointer (some ⟨T,0,none⟩)) v31 v33 v34 v35 d->Spl L W W'->Kn d W')) (ha:RaQ V X Y Z TR f.length p q ue it v16 v17 v18 v20 v22 v25 v27 (.pointer (some ⟨T,0,none⟩)) v31 v33 v34 v35 ac):
  Code.wp Tryz.prog (zL (yU 12)) (Exit.then Kn Qx) ac W:=by
 obtain⟨u,rfl⟩:=ha;unfold raQ
 conv=>arg 2;whnf
 obtain⟨st,le,A,B,C,na,nb,nc,ca,cb,cc,c0,c1,c2,c3,c4,w1,w2,w3,m,s,J,K,N,O,U⟩:=i.o.is;have h:=hId (zBC st le A B C na nb nc ca cb cc L W w1 w2 w3 m s J K N O U HL.o);clear w1 w2 w3 m s J K N O U i
 go_wp2_with fail
 refine h.o.mono ?_;rintro e w' ⟨rfl,j⟩;have g:=hId j;clear j c0 c1 c2 c3 c4 h
 go_wp2_with fail
 exact HK.o _ _ (RaQ.mk rfl) g.o
theorem zLj {T L:Nat} (i:Hid (LaS L W T)) (K:Hid (∀ d W',RaQ V X Y Z TR f.length p q ue it v16 v17 v18 v20 (.pointer (some ⟨T,0,none⟩)) v25 v27 v29 v31 v33 v34 v35 d->Spl L W W'->Kn d W')) (U:RaQ V X Y Z TR f.length p q ue it v16 v17 v18 v20 (.pointer (some ⟨T,0,none⟩)) v25 v27 v29 v31 v33 v34 v35 ac):
  Code.wp Tryz.prog (zL (yU 13)) (Exit.then Kn Qx) ac W:=by
 obtain⟨u,rfl⟩:=U;unfold raQ
 conv=>arg 2;whnf
 obtain⟨A,B,na,nb,ca,cb,N,O,J,w2,m,m2,s,m4⟩:=i.o.is;have h:=hId (bE A na ca L W J m s);clear J w2 m m2 s m4 i
 go_wp2_with fail
 refine h.o.mono ?_;rintro e w' ⟨rfl,j⟩;have g:=hId j;clear j N O h
 go_wp2_with fail
 exact K.o _ _ (RaQ.mk rfl) g.o
theorem zKV {T L:Nat} (i:Hid (LaS L W T)) (K:Hid (∀ d W',RaQ V X Y Z TR f.length p q ue it v16 v17 v18 v20 (.pointer (some ⟨T,0,none⟩)) v25 v27 v29 v31 v33 v34 v35 d->Spl L W W'->Kn d W')) (U:RaQ V X Y Z TR f.length p q ue it v16 v17 v18 v20 (.pointer (some ⟨T,0,none⟩)) v25 v27 v29 v31 v33 v34 v35 ac):
  Code.wp Tryz.prog (zL (yU 14)) (Exit.then Kn Qx) ac W:=by
 obtain⟨u,rfl⟩:=U;unfold raQ
 conv=>arg 2;whnf
 obtain⟨A,B,na,nb,ca,cb,N,O,w1,J,m1,m,m3,s⟩:=i.o.is;have h:=hId (bE B nb cb L W J m s);clear w1 J m1 m m3 s i
 go_wp2_with fail
 refine h.o.mono ?_;rintro e w' ⟨rfl,j⟩;have g:=hId j;clear j N O h
 go_wp2_with fail
 exact K.o _ _ (RaQ.mk rfl) g.o
theorem zK6 {T L:Nat} (i:Hid (LaS L W T)) (K:Hid (∀ d W',RaQ V X Y Z TR f.length p q ue it v16 v17 v18 v20 v22 (.pointer (some ⟨T,0,none⟩)) v27 v29 v31 v33 v34 v35 d->Spl L W W'->Kn d W')) (U:RaQ V X Y Z TR f.length p q ue it v16 v17 v18 v20 v22 (.pointer (some ⟨T,0,none⟩)) v27 v29 v31 v33 v34 v35 ac):
  Code.wp Tryz.prog (zL (yU 15)) (Exit.then Kn Qx) ac W:=by
 obtain⟨u,rfl⟩:=U;unfold raQ
 conv=>arg 2;whnf
 obtain⟨A,B,na,nb,ca,cb,N,O,J,w2,m,m2,s,m4⟩:=i.o.is;have h:=hId (bE A na ca L W J m s);clear J w2 m m2 s m4 i
 go_wp2_with fail
 refine h.o.mono ?_;rintro e w' ⟨rfl,j⟩;have g:=hId j;clear j N O h
 go_wp2_with fail
 exact K.o _ _ (RaQ.mk rfl) g.o
theorem zK1 {T L:Nat} (i:Hid (LaS L W T)) (K:Hid (∀ d W',RaQ V X Y Z TR f.length p q ue it v16 v17 v18 v20 v22 (.pointer (some ⟨T,0,none⟩)) v27 v29 v31 v33 v34 v35 d->Spl L W W'->Kn d W')) (U:RaQ V X Y Z TR f.length p q ue it v16 v17 v18 v20 v22 (.pointer (some ⟨T,0,none⟩)) v27 v29 v31 v33 v34 v35 ac):
  Code.wp Tryz.prog (zL (yU 16)) (Exit.then Kn Qx) ac W:=by
 obtain⟨u,rfl⟩:=U;unfold raQ
 conv=>arg 2;whnf
 obtain⟨A,B,na,nb,ca,cb,N,O,w1,J,m1,m,m3,s⟩:=i.o.is;have h:=hId (bE B nb cb L W J m s);clear w1 J m1 m m3 s i
 go_wp2_with fail
 refine h.o.mono ?_;rintro e w' ⟨rfl,j⟩;have g:=hId j;clear j N O h
 go_wp2_with fail
 exact K.o _ _ (RaQ.mk rfl) g.o
end
section
open Go Go.RowKit Go.Sort
variable {a b:Au} {l:La} {f:List Nd} {p q t:Ad} {V X Y Z TR:Nat} {ue it:Int} {WL W:World} {v16 v17 v18 v20 v22 v25 v27 v29 v31 v33 v34 v35:Value} {Kn:Act->World->Prop} {Qx:Exit->Act->World->Prop} {ac:Act}
theorem zLl {L:Nat} (d:Hid (NdS L W v27)) (m:Hid (∀ e W' v,RaQ V X Y Z TR f.length p q ue it v16 v17 v18 v20 v22 v25 v27 v29 v31 (v) v34 v35 e->Spl L W W'->Kn e W')) (J:RaQ V X Y Z TR f.length p q ue it v16 v17 v18 v20 v22 v25 v27 v29 v31 v33 v34 v35 ac):
  Code.wp Tryz.prog (zL (yU 17)) (Exit.then Kn Qx) ac W:=by
 obtain⟨u,rfl⟩:=J;unfold raQ
 conv=>arg 2;whnf
 obtain⟨A,n,c,rfl,j,U,m2,m3⟩:=d.o.is;have s:=hId j;clear j d
 go_wp2_with fail
 go_loopw [33] (fun i wr=>∃k:Nat,k<=n/\i=(k:Int)/\Hid (Spl L W wr)) (fun i _=>n-(intOf i).toNat)
 case atStart=>exact⟨0,Nat.zero_le _,rfl,Spl.refl _ _⟩
 obtain⟨k,O,rfl,d⟩:=hrel
 by_cases hkl:k<n
 ·have K:(k:Int)<(n:Int):=by omega
  obtain⟨b,off,rfl,h,_,⟨v,N,z2,rfl⟩,z3⟩:=zCf (k:=k*4) (s.o.spl IsI.kin d.o) (by omega)
  have g:Hid (Spl L W (wr.setCell ⟨b,off+k*4,none⟩ (.int .i64 (-7)))):=d.o.trans (Spl.set N h (.inr (.inl ⟨⟨_,rfl⟩,_,rfl⟩)))
  clear h
  go_wp2_with fail
  go_roundw
  case rel=>exact⟨k+1,by omega,by go_num,g.o⟩
  case measure=>simp[intOf];omega
 have K:¬(k:Int)<(n:Int):=by omega
 go_wp2_with fail
 exact m.o _ _ _ (RaQ.mk rfl) d.o
end
section
open Go Go.RowKit Go.Sort
variable {a b:Au} {l:La} {f:List Nd} {p q t:Ad} {V X Y Z TR:Nat} {ue it:Int} {WL W:World} {v16 v17 v18 v20 v22 v25 v27 v29 v31 v33 v34 v35:Value} {Kn:Act->World->Prop} {Qx:Exit->Act->World->Prop} {ac:Act}
theorem zLi {L:Nat} (K:Hid (TbS L W v31)) (HK:Hid (∀ N W' v v',RaQ V X Y Z TR f.length p q ue it v16 v17 v18 v20 v22 v25 v27 v29 v31 v33 (v) (v') N->Spl L W W'->Qx .normal N W')) (ha:RaQ V X Y Z TR f.length p q ue it v16 v17 v18 v20 v22 v25 v27 v29 v31 v33 v34 v35 ac):
  Code.wp Tryz.prog (yU 18) Qx ac W:=by
 obtain⟨u,rfl⟩:=ha;unfold raQ
 conv=>arg 2;whnf
 obtain⟨A,n,c,rfl,m1,m2,d⟩:=K.o.is
 have HR:Hid (∀ W',Spl L W W'->∀i,i<n->∃b off g m J,A=some ⟨b,off,none⟩/\W'.cell? ⟨b,off+i,none⟩=some (.slice g m J)/\Wr tE W' L g m/\m<=J/\J<=9223372036854775807):=fun W' h i hi=>by
  obtain⟨b,off,g,m,J,e,g2,g3,g4⟩:=d i hi;exact⟨b,off,g,m,J,e,h.slice g2,g3.spl tE.kin h,g4⟩
 clear d K
 go_wp2_with fail
 go_loopw [34,35] (fun i _ wr=>∃k:Nat,k<=n/\i=(k:Int)/\Hid (Spl L W wr)) (fun i _ _=>n-(intOf i).toNat)
 case atStart=>exact⟨0,Nat.zero_le _,rfl,Spl.refl _ _⟩
 obtain⟨k,hk,rfl,K⟩:=hrel
 by_cases hkl:k<n
 ·have q1:(k:Int)<(n:Int):=by omega
  generalize wr=W1 at *;obtain⟨b,off,g,m,J,rfl,y1,y2,y3,y4⟩:=HR.o _ K.o k hkl
  have HC:Hid (∀ W',Spl L W1 W'->W'.cell? ⟨b,off+k,none⟩=some (.slice g m J)/\Wr tE W' L g m):=fun W' h=>⟨h.slice y1,y2.spl tE.kin h⟩
  clear y1 y2
  go_wp2_with fail
  go_loopw [35] (fun i wr=>∃j:Nat,j<=m/\i=(j:Int)/\Hid (Spl L W1 wr)) (fun i _=>m-(intOf i).toNat)
  case atStart=>exact⟨0,Nat.zero_le _,rfl,Spl.refl _ _⟩
  obtain⟨j,hj,rfl,s⟩:=hrel;obtain⟨x1,x2⟩:=HC.o _ s.o
  by_cases hjm:j<m
  ·have q2:(j:Int)<(m:Int):=by omega
   obtain⟨b2,U,rfl,O,_,⟨v,z1,z2,rfl⟩,z3⟩:=zCf x2 hjm
   have h0:Hid (Spl L W1 (wr.drew.setCell ⟨b2,U+j,none⟩ (.bool (!z2)))):=(s.o.trans (Spl.drew L wr)).trans (Spl.set (w:=wr.drew) z1 O (.inr (.inr ⟨⟨_,rfl⟩,_,rfl⟩)))
   clear O x2
   go_wp2_with fail
   go_still_tail 14,(by kernel_rfl)
   change wpList _ _ _ _ _ wr.drew
   all_goals
    go_wp2_with fail
    go_roundw
    case rel=>exact⟨j+1,by omega,by go_num,h0.o⟩
    case measure=>simp[intOf];omega
  have q2:¬(j:Int)<(m:Int):=by omega
  have h1:=hId (K.o.trans s.o);clear x2
  go_wp2_with fail
  go_roundw
  case rel=>exact⟨k+1,by omega,by go_num,h1.o⟩
  case measure=>simp[intOf];omega
 have q1:¬(k:Int)<(n:Int):=by omega
 go_wp2_with fail
 exact HK.o _ _ _ _ (RaQ.mk rfl) K.o
end
section
open Go Go.RowKit
def yT:Au:=⟨1,2,[0],[true],[⟨0,0,0⟩]⟩
def zHB (w:World) (a:Au) (e:Ending) (w':World):Prop:=∃A B C ca cb cc,e=.returned (.agg #[a.st,a.le,.slice A a.fs.length ca,.slice B a.gs.length cb,.slice C a.ss.length cc])/\zM w' w.heap.size a A B C ca cb cc/\Below w w w'
theorem vR {w:World} {a:Addr} {cs:Array Value} {e:TypeId} (h:a.block=w.heap.size\/w.frozen? a=false):(w.alloc (.cells cs e)).frozen? a=false:=by
 by_cases hb:a.block=w.heap.size
 ·have d:(w.alloc (.cells cs e)).heap[a.block]?=some (.cells cs e):=by
   rw[hb];show(w.heap.push _)[w.heap.size]?=_
   simp
  simp[World.frozen?,d]
 have d:(w.alloc (.cells cs e)).heap[a.block]?=w.heap[a.block]?:=by
  show(w.heap.push _)[a.block]?=_;rw[Array.getElem?_push,if_neg hb]
 have:=h.resolve_left hb;unfold World.frozen? at this ⊢;rw[d];exact this
def rI (w:World):World:=(((w.alloc (.cells #[(1:Int),(2:Int),.slice (some ⟨w.heap.size+1,0,none⟩) 1 1,.slice (some ⟨w.heap.size+1+1,0,none⟩) 1 1,.slice (some ⟨w.heap.size+1+1+1,0,none⟩) 1 1] 31)).alloc
 (.cells #[(0:Int)] 3)).alloc (.cells #[true] 4)).alloc (.cells #[(0:Int),(0:Int),(0:Int)] 80)
theorem zEh (w:World):zM (rI w) w.heap.size yT (some ⟨w.heap.size+1,0,none⟩) (some ⟨w.heap.size+1+1,0,none⟩) (some ⟨w.heap.size+1+1+1,0,none⟩) 1 1 1/\Below w w (rI w):=by
 refine⟨⟨?_,?_,?_⟩,by unfold rI;go_grown⟩
 ·refine⟨by decide,by omega,by decide,fun _=>⟨_,0,rfl,by omega,by unfold rI;simp,fun j u d=>?_⟩,fun _ b off e j _=>by injection e with e;injection e with e1 e2;subst e1;unfold rI;exact vR (.inr (vR (.inr (vR (.inl (by simp))))))⟩
  match j,d with
  |0,d=>simp[yT] at d;subst d;unfold rI;go_simp
  |j+1,d=>simp[yT] at d
 ·refine⟨by decide,by omega,by decide,fun _=>⟨_,0,rfl,by omega,by unfold rI;simp,fun j u d=>?_⟩,fun _ b off e j _=>by injection e with e;injection e with e1 e2;subst e1;unfold rI;exact vR (.inr (vR (.inl (by simp))))⟩
  match j,d with
  |0,d=>simp[yT] at d;subst d;unfold rI;go_simp
  |j+1,d=>simp[yT] at d
 refine⟨by decide,by omega,by decide,fun _=>⟨_,0,rfl,by omega,by unfold rI;simp,fun j u d=>?_⟩,fun _ b off e j _=>by injection e with e;injection e with e1 e2;subst e1;unfold rI;exact vR (.inl (by simp))⟩
 match j,d with
 |0,d=>simp[yT,Stp.cells] at d;subst d;unfold rI;go_simp
 |1,d=>simp[yT,Stp.cells] at d;subst d;unfold rI;go_simp
 |2,d=>simp[yT,Stp.cells] at d;subst d;unfold rI;go_simp
 |j+3,d=>simp[yT,Stp.cells] at d
theorem zL5 (w:World):Calls Tryz.prog 40 #[] w (zHB w yT):=by
 have d:Hid (zHB w yT (.returned (.agg #[(1:Int),(2:Int),.slice (some ⟨w.heap.size+1,0,none⟩) 1 1,.slice (some ⟨w.heap.size+1+1,0,none⟩) 1 1,.slice (some ⟨w.heap.size+1+1+1,0,none⟩) 1 1])) (rI w)):=
  ⟨_,_,_,_,_,_,rfl,(zEh w).1,(zEh w).2⟩
 go_enter Tryz.func40,Tryz.ntmps40
 go_wp2_with fail
 exact bodyPost_ret (by simp[results,Tryz.results40,go_sem]) rfl d.o
theorem tU (w:World):Calls Tryz.prog 40 #[] w fun e w'=>∃A B C ca cb cc,e=.returned (.agg #[(1:Int),(2:Int),.slice A 1 ca,.slice B 1 cb,.slice C 1 cc])/\zM w' 0 yT A B C ca cb cc/\Below w w w':=
 (zL5 w).mono fun e w' ⟨A,B,C,ca,cb,cc,d,g,h⟩=>⟨A,B,C,ca,cb,cc,d,g.low (Nat.zero_le _),h⟩
theorem bJ:ckA yT=0:=by decide +kernel
end
section
open Go Go.RowKit Go.Sort
abbrev IsB (b:Nat) (bs:List UInt8) (w:World):Prop:=Lib.IsBuilder 140 5 b b (Lib.byteCells bs) w
theorem nA {b:Nat} {p:Value} {cs:List Value} {w w':World} (h:Lib.BuilderAt 140 5 b b p cs w) (g:Below w w w'):Lib.BuilderAt 140 5 b b p cs w':=by
 obtain⟨i,v,e,j,m⟩:=h;have d:b<w.heap.size:=(gLt e);exact⟨i,v,(g.block b d).trans e,zD j g,m⟩
theorem IsB.below {b:Nat} {d:List UInt8} {w w':World} (h:IsB b d w) (e:Below w w w'):IsB b d w':=h.imp (nA · e) (nA · e)
theorem IsB.new (w:World):IsB w.heap.size [] (w.alloc (.cells #[.pointer none,()] 140)):=by
 refine .inl ⟨nLe,.slice none 0 0,?_,World.ownsRow_nil _ _ _ _,by simp[Value.ownBlock]⟩
 show(w.heap.push _)[w.heap.size]?=_
 simp
structure pM (Wb:World) (b:Nat) (bs:List UInt8) (w:World):Prop where
 bu:IsB b bs w
 below:Below b Wb w
 le:b<=w.heap.size
theorem pM.on {e:World} {b:Nat} {g:List UInt8} {w w':World} (h:pM e b g w) (d:Below w w w'):pM e b g w':=⟨h.bu.below d,zA h.below d h.le,Nat.le_trans h.le d.size⟩
theorem pM.write {g w:World} {b:Nat} {d:List UInt8} (h:pM g b d w) (s:List UInt8) (u:d.length+s.length<=100000000):
  Calls Tryz.prog 95 #[(⟨b,0,none⟩:Addr),.string (sB s)] w fun e w'=>(∃ k,e=.returned (.tuple #[k,.nilIface]))/\pM g b (d++s) w':=
 (zAA b b d (sB s) w h.bu (by rw[qQ];omega) h.le).mono fun e w' ⟨m,i,j⟩=>⟨⟨_,m⟩,by rw[qY] at i;exact i,h.below.trans j,Nat.le_trans h.le j.size⟩
theorem zAQ:∀(d:List Int) (w:List UInt8),Lib.join (w::d.map dn) [32]=w++sp d
 |[],w=>by rw[List.map_nil,Lib.join_one];simp[sp]
 |n::d,w=>by
  have:Lib.join (w::(n::d).map dn) [32]=w++32::Lib.join (dn n::d.map dn) [32]:=by simp[Lib.join,List.intercalate]
  rw[this,zAQ d (dn n)];rfl
theorem bA {w:List UInt8} (h:w≠[]) (d:List Int):aA w d=w++sp d++[10]:=by
 unfold aA pcs;rw[if_neg h,List.singleton_append,zAQ]
theorem iH (s:Stp):aA [] [s.f,s.l,s.t]=pD s++[10]:=by
 unfold aA pcs;rw[if_pos rfl,List.nil_append];show Lib.join (dn s.f::[s.l,s.t].map dn) [32]++[10]=_;rw[zAQ]
 simp[pD,sp]
theorem uA {w:List UInt8} {d:List Int} (j:w.length<=10) (i:∀n∈d,0<=n/\n<=999999):(aA w d).length<=11*d.length+12:=by
 have:=iY (pcs w d) (fun x e=>by
  unfold pcs at e
  rcases List.mem_append.1 e with h|h
  ·split at h
   ·cases h
   rw[List.mem_singleton.1 h];exact j
  obtain⟨n,g,rfl⟩:=List.mem_map.1 h;have:=i n g;have:=xC (n:=n.toNat) (by omega)
  unfold dn;omega)
 have m:(pcs w d).length<=d.length+1:=by
  unfold pcs;rw[List.length_append,List.length_map]
  split<;>simp<;>omega
 unfold aA;rw[List.length_append]
 simp
 omega
theorem iK:∀(l:List Int) (lo d:Int),l.Pairwise (·<·)->(∀ x∈l,lo<=x/\x<d)->lo<=d->(l.length:Int)<=d-lo
 |[],lo,d,_,_,h=>by simp;omega
 |x::l,lo,d,hp,hb,_=>by
  have e:=List.pairwise_cons.1 hp;have i:=hb x (by simp)
  have:=iK l (x+1) d e.2 (fun y g=>by have:=e.1 y g;have:=hb y (List.mem_cons_of_mem _ g);omega) (by omega)
  rw[List.length_cons];omega
def gO (gs:List Bool) (k:Nat):List Int:=((List.range k).filter fun i=>gs.getD i false).map fun(i:Nat)=>(i:Int)
theorem zBM (gs:List Bool) (k:Nat):gO gs (k+1)=gO gs k++if gs.getD k false=true then[(k:Int)] else[]:=by
 unfold gO;rw[List.range_succ,List.filter_append,List.map_append]
 congr 1
 by_cases h:gs.getD k false=true
 ·rw[List.filter_cons,if_pos h,if_pos h];rfl
 rw[List.filter_cons,if_neg h,if_neg h];rfl
theorem aZ (gs:List Bool) (k:Nat):(gO gs k).length<=k:=by
 unfold gO;rw[List.length_map];have:=List.length_filter_le (fun i=>gs.getD i false) (List.range k)
 simpa using this
theorem zDi {gs:List Bool} {k:Nat} {n:Int} (h:n∈gO gs k):0<=n/\n<k:=by
 unfold gO at h;obtain⟨i,d,rfl⟩:=List.mem_map.1 h;have:=List.mem_range.1 (List.mem_filter.1 d).1;omega
def rW (a:Au):List UInt8:=if ckA a=0 then fS a else[]
theorem zHX (a:Au) (A B C:Option Addr) (ca cb cc:Nat) (w:World) (hL:xR w) (hr:zM w 0 a A B C ca cb cc):
  Calls Tryz.prog 54 #[.agg #[a.st,a.le,.slice A a.fs.length ca,.slice B a.gs.length cb,.slice C a.ss.length cc]] w fun e w'=>e=.returned (.tuple #[.string (sB (rW a)),(ckA a)])/\Below w w w':=by
 obtain⟨i0,hi0,hz0,hz1,hz2⟩:=info_parts qX;have HW:=hId (jN w a A B C ca cb cc);have HR:=hId (hr.below HW.o.below);have HL:=hId (hL.below HW.o.below nLe);have l1:=hr.gs.max;have l2:=hr.ss.max;have l5:=hr.gs.le
 have l6:=hr.ss.le;clear hr hL
 go_enter Tryz.func54,Tryz.ntmps54
 go_upto_region 1 with fail
 change Code.wp _ _ _ _ (auW w a A B C ca cb cc);generalize auW w a A B C ca cb cc=W0 at *;have HA:=hId HW.o.at;have HBW:Hid (Below w w W0):=HW.o.below;obtain⟨V,hV⟩:∃V,V=w.heap.size:=⟨_,rfl⟩
 rw[<-hV] at HA ⊢;have HV:=hId hV;clear hV HW;obtain⟨_,c0,c1,c2,c3,c4⟩:=HA.o;have HC:=hId (kQ a A B C ca cb cc W0 HR.o)
 go_wp2_with fail
 refine HC.o.mono ?_;rintro e j ⟨rfl,hb1⟩;have HB1:=hId hb1;have N:=hId (zA HBW.o hb1 HBW.o.size);clear hb1 HC c0 c1 c2 c3 c4
 by_cases hc:ckA a=0
 ·have J:=(yP.1 hc).1
  have HP:Hid (rW a=fS a):=by unfold Hid rW;rw[if_pos hc]
  have HOK:=hId J
  have hfl:a.fs.length<=300:=by
   have:=iK a.fs 0 a.st J.fo (fun x hx=>J.fr x hx) (by have:=J.st1;omega)
   have:=J.st2;omega
  have hgl:a.gs.length<=300:=by have:=J.gl;have:=J.st2;omega
  have hsl:=J.sl;have HFN:Hid (∀ n∈a.fs,0<=n/\n<=999999):=fun n hn=>by have:=J.fr n hn;have:=J.st2;omega
  have HSN:Hid (∀ s∈a.ss,∀n∈[s.f,s.l,s.t],0<=n/\n<=999999):=fun s hs n hn=>by
   have:=J.sr s hs;have:=J.st2;have:=J.le2
   rcases List.mem_cons.1 hn with rfl|hn
   ·omega
   rcases List.mem_cons.1 hn with rfl|hn
   ·omega
   rw[List.mem_singleton.1 hn];omega
  have hst:=J.st2;have hst1:=J.st1;have hle1:=J.le1;have hle2:=J.le2;rw[hc];have HC0:=hId hc;clear hc J
  go_upto_region 5 with fail
  obtain⟨b,hbe⟩:∃b,b=j.heap.size:=⟨_,rfl⟩
  have hPR:Hid (pM j b [] (j.alloc (.cells #[.pointer none,()] 140))):=by
   rw[hbe];exact⟨IsB.new j,bLa,by simp⟩
  rw[<-hbe];generalize j.alloc (.cells #[.pointer none,()] 140)=Wb at *
  have g:Hid (∀ bs W,pM j b bs W->xR W/\zM W 0 a A B C ca cb cc/\yG W V a A B C ca cb cc/\Below w w W):=fun bs W h=>by
   have h1:Below j j W:=by rw[<-hbe];exact h.below
   have h2:Below W0 W0 W:=zA HB1.o h1 HB1.o.size
   exact⟨HL.o.below h2 nLe,HR.o.below h2,HA.o.below h2 HA.o.lt,zA N.o h1 N.o.size⟩
  have hwb:w.heap.size<=b:=by have:=N.o.size;omega
  clear hbe N;obtain⟨_,_,⟨_,c0,c1,c2,c3,c4⟩,_⟩:=g.o _ _ hPR.o;obtain⟨S1,hS1⟩:∃S,S=sB (dn a.st):=⟨_,rfl⟩;obtain⟨S2,hS2⟩:∃S,S=sB (dn a.le):=⟨_,rfl⟩
  have z1:S1.size<=6:=by rw[hS1,qQ];exact xC (by omega)
  have z2:S2.size<=6:=by rw[hS2,qQ];exact xC (by omega)
  have y1:¬9223372036854775807<7+S1.size:=by omega
  have y2:¬9223372036854775807<7+S1.size+9:=by omega
  have y3:¬9223372036854775807<7+S1.size+9+S2.size:=by omega
  have y4:¬9223372036854775807<7+S1.size+9+S2.size+1:=by omega
  have HI1:Hid (∀ W,pM j b [] W->Calls Tryz.prog 82 #[a.st] W fun e w'=>e=.returned (.string S1)/\pM j b [] w'):=fun W h=>
   (zDd a.st (by omega) (by omega) W (g.o _ _ h).1).mono fun e w' ⟨he,hb⟩=>⟨by rw[he,hS1],h.on hb⟩
  have HI2:Hid (∀ W,pM j b [] W->Calls Tryz.prog 82 #[a.le] W fun e w'=>e=.returned (.string S2)/\pM j b [] w'):=fun W h=>
   (zDd a.le (by omega) (by omega) W (g.o _ _ h).1).mono fun e w' ⟨he,hb⟩=>⟨by rw[he,hS2],h.on hb⟩
  have HWR:Hid (∀ W,pM j b [] W->Calls Tryz.prog 95 #[(⟨b,0,none⟩:Addr),.string (⟨#[115,116,97,116,101,115,32]⟩++S1++⟨#[32,108,101,116,116,101,114,115,32]⟩++S2++⟨#[10]⟩)] W fun e w'=>(∃ k,e=.returned (.tuple #[k,.nilIface]))/\pM j b (kD a++[10]) w'):=fun W h=>by
   have e:(⟨#[115,116,97,116,101,115,32]⟩++S1++⟨#[32,108,101,116,116,101,114,115,32]⟩++S2++⟨#[10]⟩:ByteArray)=sB (kD a++[10]):=by
    rw[hS1,hS2,show(⟨#[115,116,97,116,101,115,32]⟩:ByteArray)=sB (pR++[32]) from rfl,show(⟨#[32,108,101,116,116,101,114,115,32]⟩:ByteArray)=sB (32::gI++[32]) from rfl,show(⟨#[10]⟩:ByteArray)=sB [10] from rfl]
    simp only[zAM]
    congr 1
    simp[kD]
   rw[e];have hd1:=xC (n:=a.st.toNat) (by omega)
   have hd2:=xC (n:=a.le.toNat) (by omega)
   have:=h.write (kD a++[10]) (by simp[kD,pR,gI,dn];omega)
   simpa using this
  have HCE:Hid (∀ bs W,pM j b bs W->W.cell? ⟨V,0,none⟩=some (.int .i64 a.st)/\W.cell? ⟨V,1,none⟩=some (.int .i64 a.le)):=fun bs W h=>⟨(g.o _ _ h).2.2.1.c0,(g.o _ _ h).2.2.1.c1⟩
  have hPR0:pM j b [] Wb.drew:=⟨hPR.o.bu,hPR.o.below.drew,hPR.o.le⟩
  have h5:=hId hPR0;clear z1 z2 hPR0 hS1 hS2
  go_cut [] (fun wx=>Hid (pM j b (kD a++[10]) wx))
  case first=>
   go_region_held3 (fun w'=>w'.cell? ⟨V,0,none⟩=some (.int .i64 a.st)/\w'.cell? ⟨V,1,none⟩=some (.int .i64 a.le))
    (first|go_keep|exact HCE.o _ _ HPC.o|exact HCE.o _ _ HPA.o|exact HCE.o _ _ HPB.o)
    (first
     |(go_at_call 82;refine(HI1.o _ (by first|exact HPB.o|exact h5.o)).mono ?_;rintro e wA ⟨rfl,hpa⟩;have HPA:=hId hpa;clear hpa)
     |(go_at_call 82;refine(HI2.o _ (by first|exact HPA.o|exact h5.o)).mono ?_;rintro e wB ⟨rfl,hpb⟩;have HPB:=hId hpb;clear hpb)
     |(go_at_call 95;refine(HWR.o _ (by first|exact HPA.o|exact HPB.o)).mono ?_;rintro e wC ⟨⟨kk,rfl⟩,hpc⟩;have HPC:=hId hpc;clear hpc))
   all_goals
    go_wp2_with fail
    go_meet
    exact HPC.o
  have HP1:=hcut;clear hcut HI1 HI2 HWR h5 y1 y2 y3 y4 c0 c1 c2 c3 c4 hPR;obtain⟨hL1,hR1,⟨_,c0,c1,c2,c3,c4⟩,_⟩:=g.o _ _ HP1.o;have d:=hId (zGk kZ A ca a.fs wc hL1 hR1.fs HFN.o (by omega) (by decide) (.inl (by decide)))
  rw[bA (by decide)] at d
  have hl1:(kD a++[10]).length<=1000:=by
   have hd1:=xC (n:=a.st.toNat) (by omega)
   have hd2:=xC (n:=a.le.toNat) (by omega)
   simp[kD,pR,gI,dn];omega
  have hl2:(fW a++[10]).length<=10000:=by
   have:=uA (w:=kZ) (by decide) HFN.o
   rw[bA (by decide)] at this
   unfold fW;omega
  clear hL1 hR1;have K:Hid (Calls Tryz.prog 96 #[.string ⟨#[102,105,114,115,116]⟩,.slice A a.fs.length ca] wc fun e w'=>e=.returned (.string (sB (fW a++[10])))/\Below wc wc w'):=d
  clear d
  go_wp2_with fail
  refine K.o.mono ?_;rintro e w2 ⟨rfl,hb2⟩;have HP2:=hId (HP1.o.on hb2);have m:=hId (HP2.o.write (fW a++[10]) (by omega))
  clear hb2 K c0 c1 c2 c3 c4
  go_wp2_with fail
  refine m.o.mono ?_;rintro e w3 ⟨⟨kk,rfl⟩,hp3⟩;have HP3:=hId hp3;clear hp3 m HP1 HP2;obtain⟨bs3,O⟩:∃x,x=kD a++[10]++(fW a++[10]):=⟨_,rfl⟩;rw[<-O] at HP3
  have hl3:bs3.length<=11000:=by rw[O,List.length_append];omega
  have HB3:=hId O;clear O hl1 hl2;obtain⟨hL3,hR3,⟨_,c0,c1,c2,c3,c4⟩,_⟩:=g.o _ _ HP3.o;have HR3:=hId hR3;clear hL3 hR3
  go_wp2_with fail
  go_loopw [6,7,8,34] (fun v _ _ i wr=>∃k:Nat,k<=a.gs.length/\i=(k:Int)/\Hid (wr.ownsRow w3.heap.size 3 1 v (gO a.gs k).length ((gO a.gs k).flatMap fun n:Int=>[Value.int .i64 n]))/\Hid (Below w3 w3 wr)) (fun _ _ _ i _=>a.gs.length-(intOf i).toNat)
  case atStart=>exact⟨0,Nat.zero_le _,rfl,World.ownsRow_nil _ _ _ _,bRf⟩
  obtain⟨k,hk,rfl,HO,h3⟩:=hrel
  by_cases hkl:k<a.gs.length
  ·have q1:(k:Int)<(a.gs.length:Int):=by omega
   obtain⟨g1,o1,rfl,_,_,y1⟩:=xG.at_ (HR3.o.gs.below h3.o) (k:=k) hkl;have HG:=hId (zBM a.gs k);rw[zX hkl] at HG;have hgt:=aZ a.gs k;generalize hgtn:gO a.gs (k+1)=gt' at *;generalize gO a.gs k=gt at *
   have HGN:=hId hgtn;clear hgtn;generalize a.gs[k]'hkl=x at *;obtain⟨vA,vc,rfl,hvl,hvc,_,_⟩:=zF HO.o
   cases x with
   |true=>
    have HG2:Hid (gt'=gt++[(k:Int)]):=HG.o
    have HO3:Hid ((wr.alloc (.cells #[(k:Int)] 3)).ownsRow w3.heap.size 3 1 (.slice vA gt.length vc) gt.length (gt.flatMap fun n:Int=>[Value.int .i64 n])):=zD HO.o (bLa)
    have HRd:=hId (Rd.new wr #[(k:Int)] 3);have HB4:Hid (Below w3 w3 (wr.alloc (.cells #[(k:Int)] 3))):=h3.o.alloc h3.o.size _
    have hsz4:w3.heap.size<=(wr.alloc (.cells #[(k:Int)] 3)).heap.size:=HB4.o.size
    clear HG
    go_wp2_with (at_builtin;refine qE _ rfl (.tmp 40) (.tmp 42) _ rfl w3.heap.size 3 i0 _ 1 8 Tryz.underlying22 hi0 hz0 hz1 hz2 rfl (by decide) (.slice vA gt.length vc) gt.length _ rfl HO3.o (some ⟨wr,0,none⟩) 1 1 [.int .i64 (k:Int)] rfl rfl HRd.o (by simp[Value.oneCell']) (by simp only[maxLen];omega) (by omega) hsz4 ?_;intro v2 w2' hown2 hg2 hat2)
    have HP':Hid (w2'.ownsRow w3.heap.size 3 1 v2 gt'.length (gt'.flatMap fun n:Int=>[Value.int .i64 n])):=by
     show World.ownsRow _ _ _ _ _ _ _;rw[HG2.o,List.length_append,List.flatMap_append];exact hown2
    have HB5:=hId (qV HB4.o hg2 HO3.o nLe hsz4);clear hown2 hg2 hat2
    go_wp2_with fail
    go_roundw
    case rel=>exact⟨k+1,by omega,by go_num,by rw[HGN.o];exact HP'.o,HB5.o⟩
    case measure=>simp[intOf];omega
   |false=>
    have HG2:Hid (gt'=gt):=by have h:=HG.o;show gt'=gt;simpa using h
    have HP':Hid (wr.ownsRow w3.heap.size 3 1 (.slice vA gt.length vc) gt'.length (gt'.flatMap fun n:Int=>[Value.int .i64 n])):=by show World.ownsRow _ _ _ _ _ _ _;rw[HG2.o];exact HO.o
    clear HG
    go_wp2_with fail
    go_roundw
    case rel=>exact⟨k+1,by omega,by go_num,by rw[HGN.o];exact HP'.o,h3.o⟩
    case measure=>simp[intOf];omega
  have q1:¬(k:Int)<(a.gs.length:Int):=by omega
  obtain rfl:k=a.gs.length:=by omega
  have hgi:gO a.gs a.gs.length=qP a.gs:=rfl
  rw[hgi] at HO;have HGM:Hid (∀ n∈qP a.gs,0<=n/\n<=999999):=fun n hn=>by have:=zDi (gs:=a.gs) (k:=a.gs.length) hn;omega
  have hgl2:(qP a.gs).length<=300:=by have:=aZ a.gs a.gs.length;rw[hgi] at this;omega
  have HP4:=hId (HP3.o.on h3.o);obtain⟨vA,vc,rfl,u⟩:=SlE.of_own (bt:=8) HO.o (by omega)
  obtain⟨hL4,hR4,⟨_,c0,c1,c2,c3,c4⟩,_⟩:=g.o _ _ HP4.o;have HR4:=hId hR4;have d:=hId (zGk vP vA vc (qP a.gs) wr hL4 (u.low (Nat.zero_le _)) HGM.o (by omega) (by decide) (.inl (by decide)))
  rw[bA (by decide)] at d
  have hl4:(dX a++[10]).length<=10000:=by
   have:=uA (w:=vP) (by decide) HGM.o
   rw[bA (by decide)] at this
   unfold dX;omega
  have K:Hid (Calls Tryz.prog 96 #[.string ⟨#[103,111,111,100]⟩,.slice vA (qP a.gs).length vc] wr fun e w'=>e=.returned (.string (sB (dX a++[10])))/\Below wr wr w'):=d
  have hcap:=u.cap;have hcle:=u.le;clear d u hL4 hR4 HO hgi
  go_wp2_with fail
  refine K.o.mono ?_;rintro e w5 ⟨rfl,hb5⟩;have HP5:=hId (HP4.o.on hb5);have m:=hId (HP5.o.write (dX a++[10]) (by omega))
  clear hb5 K c0 c1 c2 c3 c4
  go_wp2_with fail
  refine m.o.mono ?_;rintro e w6 ⟨⟨kk,rfl⟩,hp6⟩;have HP6:=hId hp6;clear hp6 m HP4 HP5 HP3;obtain⟨h0,U⟩:∃x,x=bs3++(dX a++[10]):=⟨_,rfl⟩;rw[<-U] at HP6
  have hl6:h0.length<=21000:=by rw[U,List.length_append];omega
  have HB6:=hId U;clear U hl3 hl4;obtain⟨_,_,⟨_,c0,c1,c2,c3,c4⟩,_⟩:=g.o _ _ HP6.o
  go_wp2_with fail
  go_loopw [10,51] (fun _ i wx=>∃k:Nat,k<=a.ss.length/\i=(k:Int)/\Hid (pM j b (h0++kC (a.ss.take k)) wx)/\(kC (a.ss.take k)).length<=50*k) (fun _ i _=>a.ss.length-(intOf i).toNat)
  case atStart=>exact⟨0,Nat.zero_le _,rfl,by show pM _ _ _ _;simpa[kC] using HP6.o,by simp[kC]⟩
  obtain⟨k,hk,rfl,h6,hlx⟩:=hrel;clear c0 c1 c2 c3 c4;obtain⟨hL7,hR7,⟨_,c0,c1,c2,c3,c4⟩,hbw7⟩:=g.o _ _ h6.o
  by_cases hkl:k<a.ss.length
  ·have q2:(k:Int)<(a.ss.length:Int):=by omega
   obtain⟨b1,o1,rfl,_,_,y0,y1,y2⟩:=jZ.at_ hR7.ss hkl
   have HSS:Hid (kC (a.ss.take (k+1))=kC (a.ss.take k)++(pD a.ss[k]++[10])):=by
    show _=_;unfold kC;rw[List.take_succ_eq_append_getElem hkl,List.flatMap_append]
    simp
   have hsn:=HSN.o _ (List.getElem_mem hkl);generalize hgp:kC (a.ss.take (k+1))=pt' at *;have HGP:=hId hgp;clear hgp;generalize kC (a.ss.take k)=pt at *;obtain⟨s,hs⟩:∃s,s=a.ss[k]:=⟨_,rfl⟩
   rw[<-hs] at y0 y1 y2 HSS hsn;clear hs
   have hls:(pD s++[10]).length<=50:=by
    have:=uA (w:=[]) (by decide) hsn
    rw[iH] at this
    simp at this ⊢
    omega
   have HSN1:=hId hsn;have HL7:=hId hL7;clear hsn hL7 hR7 hbw7;have HP8:Hid (pM j b (h0++pt) (wr.alloc (.cells #[s.f,s.l,s.t] 80))):=h6.o.on (bLa);have h4:=hId (zD0 wr s)
   go_upto_region 18 with fail
   change Code.wp _ _ _ _ (stW wr s);have HP8':Hid (pM j b (h0++pt) (stW wr s)):=HP8.o;clear HP8;generalize stW wr s=w8 at *;obtain⟨X,hX⟩:∃X,X=wr.heap.size:=⟨_,rfl⟩;rw[<-hX] at h4 ⊢;have x0:=h4.o.c0
   have x1:=h4.o.c1;have x2:=h4.o.c2;have HP9:Hid (pM j b (h0++pt) (w8.alloc (.cells #[s.f,s.l,s.t] 3))):=HP8'.o.on (bLa)
   have HIN:Hid (zE (w8.alloc (.cells #[s.f,s.l,s.t] 3)) 0 (some ⟨w8,0,none⟩) 3 [s.f,s.l,s.t]):=⟨by simp,by omega,by simp,Rd.new w8 #[s.f,s.l,s.t] 3,Fz.zero⟩
   have d:=hId (zGk [] (some ⟨w8,0,none⟩) 3 [s.f,s.l,s.t] _ (g.o _ _ HP9.o).1 HIN.o HSN1.o (by simp) (by simp) (.inr (by simp)))
   rw[iH] at d;clear h4 hX HP8'
   go_wp2_with fail
   refine d.o.mono ?_;rintro e w5 ⟨rfl,hb5⟩;have HP10:=hId (HP9.o.on hb5);have m:=hId (HP10.o.write (pD s++[10]) (by simp at hls ⊢;omega))
   rw[List.append_assoc,<-HSS.o] at m;have hls2:pt'.length<=50*(k+1):=by rw[HSS.o,List.length_append];omega
   clear hb5 d
   go_wp2_with fail
   refine m.o.mono ?_;rintro e w6 ⟨⟨kk,rfl⟩,hp6⟩;have HP11:=hId hp6;clear hp6 m
   go_wp2_with fail
   go_roundw
   case rel=>exact⟨k+1,by omega,by go_num,by rw[HGP.o];exact HP11.o,by rw[HGP.o];exact hls2⟩
   case measure=>simp[intOf];omega
  have q2:¬(k:Int)<(a.ss.length:Int):=by omega
  have hkk:a.ss.take k=a.ss:=List.take_of_length_le (by omega)
  rw[hkk] at h6;have HST:=hId (zET b b _ wr h6.o.bu h6.o.le)
  have HFT:Hid (h0++kC a.ss=rW a):=by
   show _=_;rw[HP.o,HB6.o,HB3.o]
   simp[fS]
  have HBE:Hid (∀ w',Below b wr w'->Below w w w'):=fun w' h=>zA hbw7 h hwb
  clear hkk hL7 hR7 hbw7
  go_wp2_with fail
  refine HST.o.mono ?_;rintro e w9 ⟨rfl,hb9⟩;have HB9:=hId (HBE.o _ hb9);clear hb9 HST
  go_wp2_with fail
  go_ret2
  exact⟨by rw[<-HFT.o,HC0.o];rfl,HB9.o⟩
 have HP:Hid (rW a=[]):=by unfold Hid rW;rw[if_neg hc]
 have e1:(ckA a !=0)=true:=by simpa using hc
 have HB2:=hId (zA HBW.o HB1.o HBW.o.size);clear hc
 go_wp2_with fail
 go_ret2
 exact⟨by rw[HP.o];rfl,HB2.o⟩
end
section
open Go Go.RowKit
def zBZ:List UInt8:=fS yT
theorem zEi:zBZ=[115,116,97,116,101,115,32,49,32,108,101,116,116,101,114,115,32,50,10,102,105,114,115,116,32,48,10,103,111,111,100,32,48,10,48,32,48,32,48,10]:=by decide +kernel
theorem zIv:nK yT [true]:=⟨rfl,fun q e d=>by
 have:q=0:=by have:q<1:=d;omega
 subst this;exact⟨fun _=>.first (by simp[yT]),fun _=>rfl⟩⟩
theorem zF6:yW yT=yT:=by rw[zA8 bJ zIv];decide +kernel
theorem zFg (A B C:Option Addr) (ca cb cc:Nat) (w:World) (d:xR w) (g:zM w 0 yT A B C ca cb cc):
  Calls Tryz.prog 54 #[.agg #[(1:Int),(2:Int),.slice A 1 ca,.slice B 1 cb,.slice C 1 cc]] w fun e w'=>e=.returned (.tuple #[.string (sB zBZ),(0:Int)])/\Below w w w':=by
 have:=zHX yT A B C ca cb cc w d g
 rwa[show rW yT=zBZ from if_pos bJ,bJ] at this
theorem zFw (w:World) (d:xR w):Calls Tryz.prog 55 #[.string (sB zBZ)] w fun e w'=>∃A B C ca cb cc,e=.returned (.tuple #[.agg #[(1:Int),(2:Int),.slice A 1 ca,.slice B 1 cb,.slice C 1 cc],(0:Int),(0:Int)])/\zM w' 0 yT A B C ca cb cc/\Below w w w':=by
 have:=zII zBZ w d
 rwa[show gZ zBZ=(yT,0,0) from zDC bJ (by rw[show fS yT=zBZ from rfl,zEi];decide)] at this
theorem zG0 (A B C:Option Addr) (ca cb cc:Nat) (w:World) (d:zM w 0 yT A B C ca cb cc):
  Calls Tryz.prog 20 #[.agg #[(1:Int),(2:Int),.slice A 1 ca,.slice B 1 cb,.slice C 1 cc]] w fun e w'=>∃A B C ca cb cc,e=.returned (.tuple #[.agg #[(1:Int),(2:Int),.slice A 1 ca,.slice B 1 cb,.slice C 1 cc],(0:Int)])/\zM w' 0 yT A B C ca cb cc/\Below w w w':=by
 have:=zK7 yT A B C ca cb cc w d
 rwa[zF6,bJ] at this
theorem zFx (A B C:Option Addr) (ca cb cc:Nat) (w:World) (d:zM w 0 yT A B C ca cb cc):
  Calls Tryz.prog 48 #[.agg #[(1:Int),(2:Int),.slice A 1 ca,.slice B 1 cb,.slice C 1 cc]] w fun e w'=>e=.returned (.int .i64 0)/\Below w w w':=by
 have:=kQ yT A B C ca cb cc w d
 rwa[bJ] at this
theorem zCx (A B C D E F:Option Addr) (ca cb cc cd ce cf:Nat) (w:World) (d:zM w 0 yT A B C ca cb cc) (g:zM w 0 yT D E F cd ce cf):
  Calls Tryz.prog 28 #[.agg #[(1:Int),(2:Int),.slice A 1 ca,.slice B 1 cb,.slice C 1 cc],.agg #[(1:Int),(2:Int),.slice D 1 cd,.slice E 1 ce,.slice F 1 cf]] w fun e w'=>e=.returned (.bool true)/\Below w w w':=
 dI yT A B C D E F ca cb cc cd ce cf w d g
theorem zCJ (W:World) (o:Obj):(W.alloc o).heap[W.heap.size]?=some o:=by
 show(W.heap.push _)[W.heap.size]?=_
 simp
theorem zD1 (w:World) (hL:xR w):Calls Tryz.prog 13 #[] w fun e w'=>e=.returned (.bool true)/\Below w w w':=by
 have HL:=hId (fun W (h:Below w w W)=>hL.below h nLe)
 clear hL
 go_enter Tryz.func13,Tryz.ntmps13
 go_wp2_with fail
 refine(tU w).mono ?_;rintro e w1 ⟨A1,B1,C1,ca1,cb1,cc1,rfl,hr1,hb1⟩;have HB1:=hId hb1;have HC1:=hId (zFg A1 B1 C1 ca1 cb1 cc1 w1 (HL.o _ hb1) hr1);clear hb1 hr1
 go_wp2_with fail
 refine HC1.o.mono ?_;rintro e w2 ⟨rfl,hb2⟩;have K:=hId (zA HB1.o hb2 HB1.o.size);have HC2:=hId (zFw w2 (HL.o _ K.o));clear hb2 HC1 HB1
 go_wp2_with fail
 refine HC2.o.mono ?_;rintro e w3 ⟨A3,B3,C3,i,m,u,rfl,hr3,hb3⟩;have d:Below w3 w3 (w3.alloc (.cells #[(1:Int),(2:Int),.slice A3 1 i,.slice B3 1 m,.slice C3 1 u] 31)):=bLa
 have HB3:Hid (Below w w (w3.alloc (.cells #[(1:Int),(2:Int),.slice A3 1 i,.slice B3 1 m,.slice C3 1 u] 31))):=zA (zA K.o hb3 K.o.size) d (Nat.le_trans K.o.size hb3.size)
 have HR3:=hId (hr3.below d);have HX:=hId (zCJ w3 (.cells #[(1:Int),(2:Int),.slice A3 1 i,.slice B3 1 m,.slice C3 1 u] 31));clear hr3 d hb3 HC2 K
 go_wp2_with fail
 obtain⟨X,hX⟩:∃X,X=w3.heap.size:=⟨_,rfl⟩;rw[<-hX] at HX ⊢;clear hX;generalize w3.alloc (.cells #[(1:Int),(2:Int),.slice A3 1 i,.slice B3 1 m,.slice C3 1 u] 31)=W3 at *;refine(tU W3).mono ?_
 rintro e w4 ⟨A4,B4,C4,ca4,cb4,cc4,rfl,hr4,hb4⟩;have N:=hId hb4;have HC4:=hId (zG0 A4 B4 C4 ca4 cb4 cc4 w4 hr4);clear hb4 hr4
 go_wp2_with fail
 refine HC4.o.mono ?_;rintro e w5 ⟨A5,B5,C5,j,s,J,rfl,hr5,hb5⟩;have d:Below w5 w5 (w5.alloc (.cells #[(1:Int),(2:Int),.slice A5 1 j,.slice B5 1 s,.slice C5 1 J] 31)):=bLa
 have O:Hid (Below W3 W3 (w5.alloc (.cells #[(1:Int),(2:Int),.slice A5 1 j,.slice B5 1 s,.slice C5 1 J] 31))):=zA (zA N.o hb5 N.o.size) d (Nat.le_trans N.o.size hb5.size)
 have HR5:=hId (hr5.below d);have HY:=hId (zCJ w5 (.cells #[(1:Int),(2:Int),.slice A5 1 j,.slice B5 1 s,.slice C5 1 J] 31));clear hr5 d hb5 HC4 N;obtain⟨Y,hY⟩:∃Y,Y=w5.heap.size:=⟨_,rfl⟩
 go_upto_region 4 with fail
 rw[<-hY] at HY ⊢;clear hY;generalize w5.alloc (.cells #[(1:Int),(2:Int),.slice A5 1 j,.slice B5 1 s,.slice C5 1 J] 31)=W5 at *;have HR3':=hId (HR3.o.below O.o)
 have g:Hid (∀ W,Below W5 W5 W->(W.cell? ⟨X,0,none⟩=some (.int .i64 1)/\W.cell? ⟨X,1,none⟩=some (.int .i64 2)/\W.cell? ⟨X,2,none⟩=some (.slice A3 1 i)/\W.cell? ⟨X,3,none⟩=some (.slice B3 1 m)/\W.cell? ⟨X,4,none⟩=some (.slice C3 1 u))/\(W.cell? ⟨Y,0,none⟩=some (.int .i64 1)/\W.cell? ⟨Y,1,none⟩=some (.int .i64 2)/\W.cell? ⟨Y,2,none⟩=some (.slice A5 1 j)/\W.cell? ⟨Y,3,none⟩=some (.slice B5 1 s)/\W.cell? ⟨Y,4,none⟩=some (.slice C5 1 J))):=fun W hW=>by
  have hx:=(O.o.block X (gLt HX.o)).trans HX.o;have h1:=(hW.block X (gLt hx)).trans hx;have h2:=(hW.block Y (gLt HY.o)).trans HY.o;obtain⟨a0,a1,a2,a3,a4,_⟩:=zZ h1;obtain⟨b0,b1,b2,b3,b4,_⟩:=zZ h2
  exact⟨⟨a0,a1,a2,a3,a4⟩,b0,b1,b2,b3,b4⟩
 have HW5:Hid (Below w w W5):=zA HB3.o O.o HB3.o.size
 obtain⟨⟨x0,x1,x2,x3,x4⟩,y0,y1,y2,y3,y4⟩:=g.o W5 bRf
 have e1:((sB zBZ).toList==[115,116,97,116,101,115,32,49,32,108,101,116,116,101,114,115,32,50,10,102,105,114,115,116,32,48,10,103,111,111,100,32,48,10,48,32,48,32,48,10])=true:=by
  rw[vN,zEi];rfl
 clear HB3 HR3 HX HY O
 go_region_held3 (fun w'=>(w'.cell? ⟨X,0,none⟩=some (.int .i64 1)/\w'.cell? ⟨X,1,none⟩=some (.int .i64 2)/\w'.cell? ⟨X,2,none⟩=some (.slice A3 1 i)/\w'.cell? ⟨X,3,none⟩=some (.slice B3 1 m)/\w'.cell? ⟨X,4,none⟩=some (.slice C3 1 u))/\(w'.cell? ⟨Y,0,none⟩=some (.int .i64 1)/\w'.cell? ⟨Y,1,none⟩=some (.int .i64 2)/\w'.cell? ⟨Y,2,none⟩=some (.slice A5 1 j)/\w'.cell? ⟨Y,3,none⟩=some (.slice B5 1 s)/\w'.cell? ⟨Y,4,none⟩=some (.slice C5 1 J)))
  (first|go_keep|exact g.o _ ((Below.refl _ W5).drew)|exact qq)
  (first
   |(go_at_call 28;refine(zCx A5 B5 C5 Ae Be Ce j s J cae cbe cce _ (HR5.o.below h0.o) HRE.o).mono ?_;rintro e wf ⟨rfl,hbf⟩;have HBF:=hId (zA h0.o hbf h0.o.size);have qq:=g.o _ HBF.o)
   |(go_at_call 40;refine(tU _).mono ?_;rintro e we ⟨Ae,Be,Ce,cae,cbe,cce,rfl,hre,hbe⟩;have h0:=hId (zA HBD.o hbe HBD.o.size);have HRE:=hId hre;have qq:=g.o _ h0.o)
   |(go_at_call 28;refine(zCx A3 B3 C3 Ac Bc Cc i m u cac cbc ccc _ (HR3'.o.below U.o) HRC.o).mono ?_;rintro e wd ⟨rfl,hbd⟩;have HBD:=hId (zA U.o hbd U.o.size);have qq:=g.o _ HBD.o)
   |(go_at_call 40;refine(tU _).mono ?_;rintro e wc ⟨Ac,Bc,Cc,cac,cbc,ccc,rfl,hrc,hbc⟩;have U:=hId (zA HBB.o hbc HBB.o.size);have HRC:=hId hrc;have qq:=g.o _ U.o)
   |(go_at_call 48;refine(zFx Aa Ba Ca caa cba cca _ HRA.o).mono ?_;rintro e wb ⟨rfl,hbb⟩;have HBB:=hId (zA HBA.o hbb HBA.o.size);have qq:=g.o _ HBB.o)
   |(go_at_call 40;refine(tU _).mono ?_;rintro e wa ⟨Aa,Ba,Ca,caa,cba,cca,rfl,hra,d⟩;have HBA:=hId (zA ((Below.refl _ W5).drew) d nLe);have HRA:=hId hra;have qq:=g.o _ HBA.o))
 all_goals
  have HP:Hid (Below w w wf):=zA HW5.o HBF.o HW5.o.size
  go_wp2_with fail
  go_ret
  exact⟨rfl,HP.o⟩
end
section
open Go Go.RowKit Go.Shelf
attribute [local go_sem] Oper.semAt_some
structure zBf (W:World) (K V:Nat) (a:Au) (A B C:Option Addr) (ca cb cc:Nat) (row:List Int) (D:Option Addr) (cr back:Nat):Prop where
 lt:K<W.heap.size
 c3:W.cell? ⟨K,3,none⟩=some (.slice B a.gs.length cb)
 c5:W.cell? ⟨K,5,none⟩=some (.slice D row.length cr)
 c6:W.cell? ⟨K,6,none⟩=some (.int .i64 back)
 c7:W.cell? ⟨K,7,none⟩=some (.func (.func 89) #[] #[(⟨V,0,none⟩:Addr)])
 au:yG W V a A B C ca cb cc
 rd:zM W 0 a A B C ca cb cc
 row:zE W 0 D cr row
theorem zBf.below {W W':World} {K V:Nat} {a:Au} {A B C:Option Addr} {ca cb cc:Nat} {row:List Int} {D:Option Addr} {g d:Nat} (h:zBf W K V a A B C ca cb cc row D g d) (e:Below W W W'):zBf W' K V a A B C ca cb cc row D g d:=
 ⟨Nat.lt_of_lt_of_le h.lt e.size,(e.cell (p:=⟨K,3,none⟩) h.lt).trans h.c3,(e.cell (p:=⟨K,5,none⟩) h.lt).trans h.c5,(e.cell (p:=⟨K,6,none⟩) h.lt).trans h.c6,(e.cell (p:=⟨K,7,none⟩) h.lt).trans h.c7,h.au.below e h.au.lt,h.rd.below e,h.row.below e⟩
structure zAG (W:World) (K X Y Z:Nat) (q:Int) (p d:Nat):Prop where
 lx:X<W.heap.size
 ly:Y<W.heap.size
 lz:Z<W.heap.size
 x:W.cell? ⟨X,0,none⟩=some (.pointer (some ⟨K,0,none⟩))
 y0:W.cell? ⟨Y,0,none⟩=some (.int .i64 q)
 y1:W.cell? ⟨Y,1,none⟩=some (.int .i64 p)
 z:W.cell? ⟨Z,0,none⟩=some (.int .i64 d)
theorem zAG.below {W W':World} {m K X Y Z:Nat} {q:Int} {p d:Nat} (h:zAG W K X Y Z q p d) (e:Below m W W') (i:X<m) (g:Y<m) (j:Z<m):zAG W' K X Y Z q p d:=
 ⟨Nat.lt_of_lt_of_le h.lx e.size,Nat.lt_of_lt_of_le h.ly e.size,Nat.lt_of_lt_of_le h.lz e.size,(zT e i).trans h.x,(zT e g).trans h.y0,(zT e g).trans h.y1,(zT e j).trans h.z⟩
def zDE (w:World) (K:Nat) (q:Int) (p d:Nat) (e:Ending) (w':World):Prop:=
 ∃X Y Z,e=.returned (.func (.func 131) #[] #[(⟨X,0,none⟩:Addr),(⟨Y,0,none⟩:Addr),(⟨Z,0,none⟩:Addr)])/\w.heap.size<=X/\w.heap.size<=Y/\w.heap.size<=Z/\zAG w' K X Y Z q p d/\Below w w w'
def spW (w:World) (K:Nat) (q:Int) (p:Nat):World:=
 ((w.alloc (.cells #[(⟨K,0,none⟩:Addr)] 82)).alloc (.cells #[q,p] 90)).alloc (.cells #[.int .i64 ((p:Int)+1)] 3)
theorem zKj (w:World) (K:Nat) (q:Int) (p:Nat):zAG (spW w K q p) K w.heap.size (w.heap.size+1) (w.heap.size+1+1) q p (p+1)/\Below w w (spW w K q p)/\(spW w K q p).heap.size=w.heap.size+1+1+1/\(spW w K q p).frozen? ⟨w.heap.size+1+1,0,none⟩=false:=by
 unfold spW;refine⟨⟨by simp;omega,by simp,by simp,?_,?_,?_,?_⟩,by go_grown,by simp,?_⟩<;>go_simp
theorem zKp (a:Au) (A B C D:Option Addr) (ca cb cc cr K V d:Nat) (row:List Int) (q:Int) (p:Nat) (w:World) (hK:zBf w K V a A B C ca cb cc row D cr d) (hp:p<row.length) (hr:row.length<=8000):
  Calls Tryz.prog 94 #[(⟨K,0,none⟩:Addr),.agg #[q,p]] w (zDE w K q p (if p+1=row.length then d else p+1)):=by
 have e:=hId (zKj w K q p);have HK:=hId hK;clear hK
 go_enter Tryz.func94,Tryz.ntmps94
 go_upto_region 2 with fail
 change Code.wp _ _ _ _ (spW w K q p);generalize spW w K q p=W1 at *;obtain⟨X,hX⟩:∃X,X=w.heap.size:=⟨_,rfl⟩;rw[<-hX] at e ⊢;have hK0:=HK.o.lt
 obtain⟨_,k3,k5,k6,k7,_,_,_⟩:=HK.o.below (show Below w w W1 by rw[<-hX];exact e.o.2.1)
 obtain⟨lx,ly,lz,s,u,J,N⟩:=e.o.1;have HB:=hId e.o.2.1;have i:=hId e.o.2.2.1;have U:=hId e.o.2.2.2;have j:=hId hX;clear hX
 by_cases hpn:p+1=row.length
 ·have h0:((p:Int)+1==(row.length:Int))=true:=by simp;omega
  have g:Hid ((if p+1=row.length then d else p+1)=d):=by show _=_;rw[if_pos hpn]
  generalize (if p+1=row.length then d else p+1)=dd at *
  go_quiet (fail)
  have O:Hid (Below X w (W1.drewN nq)):=zC HB.o nq
  have HS2:Hid (zAG (W1.drewN nq) K X (X+1) (X+1+1) q p (p+1)):=⟨lx,ly,lz,s,u,J,N⟩
  have HSZ2:Hid ((W1.drewN nq).heap.size=X+1+1+1):=i.o
  clear lx ly lz s u J N k3 k5 k6 k7 e HB i;have hfr:(W1.drewN nq).frozen? ⟨X+1+1,0,none⟩=false:=U.o;clear U;generalize W1.drewN nq=W2 at *;obtain⟨lx,ly,lz,s,u,J,N⟩:=HS2.o
  obtain⟨_,k3,k5,k6,k7,_,_,_⟩:=HK.o.below (show Below w w W2 by rw[<-j.o];exact O.o)
  have HP:Hid (zDE w K q p dd (.returned (.func (.func 131) #[] #[(⟨X,0,none⟩:Addr),(⟨X+1,0,none⟩:Addr),(⟨X+1+1,0,none⟩:Addr)])) (W2.setCell ⟨X+1+1,0,none⟩ d)):=by
   have m:=j.o;refine⟨X,X+1,X+1+1,rfl,by omega,by omega,by omega,⟨by simp;omega,by simp;omega,by simp;omega,?_,?_,?_,?_⟩,?_⟩
   ·exact(World.cell?_setCell_other _ ⟨X+1+1,0,none⟩ ⟨X,0,none⟩ _ (fun h=>by have:=congrArg Addr.block h;simp at this;omega)).trans s
   ·exact(World.cell?_setCell_other _ ⟨X+1+1,0,none⟩ ⟨X+1,0,none⟩ _ (fun h=>by have:=congrArg Addr.block h;simp at this)).trans u
   ·exact(World.cell?_setCell_other _ ⟨X+1+1,0,none⟩ ⟨X+1,1,none⟩ _ (fun h=>by have:=congrArg Addr.block h;simp at this)).trans J
   ·rw[g.o];exact World.cell?_setCell_same' _ _ _ (by rw[N];rfl)
   rw[<-m];exact O.o.setCell (p:=⟨X+1+1,0,none⟩) (by show X<=X+1+1;omega) _
  go_wp2_with fail
  go_ret
  exact HP.o
 have h0:((p:Int)+1==(row.length:Int))=false:=by simp;omega
 have g:Hid ((if p+1=row.length then d else p+1)=p+1):=by show _=_;rw[if_neg hpn]
 generalize (if p+1=row.length then d else p+1)=dd at *
 go_quiet (fail)
 have HP:Hid (zDE w K q p dd (.returned (.func (.func 131) #[] #[(⟨X,0,none⟩:Addr),(⟨X+1,0,none⟩:Addr),(⟨X+1+1,0,none⟩:Addr)])) (W1.drewN nq)):=by
  have m:=j.o;refine⟨X,X+1,X+1+1,rfl,by omega,by omega,by omega,⟨lx,ly,lz,s,u,J,by rw[g.o];exact N⟩,?_⟩
  rw[<-m];exact zC HB.o nq
 clear lx ly lz s u J N k3 k5 k6 k7 e HB i;generalize W1.drewN nq=W2 at *
 go_wp2_with fail
 go_ret
 exact HP.o
attribute [local go_sem] Oper.semAt_some
def yK (a:Au) (row:List Int) (q:Int) (p d:Nat) (xs:List Stp):List (Int×Nat):=(xs.filter fun s=>s.l==row.getD p 0).map fun s=>(s.t,d)
theorem tP {a:Au} {row:List Int} {q:Int} {p d:Nat} {xs:List Stp} {s:Stp}:yK a row q p d (xs++[s])=yK a row q p d xs++(if s.l==row.getD p 0 then[(s.t,d)] else[]):=by
 unfold yK;rw[List.filter_append,List.map_append]
 congr 1
 by_cases h:(s.l==row.getD p 0)=true
 ·rw[if_pos h,List.filter_cons,if_pos h];rfl
 rw[if_neg h,List.filter_cons,if_neg h];rfl
theorem nF {a:Au} {row:List Int} {q:Int} {p d:Nat} {xs ys:List Stp} (h:xs<+:ys):yK a row q p d xs<+:yK a row q p d ys:=by
 obtain⟨r,rfl⟩:=h;unfold yK;rw[List.filter_append,List.map_append];exact List.prefix_append _ _
structure uH (w0:World) (Ms Fs:List Nat) (K X Y Z G l:Nat) (q:Int) (p d:Nat) (n:Nat) (W:World):Prop where
 size:n<=W.heap.size
 below:Below w0 w0 W
 sane:kX w0.heap.size Ms Fs W
 sp:zAG W K X Y Z q p d
 gx:yC w0.heap.size Ms Fs W X
 gy:yC w0.heap.size Ms Fs W Y
 gz:yC w0.heap.size Ms Fs W Z
 gg:yC w0.heap.size Ms Fs W G
 cg:W.cell? ⟨G,0,none⟩=some (.func (.yield l) #[] #[])
theorem uH.off {w0 W W':World} {Ms Fs:List Nat} {K X Y Z G l:Nat} {q:Int} {p d n:Nat} (h:uH w0 Ms Fs K X Y Z G l q p d n W) (e:Off w0.heap.size Ms Fs W W'):uH w0 Ms Fs K X Y Z G l q p d n W':=
 ⟨Nat.le_trans h.size e.size,zA h.below (e.below h.sane h.below.size) nLe,e.sane,
  ⟨(h.gx.off e).lt,(h.gy.off e).lt,(h.gz.off e).lt,(h.gx.cell e).trans h.sp.x,(h.gy.cell e).trans h.sp.y0,(h.gy.cell e).trans h.sp.y1,(h.gz.cell e).trans h.sp.z⟩,
  h.gx.off e,h.gy.off e,h.gz.off e,h.gg.off e,(h.gg.cell e).trans h.cg⟩
theorem uH.put {w0 W:World} {Ms Fs:List Nat} {K X Y Z G l:Nat} {q:Int} {p d n:Nat} (N:∀k∈Ms,k<n) (g:∀k∈Fs,k<n) (s:X<n) (u:Y<n) (J:Z<n) (j:G<n) (i:w0.heap.size<=n) {W':World} (h:uH w0 Ms Fs K X Y Z G l q p d n W) (e:Below n W W') (m:kX w0.heap.size Ms Fs W'):uH w0 Ms Fs K X Y Z G l q p d n W':=
 ⟨Nat.le_trans h.size e.size,zA h.below e i,m,h.sp.below e s u J,h.gx.below g e,h.gy.below g e,h.gz.below g e,h.gg.below g e,(zT e j).trans h.cg⟩
theorem uH.own {β:Type} {w0:World} {Ms Fs:List Nat} {K X Y Z G l:Nat} {q:Int} {p d n:Nat} (s:∀k∈Ms,k<n) (i:∀k∈Fs,k<n) (N:X<n) (O:Y<n) (U:Z<n) (u:G<n) (m:w0.heap.size<=n):OwnFrom n (fun(_:β) W=>uH w0 Ms Fs K X Y Z G l q p d n W):=fun _ A B row h g j=>
 h.put s i N O U u m ⟨g.os,g.tape,g.output,g.size,fun k J=>g.block k (Nat.lt_of_lt_of_le J h.size) fun e=>by have:=(j k e.symm).1;omega⟩ (h.sane.own i g j)
def spE (y:Int×Nat):Array Value:=#[Value.agg #[y.1,y.2]]
theorem zCS (a:Au) (A B C D:Option Addr) (ca cb cc cr K V X Y Z back:Nat) (row:List Int) (q:Int) (p d:Nat) (Ms Fs:List Nat) (w0 w:World) (hK:zBf w0 K V a A B C ca cb cc row D cr back) (hb0:Below w0 w0 w)
  (hS:zAG w K X Y Z q p d) (hF:∀F∈Fs,F<w.heap.size) (hX2:¬Bad Ms Fs w X) (hY2:¬Bad Ms Fs w Y) (hZ2:¬Bad Ms Fs w Z) (hp:p<row.length) (ho:xV a.ss) (hl:a.ss.length<=6000) (m:Nat) (hm:2<=m):
  zGz m Tryz.prog 131 #[(⟨X,0,none⟩:Addr),(⟨Y,0,none⟩:Addr),(⟨Z,0,none⟩:Addr)] spE (KpO w0.heap.size Ms Fs) (kX w0.heap.size Ms Fs) (yK a row q p d (zG a q)) w:=by
 intro l J Jx W hW hsane hJ hJx hY h0;have hBW:Below w0 w0 W:=zA hb0 hW hb0.size;have HGX:Hid (yC w0.heap.size Ms Fs W X):=(yC.mk hS.lx hX2).below hF hW
 have HGY:Hid (yC w0.heap.size Ms Fs W Y):=(yC.mk hS.ly hY2).below hF hW
 have HGZ:Hid (yC w0.heap.size Ms Fs W Z):=(yC.mk hS.lz hZ2).below hF hW
 have hSW:=hS.below hW hS.lx hS.ly hS.lz
 have HAT:Hid (∀ wr,Off w0.heap.size Ms Fs W wr->Below w0 w0 wr/\zAG wr K X Y Z q p d):=fun wr hr=>
  ⟨zA hBW (hr.below hsane hBW.size) nLe,⟨(HGX.o.off hr).lt,(HGY.o.off hr).lt,(HGZ.o.off hr).lt,(HGX.o.cell hr).trans hSW.x,(HGY.o.cell hr).trans hSW.y0,(HGY.o.cell hr).trans hSW.y1,(HGZ.o.cell hr).trans hSW.z⟩⟩
 have HK:=hId hK;have HJ:=hId hJ;have HJX:=hId hJx;have HY:=hId hY;have H0:=hId h0;have HSA:=hId hsane;have HBW:=hId hBW;have hsz:=hBW.size;clear hJ hJx hY h0 hsane hBW hSW hX2 hY2 hZ2 hF hW hb0 hS
 have hfm:m<=m:=nLe
 refine callsIn_of_wp_marks Tryz.func131 rfl trivial ?_
 simp only[Tryz.ntmps131,List.size_toArray,List.length_cons,List.length_nil,Nat.reduceAdd,Nat.reduceSub,Array.replicate_succ,Array.replicate_zero,List.push_toArray,List.append_toArray,List.nil_append,List.cons_append]
 have HO1:Hid (Off w0.heap.size Ms Fs W (W.alloc (.cells #[.func (.yield l) #[] #[]] 179))):=Off.of_below HSA.o (bLa)
 have HW1:Hid (Below W W (W.alloc (.cells #[.func (.yield l) #[] #[]] 179))):=bLa
 have HGG:Hid (yC w0.heap.size Ms Fs (W.alloc (.cells #[.func (.yield l) #[] #[]] 179)) W.heap.size):=yC.new HSA.o HW1.o nLe (by simp)
 have HCG:Hid ((W.alloc (.cells #[.func (.yield l) #[] #[]] 179)).cell? ⟨W,0,none⟩=some (.func (.yield l) #[] #[])):=by show _=_;go_simp
 gi_wp2
 refine vX 6 (by kernel_rfl) (by kernel_rfl) ?_
 intro X0 h4;simp only[List.take_succ_cons,List.take_zero];generalize W.alloc (.cells #[.func (.yield l) #[] #[]] 179)=W1 at *;obtain⟨hb1,lx,ly,lz,x0,y0,y1,z0⟩:=HAT.o W1 HO1.o
 obtain⟨_,k3,k5,k6,k7,_,_,_⟩:=HK.o.below hb1
 repeat(gi_big_quiet_step (fail))
 refine wpQuietIn_nil ?_;refine h4 _ ?_;clear h4 X0;intro nq;simp only[List.drop_succ_cons,List.drop_zero];have HO2:Hid (Off w0.heap.size Ms Fs W (W1.drewN nq)):=HO1.o.trans (Off.of_below HO1.o.sane (zC bRf nq))
 clear hb1 lx ly lz x0 y0 y1 z0 k3 k5 k6 k7;have HOG2:Hid (Off w0.heap.size Ms Fs W1 (W1.drewN nq)):=Off.of_below HO1.o.sane (zC bRf nq);have HW2:Hid (Below W W (W1.drewN nq)):=zC HW1.o nq
 generalize W1.drewN nq=W2 at *
 gi_wp2
 refine⟨trivial,fun h=>(by cases h),?_⟩
 refine(callsIn_wide.2 (zCg a A B C ca cb cc V q W2 (HK.o.au.below (HAT.o W2 HO2.o).1 HK.o.au.lt) (HK.o.rd.ss.below (HAT.o W2 HO2.o).1) ho (Nat.le_trans hl (by decide)))).mono ?_
 rintro e i ⟨X3,Y3,i3,rfl,hX3,hY3,hN3,hlb3,hb3⟩;have u:Hid (Off w0.heap.size Ms Fs W i):=HO2.o.trans (Off.of_below HO2.o.sane hb3);have HN3:=hId hN3;have HLB3:=hId hlb3
 have HGX3:Hid (yC w0.heap.size Ms Fs i X3):=yC.new HO2.o.sane hb3 hX3 hN3.lx
 have HGY3:Hid (yC w0.heap.size Ms Fs i Y3):=yC.new HO2.o.sane hb3 hY3 hN3.ly
 have HOG:Hid (Off w0.heap.size Ms Fs W1 i):=HOG2.o.trans (Off.of_below HO2.o.sane hb3)
 have HW3:Hid (Below W W i):=zA HW2.o hb3 HW2.o.size
 clear hN3 hlb3 hb3 hX3 hY3
 gi_wp2
 have HST:Hid (uH w0 Ms Fs K X Y Z W.heap.size l q p d i.heap.size i):=⟨nLe,(HAT.o i u.o).1,u.o.sane,(HAT.o i u.o).2,HGX.o.off u.o,HGY.o.off u.o,HGZ.o.off u.o,HGG.o.off HOG.o,(HGG.o.cell HOG.o).trans HCG.o⟩
 have HJ3:Hid (J (yK a row q p d []) i):=HJ.o [] W i none H0.o ⟨u.o.os,u.o.tape,u.o.output,u.o.size,fun k hk _=>HW3.o.block k hk⟩ (fun r e=>by cases e)
 have hMs:∀k∈Ms,k<i.heap.size:=fun k hk=>(u.o.sane.bad k (.inl hk)).2
 have hFs:∀k∈Fs,k<i.heap.size:=fun k hk=>u.o.sane.F_lt hk
 have hX3:X<i.heap.size:=HST.o.gx.lt
 have hY3:Y<i.heap.size:=HST.o.gy.lt
 have hZ3:Z<i.heap.size:=HST.o.gz.lt
 have hG3:W.heap.size<i.heap.size:=HST.o.gg.lt
 have hlo3:w0.heap.size<=i.heap.size:=HST.o.below.size
 have hWW:W.heap.size<=i.heap.size:=by omega
 have hX3':=HN3.o.lx
 refine wF (gf:=93) (lb:=#[.pointer (some ⟨V,0,none⟩),.pointer (some ⟨X3,0,none⟩),.pointer (some ⟨Y3,0,none⟩)]) (by omega) rfl (enters_of Tryz.func93 (by kernel_rfl) rfl)
  (zCV a A B C ca cb cc V X3 Y3 i3 q ((i.heap.size+1)::Ms) Fs w0 i HK.o.au HK.o.rd.ss HST.o.below HN3.o.x HN3.o.y HN3.o.lx HN3.o.ly hFs
   (fun h=>h.of_cons.elim (fun h=>by omega) HGX3.o.not) (fun h=>h.of_cons.elim (fun h=>by have:=HN3.o.ly;omega) HGY3.o.not) ho (Nat.le_trans hl (by decide)) HLB3.o (m-1) (by omega))
  (fun h1 h2=>h1.trans h2) ?kb ?sane bRf (fun _=>rfl)
  (fun g W'=>J (yK a row q p d g) W'/\uH w0 Ms Fs K X Y Z W.heap.size l q p d i.heap.size W')
  (fun c g W'=>c=.ret/\∃j,j<+:yK a row q p d (zG a q)/\Jx j W')
  ?hI ?hIx ?h0
  (fun s a' W'=>∃S,W'.cell? ⟨S,0,none⟩=some (.int .i64 s.f)/\W'.cell? ⟨S,1,none⟩=some (.int .i64 s.l)/\W'.cell? ⟨S,2,none⟩=some (.int .i64 s.t)/\
   a'={tmps:=#[.func (.yield l) #[] #[],.pointer (some ⟨X,0,none⟩),.pointer (some ⟨Y,0,none⟩),.pointer (some ⟨Z,0,none⟩),.pointer (some ⟨W,0,none⟩),.pointer (some ⟨S,0,none⟩),.pointer (some ⟨K,0,none⟩),.pointer (some ⟨K,0,none⟩),.pointer (some ⟨K,7,none⟩),.func (.func 89) #[] #[(⟨V,0,none⟩:Addr)],.pointer (some ⟨Y,0,none⟩),.int .i64 q,.func (.func 93) #[] #[(⟨V,0,none⟩:Addr),(⟨X3,0,none⟩:Addr),(⟨Y3,0,none⟩:Addr)],.agg #[s.f,s.l,s.t],undef,undef,undef,undef,undef,undef,undef,undef,undef,undef,undef,undef,undef,undef,undef,undef,undef,undef,undef,undef],defers:=[]})
  ?hAx ?assign ?body ?done ?stop
 case kb=>
  intro W' r r' h hs;exact Off.put hs (List.mem_cons_self ..) h rfl rfl
 case sane=>
  intro r;have h1:Below i i ((i.alloc (.deferred (some []))).alloc (.loop r)):=(bLa).alloc (by simp) _
  exact(Off.of_below u.o.sane h1).sane.cons (by omega) (by simp)
 case hI=>exact OwnFrom.and (OwnFrom.comp (OwnFrom.mono (I:=J) HJ.o hWW) (fun g=>yK a row q p d g)) (uH.own hMs hFs hX3 hY3 hZ3 hG3 hlo3)
 case hIx=>exact fun _ s A B row hs hg hr=>by obtain⟨h0,j,h1,h2⟩:=hs;exact⟨h0,j,h1,(OwnFrom.mono (I:=Jx) HJX.o hWW) j A B row h2 hg hr⟩
 case h0=>exact⟨HJ3.o,HST.o⟩
 case hAx=>
  rintro s a' _ A B row ⟨S,h0,h1,h2,h3⟩ hg hr;exact⟨S,cell_kept h0 hg (fun r e=>(hr r e).2),cell_kept h1 hg (fun r e=>(hr r e).2),cell_kept h2 hg (fun r e=>(hr r e).2),h3⟩
 case assign=>
  rintro l' g s W' KK ⟨hj,O⟩ hKK;have h1:Below W' W' (W'.alloc (.cells #[s.f,s.l,s.t] 80)):=bLa
  have HP:=hId (hKK {tmps:=#[.func (.yield l) #[] #[],.pointer (some ⟨X,0,none⟩),.pointer (some ⟨Y,0,none⟩),.pointer (some ⟨Z,0,none⟩),.pointer (some ⟨W,0,none⟩),.pointer (some ⟨W',0,none⟩),.pointer (some ⟨K,0,none⟩),.pointer (some ⟨K,0,none⟩),.pointer (some ⟨K,7,none⟩),.func (.func 89) #[] #[(⟨V,0,none⟩:Addr)],.pointer (some ⟨Y,0,none⟩),.int .i64 q,.func (.func 93) #[] #[(⟨V,0,none⟩:Addr),(⟨X3,0,none⟩:Addr),(⟨Y3,0,none⟩:Addr)],.agg #[s.f,s.l,s.t],undef,undef,undef,undef,undef,undef,undef,undef,undef,undef,undef,undef,undef,undef,undef,undef,undef,undef,undef,undef],defers:=[]}
   (W'.alloc (.cells #[s.f,s.l,s.t] 80)) ((KeepsOthers.alloc _ _).from _) (KpO.of_below h1) ⟨OwnFrom.alloc (I:=J) HJ.o _ hj,O.off (Off.of_below O.sane h1)⟩ ⟨W'.heap.size,by go_simp,by go_simp,by go_simp,rfl⟩)
  clear hj O hKK h1
  gi_wp2
  exact HP.o
 case body=>
  rintro l' g s a' W' hl' hrec ⟨hj,O⟩ ⟨S,s0,s1,s2,rfl⟩ hpre;obtain⟨lx,ly,lz,x0,y0,y1,z0⟩:=O.sp;obtain⟨_,k3,k5,k6,k7,_,_,_⟩:=HK.o.below O.below;obtain⟨b,o,rfl,_,_,r0⟩:=zE.at_ (HK.o.row.below O.below) hp
  have cg:=O.cg;have N:=hId O;have HJB:=hId hj;have HPR:=hId hpre;obtain⟨rp,hrp⟩:∃r,r=row[p]:=⟨_,rfl⟩
  have HRP:Hid (row.getD p 0=rp):=by show _=_;rw[hrp,List.getD_eq_getElem?_getD,List.getElem?_eq_getElem hp];rfl
  rw[<-hrp] at r0;clear O hj hpre hrec hrp
  by_cases hlet:s.l=rp
  ·have hle1:(s.l==rp)=true:=by simp[hlet]
   gi_wp2
   refine vX 17 (by kernel_rfl) (by kernel_rfl) ?_
   intro X0 h4;simp only[List.take_succ_cons,List.take_zero]
   repeat(gi_big_quiet_step (fail))
   refine wpQuietIn_nil ?_;refine h4 _ ?_;clear h4 X0;intro nq;simp only[List.drop_succ_cons,List.drop_zero];have U:Hid (Off w0.heap.size Ms Fs W' (W'.drewN nq)):=Off.of_below N.o.sane (zC bRf nq)
   have HJ4:Hid (J (yK a row q p d g) (W'.drewN nq)):=HJ.o _ W' _ none HJB.o ⟨rfl,rfl,rfl,nLe,fun k hk _=>rfl⟩ (fun r e=>by cases e)
   clear lx ly lz x0 y0 y1 z0 k3 k5 k6 k7 cg s0 s1 s2 r0;generalize W'.drewN nq=W4 at *
   have HSN:Hid (yK a row q p d (g++[s])=yK a row q p d g++[(s.t,d)]):=by
    show _=_;rw[tP,HRP.o,if_pos hle1]
   obtain⟨fn,tmps,assign,body,hy,hR⟩:=HY.o (yK a row q p d g) (s.t,d) W4 HJ4.o (by rw[<-HSN.o];exact nF HPR.o)
   dsimp only[spE] at hy
   have HRR:=hId hR;clear hR
   gi_wp2
   refine zFC HRR.o ?_;rintro e W5 (⟨rfl,hJ5,hk5⟩|⟨rfl,hJ5,hk5⟩)
   ·have HO5:Hid (Off w0.heap.size Ms Fs W' W5):=U.o.trans (hk5 U.o.sane)
    have HJ5:Hid (J (yK a row q p d (g++[s])) W5):=by show J _ _;rw[HSN.o];exact hJ5
    clear hJ5 hk5
    have HP:Hid (KeepsFrom i.heap.size W' W5/\KpO w0.heap.size ((i.heap.size+1)::Ms) Fs W' W5/\J (yK a row q p d (g++[s])) W5/\uH w0 Ms Fs K X Y Z W.heap.size l q p d i.heap.size W5):=
     ⟨HO5.o.keeps N.o.sane hMs hFs,fun hs=>HO5.o.cons (by omega) (hs.bad _ (.inl (List.mem_cons_self ..))).2,HJ5.o,N.o.off HO5.o⟩
    gi_wp2
    exact HP.o
   have HO5:Hid (Off w0.heap.size Ms Fs W' W5):=U.o.trans (hk5 U.o.sane)
   have HP:Hid (KeepsFrom i.heap.size W' W5/\KpO w0.heap.size ((i.heap.size+1)::Ms) Fs W' W5/\Code.ret=Code.ret/\∃j,j<+:yK a row q p d (zG a q)/\Jx j W5):=
    ⟨HO5.o.keeps N.o.sane hMs hFs,fun hs=>HO5.o.cons (by omega) (hs.bad _ (.inl (List.mem_cons_self ..))).2,rfl,_,by rw[<-HSN.o];exact nF HPR.o,hJ5⟩
   clear hJ5 hk5
   gi_wp2
   exact⟨HP.o.1,HP.o.2.1,rfl,HP.o.2.2.2⟩
  have hle1:(s.l==rp)=false:=by simp[hlet]
  gi_wp2
  refine vX 17 (by kernel_rfl) (by kernel_rfl) ?_
  intro X0 h4;simp only[List.take_succ_cons,List.take_zero]
  repeat(gi_big_quiet_step (fail))
  refine wpQuietIn_nil ?_;refine h4 _ ?_;clear h4 X0;intro nq;simp only[List.drop_succ_cons,List.drop_zero];have U:Hid (Off w0.heap.size Ms Fs W' (W'.drewN nq)):=Off.of_below N.o.sane (zC bRf nq)
  have HJ4:Hid (J (yK a row q p d g) (W'.drewN nq)):=HJ.o _ W' _ none HJB.o ⟨rfl,rfl,rfl,nLe,fun k hk _=>rfl⟩ (fun r e=>by cases e)
  clear lx ly lz x0 y0 y1 z0 k3 k5 k6 k7 cg s0 s1 s2 r0;generalize W'.drewN nq=W4 at *
  have HSN:Hid (yK a row q p d (g++[s])=yK a row q p d g):=by
   show _=_;rw[tP,HRP.o,if_neg (by rw[hle1];decide),List.append_nil]
  have HP:Hid (KeepsFrom i.heap.size W' W4/\KpO w0.heap.size ((i.heap.size+1)::Ms) Fs W' W4/\J (yK a row q p d (g++[s])) W4/\uH w0 Ms Fs K X Y Z W.heap.size l q p d i.heap.size W4):=
   ⟨U.o.keeps N.o.sane hMs hFs,fun hs=>U.o.cons (by omega) (hs.bad _ (.inl (List.mem_cons_self ..))).2,by rw[HSN.o];exact HJ4.o,N.o.off U.o⟩
  gi_wp2
  refine⟨fun _ h=>(by cases h),?_⟩
  gi_wp2
  exact HP.o
 case done=>
  rintro Dm W' hDm ⟨hj,_⟩ hD;have HP:Hid (J (yK a row q p d (zG a q)) (W'.putObj Dm (.deferred none))):=OwnFrom.putObj (I:=J) HJ.o _ hj (by omega) hD rfl
  clear hj
  gi_wp2
  refine⟨by simp,.inl ⟨_,_,rfl,run_takeDeferred hD,?_⟩⟩
  exact⟨_,results_none rfl _ _ _,⟨_,rfl⟩,.inl HP.o⟩
 case stop=>
  rintro Dm c g W' hDm hpre ⟨rfl,j,h1,h2⟩ hD;have HP:Hid (∃ g,g<+:yK a row q p d (zG a q)/\Jx g (W'.putObj Dm (.deferred none))):=⟨j,h1,OwnFrom.putObj (I:=Jx) HJX.o _ h2 (by omega) hD rfl⟩
  clear h2
  gi_wp2
  refine⟨by simp,.inl ⟨_,_,rfl,run_takeDeferred hD,?_⟩⟩
  exact⟨_,results_none rfl _ _ _,⟨_,rfl⟩,.inr HP.o⟩
end
end Go.Proofs.YtoglgeaiiipchaaGreatDoor
