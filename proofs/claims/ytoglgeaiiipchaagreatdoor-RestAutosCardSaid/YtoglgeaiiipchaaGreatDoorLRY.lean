/- The statement RestAutos, and its card: for every input the law returns true, and its input reads as it did. -/
import Derived.Test.YtoglgeaiiipchaaGreatDoorLRY24
import Derived.ChangeMaps5
import Derived.Test.YtoglgeaiiipchaaGreatDoorCards
import Derived.Test.YtoglgeaiiipchaaGreatDoorTie
import Derived.LaidMore
import Derived.Lay
import Derived.LaidLaws
import Derived.Stop.Joined
import Derived.SevenTiedAt
set_option linter.unusedSimpArgs false
set_option linter.unusedVariables false
set_option maxRecDepth 100000
set_option maxHeartbeats 8000000
namespace Go.Proofs.YtoglgeaiiipchaaGreatDoor
section
open Go Go.ChangeShapes Go.WideShapes Go.ChangeAt Go.RowKit Go.Deep Go.Joins
section
variable {H:Type} {enc:TypeId×Value->H} {P:Program} {w:World} {spare:Nat->Bool} {held:Bool}
theorem zJO {α:Type} {cs:Array α} (h:cs.size=5):∃d e g i j,cs=#[d,e,g,i,j]:=by
 obtain⟨l⟩:=cs
 match l,h with
 |[d,e,g,i,j],_=>exact⟨d,e,g,i,j,rfl⟩
theorem zHk {t:TypeId} {fs:Array Field} {n base:Nat} {cs:List Value} {x:DataW H×List MemPlace} (J:P.underlying t=some (.struct fs)) (d:oneCellFields P fs=true) (h:DataW.trod enc P w base spare held n t cs=some x):
  ∃(ys:List (DataW H×List MemPlace)) (m:Nat),x.1=.agg (ys.map Prod.fst)/\ys.length=fs.size/\∀j f,fs[j]?=some f->DataW.trod enc P w base spare held m f.type ((cs.drop j).take 1)=ys[j]?:=by
 obtain⟨ys,K,u,rfl,i,e,s⟩:=DataW.trod_struct J h;refine⟨ys,K,rfl,e,fun j f g=>?_⟩
 obtain⟨o,k⟩:=hone_of d j f g;have:=s j f g
 rwa[o,k] at this
theorem zHE {t e:TypeId} {n:Nat} {v:Value} {y:DataW H×List MemPlace} (ht:P.underlying t=some (.slice e)) (he:P.underlying e=some .bool) (hc:P.cellsOf e=1) (J:P.bytesOf e=1)
  (h:DataW.trod enc P w 0 spare held n t [v]=some y) (hw:∀k∈y.1.weights P t,k<=reachBytes):∃A c xs,v=.slice A xs.length c/\xG w 0 A c xs:=by
 rcases open_slice ht h with⟨hcs,_⟩|⟨a,len,cap,m,n',D,Pl,hcs,_,hl,hm,hmm,hx,hel⟩
 ·simp only[List.cons.injEq,and_true] at hcs
  exact⟨none,0,[],hcs,⟨by simp,by omega,by simp,Rd.nil,Fz.no⟩⟩
 simp only[List.cons.injEq,and_true] at hcs;have hml:len<=m:=by rw[hmm];split<;>omega
 have N:=hw (m*1) (by
  rw[hx];simp only[DataW.weights,ht,List.length_map,List.length_range,J];rw[show len+(m-len)=m by omega]
  simp)
 obtain⟨xs,O,U⟩:=zAZ (enc:=fun b:Bool=>[Value.bool b]) (sz:=1) (bt:=1) (fun _=>rfl) (by decide) (w:=w) (a:=a) hl hm (by simp only[reachBytes] at N;omega) (fun i hi'=>by
  obtain⟨cs',d,K⟩:=hel i (by omega)
  rw[hc] at d;obtain⟨_,hcl,s⟩:=World.cells?_some d;obtain⟨b,hb,_⟩:=DataW.trod_bool he K;refine⟨b,fun j u g=>?_⟩
  rw[<-Go.Deep.add_add]
  match j,g with
  |0,g=>rw[s 0 (by decide),hb];simpa using g
  |j+1,g=>simp at g)
 exact⟨some a,cap,xs,by rw[hcs,O],U⟩
theorem zI1 {t e N:TypeId} {n:Nat} {v:Value} {y:DataW H×List MemPlace} {O U f2:Field} (ht:P.underlying t=some (.slice e)) (he:P.underlying e=some (.struct #[O,U,f2])) (hc:P.cellsOf e=3) (hby:P.bytesOf e=24)
  (hi:P.underlying N=some (.int .i64)) (s:P.cellsOf N=1) (t0:O.type=N) (t1:U.type=N) (t2:f2.type=N) (o0:O.offset=0) (o1:U.offset=1) (o2:f2.offset=2)
  (h:DataW.trod enc P w 0 spare held n t [v]=some y) (hw:∀k∈y.1.weights P t,k<=reachBytes):∃A c xs,v=.slice A xs.length c/\jZ w 0 A c xs:=by
 rcases open_slice ht h with⟨hcs,_⟩|⟨a,len,cap,m,n',D,Pl,hcs,_,hl,hm,hmm,hx,hel⟩
 ·simp only[List.cons.injEq,and_true] at hcs
  exact⟨none,0,[],hcs,⟨by simp,by omega,by simp,Rd.nil,Fz.no⟩⟩
 simp only[List.cons.injEq,and_true] at hcs;have hml:len<=m:=by rw[hmm];split<;>omega
 have hwt:=hw (m*24) (by
  rw[hx];simp only[DataW.weights,ht,List.length_map,List.length_range,hby];rw[show len+(m-len)=m by omega]
  simp)
 obtain⟨xs,hxl,hxs⟩:=zAZ (enc:=Stp.cells) (sz:=3) (bt:=24) (fun _=>rfl) (by decide) (w:=w) (a:=a) hl hm (by simp only[reachBytes] at hwt;omega) (fun i hi'=>by
  obtain⟨cs',K,J⟩:=hel i (by omega)
  rw[hc] at K;obtain⟨_,hcl,g⟩:=World.cells?_some K;obtain⟨z0,e0⟩:=vB he J 0 O rfl o0 (by rw[t0];exact s) (by rw[t0];exact hi)
  obtain⟨z1,e1⟩:=vB he J 1 U rfl o1 (by rw[t1];exact s) (by rw[t1];exact hi)
  obtain⟨z2,e2⟩:=vB he J 2 f2 rfl o2 (by rw[t2];exact s) (by rw[t2];exact hi)
  refine⟨⟨z0,z1,z2⟩,fun j u d=>?_⟩
  rw[<-Go.Deep.add_add]
  match j,d with
  |0,d=>rw[g 0 (by decide),e0];simpa[Stp.cells] using d
  |1,d=>rw[g 1 (by decide),e1];simpa[Stp.cells] using d
  |2,d=>rw[g 2 (by decide),e2];simpa[Stp.cells] using d
  |j+3,d=>simp[Stp.cells] at d)
 exact⟨some a,cap,xs,by rw[hcs,hxl],hxs⟩
theorem zI5 {t tF tG tS e tb ts:TypeId} {u J K N O s0 s1 s2:Field} {r:Reach} {b0:Nat} {v:Value} {d:DataW H} {p:List MemPlace} (hs:P.underlying t=some (.struct #[u,J,K,N,O])) (s:oneCellFields P #[u,J,K,N,O]=true) (hC:P.cellsOf t=5)
  (U:P.underlying e=some (.int .i64)) (j:P.cellsOf e=1) (hbi:P.bytesOf e=8) (hb:P.underlying tb=some .bool) (hcb:P.cellsOf tb=1) (hbb:P.bytesOf tb=1) (hss:P.underlying ts=some (.struct #[s0,s1,s2])) (hcs:P.cellsOf ts=3) (hbs:P.bytesOf ts=24)
  (t0:u.type=e) (t1:J.type=e) (t2:K.type=tF) (t3:N.type=tG) (t4:O.type=tS) (hF:P.underlying tF=some (.slice e)) (hG:P.underlying tG=some (.slice tb)) (hS:P.underlying tS=some (.slice ts))
  (u0:s0.type=e) (u1:s1.type=e) (u2:s2.type=e) (o0:s0.offset=0) (o1:s1.offset=1) (o2:s2.offset=2)
  (hv:Value.okWide P w r b0 t v) (h:DataW.Trod enc P w 0 spare held t v d p) (hw:∀k∈d.weights P t,k<=reachBytes):
  ∃a A B C ca cb cc,v=.agg #[a.st,a.le,.slice A a.fs.length ca,.slice B a.gs.length cb,.slice C a.ss.length cc]/\zM w 0 a A B C ca cb cc:=by
 obtain⟨cs,rfl,hsz⟩:=okWide_struct hs hv;obtain⟨c0,c1,c2,c3,c4,rfl⟩:=zJO (hsz.trans hC);obtain⟨fuel,hf⟩:=h;obtain⟨ys,m,hd,hyl,i⟩:=zHk hs s hf;simp only[Value.cells] at i
 match ys,hyl with
 |[y0,y1,y2,y3,y4],_=>
  have e0:=i 0 u rfl;have e1:=i 1 J rfl;have e2:=i 2 K rfl;have e3:=i 3 N rfl;have e4:=i 4 O rfl
  simp only[t0,t1,t2,t3,t4,List.drop_zero,List.drop_succ_cons,List.take_succ_cons,List.take_zero,List.getElem?_cons_zero,List.getElem?_cons_succ] at e0 e1 e2 e3 e4;obtain⟨z0,hz0,_⟩:=DataW.trod_int U e0
  obtain⟨z1,hz1,_⟩:=DataW.trod_int U e1
  have g:∀k,k∈y2.1.weights P tF\/k∈y3.1.weights P tG\/k∈y4.1.weights P tS->k<=reachBytes:=fun k hk=>hw k (by
   rw[show d=_ from hd];simp only[DataW.weights,hs];simp only[List.map_cons,List.map_nil,DataW.weightsEach,List.mem_append,t0,t1,t2,t3,t4]
   simp
   rcases hk with hk|hk|hk
   ·exact .inr (.inr (.inl hk))
   ·exact .inr (.inr (.inr (.inl hk)))
   exact .inr (.inr (.inr (.inr hk))))
  obtain⟨A,ca,fs,rfl,hA⟩:=zAT hF U j hbi e2 (fun k hk=>g k (.inl hk))
  obtain⟨B,cb,gs,rfl,hB⟩:=zHE hG hb hcb hbb e3 (fun k hk=>g k (.inr (.inl hk)))
  obtain⟨C,cc,ss,rfl,hSS⟩:=zI1 hS hss hcs hbs U j u0 u1 u2 o0 o1 o2 e4 (fun k hk=>g k (.inr (.inr hk)))
  obtain rfl:c0=.int .i64 z0:=by simpa using hz0
  obtain rfl:c1=.int .i64 z1:=by simpa using hz1
  exact⟨⟨z0,z1,fs,gs,ss⟩,A,B,C,ca,cb,cc,rfl,hA,hB,hSS⟩
end
end
end Go.Proofs.YtoglgeaiiipchaaGreatDoor
namespace Go.Proofs.YtoglgeaiiipchaaGreatDoor.restAutos
open Go Go.ChangeShapes Go.WideShapes Go.ChangeAt Go.RowKit Go.Deep Go.Joins Go.ChangeMaps
theorem own:ownKnob Tryz.prog.godebug=none:=by kernel_rfl
theorem laidOut:laidOutB Tryz.prog=true:=by kernel_rfl
theorem all_le {l:List Nat} (h:l.all (·<=reachBytes)=true):∀k∈l,k<=reachBytes:=fun k d=>by simpa using List.all_eq_true.1 h k d
theorem lifted (os:Os) (J:os.Started) (H:Type) (enc:TypeId×Value->H):
  ReturnsInHanded {} Tryz.checked os 4 .any (fun w args=>(Rows.restAutosSpec.pre enc Tryz.prog Tryz.f4 [] false w args/\laidMetH Tryz.prog Rows.restAutosRow.laid w)/\sizedMet enc Tryz.prog Tryz.f4 (OpenSpec.ofChange Rows.restAutosSpec) false w args)
   (Rows.restAutosSpec.post enc Tryz.prog Tryz.f4 false true false false):=by
 refine oL (C:=Tryz.checked) (X:=fun w _=>laidMetH Tryz.prog Rows.restAutosRow.laid w) (fun _ _ _ hh h=>h.of_heap hh) own J (by kernel_rfl) Tryz.func4
  (ChangeSpec.witness_shaped (enc:=enc) (C:=Tryz.checked) (os:=os) (X:=fun w _=>laidMetH Tryz.prog Rows.restAutosRow.laid w) false (World.laidAll Tryz.prog os Rows.restAutosRow.laid) #[.agg #[(0:Int),(0:Int),(),(),()],.agg #[(0:Int),(0:Int),(),(),()],.agg #[(),()],()] 8 (World.laidAll_os _ _ _) (World.shaped_of_ZipB (by kernel_rfl) (by kernel_rfl)) (by kernel_rfl) (by kernel_rfl) (by kernel_rfl) (by rw[MakeChecks.laidMetH_plain _ _ _ (by kernel_rfl)];exact laidMet_laidAll _ (by kernel_rfl) (by kernel_rfl))) ?_
 intro W base args ds gs before g s hW u hX;have d:∀(j:Nat) t v,Tryz.f4.params[j]?=some t->args[j]?=some v->Value.okWide Tryz.prog W .any base t v:=s;have HLD:xR W:=zIe g _ hX (by rfl) ⟨_,by rfl⟩ ⟨_,by rfl⟩
 have hW':=hW;obtain⟨p,q,h4,hV,rfl,hfz,hnd⟩:=hW;have hA:DataW.TrodAll enc Tryz.prog W 0 (fun _=>true) true Tryz.f4.params.toList args.toList ds p:=h4
 rw[Tryz.params4] at hA d u;obtain⟨v0,vs0,d0,ds0,p0,q0,hargs,rfl,rfl,h0,r0⟩:=trodAll_cons hA;obtain⟨v1,vs1,d1,ds1,p1,q1,rfl,rfl,rfl,h1,r1⟩:=trodAll_cons r0
 obtain⟨v2,vs2,d2,ds2,p2,q2,rfl,rfl,rfl,h2,r2⟩:=trodAll_cons r1;obtain⟨v3,vs3,d3,ds3,p3,q3,rfl,rfl,rfl,h3,r3⟩:=trodAll_cons r2;obtain⟨rfl,rfl,rfl⟩:=trodAll_nil r3
 obtain rfl:args=#[v0,v1,v2,v3]:=by cases args;simp_all
 obtain⟨rfl,rfl⟩:=trodVars_none hV;have k0:=h0;have k1:=h1;have k2:=h2;have k3:=h3;have lt0:∀x∈p0,x.block<W.heap.size:=by obtain⟨m,N⟩:=k0;exact DataW.trod_lt m _ _ _ N
 have lt1:∀x∈p1,x.block<W.heap.size:=by obtain⟨m,N⟩:=k1;exact DataW.trod_lt m _ _ _ N
 have lt2:∀x∈p2,x.block<W.heap.size:=by obtain⟨m,N⟩:=k2;exact DataW.trod_lt m _ _ _ N
 have lt3:∀x∈p3,x.block<W.heap.size:=by obtain⟨m,N⟩:=k3;exact DataW.trod_lt m _ _ _ N
 have hw:∀k,(k∈d0.weights Tryz.prog 31\/k∈d1.weights Tryz.prog 31\/k∈d2.weights Tryz.prog 27\/k∈d3.weights Tryz.prog 42)->k<=reachBytes:=fun k hk=>all_le u k (by
  change k∈DataW.weightsEach Tryz.prog [31,31,27,42] [d0,d1,d2,d3];simp only[DataW.weightsEach,List.mem_append]
  rcases hk with hk|hk|hk|hk
  ·exact .inl hk
  ·exact .inr (.inl hk)
  ·exact .inr (.inr (.inl hk))
  exact .inr (.inr (.inr (.inl hk))))
 obtain⟨a,A,B,C,ca,cb,cc,rfl,hra⟩:=zI5 Tryz.underlying31 (by kernel_rfl) (by kernel_rfl) Tryz.underlying3 (by kernel_rfl) (by kernel_rfl) Tryz.underlying4 (by kernel_rfl) (by kernel_rfl) Tryz.underlying80 (by kernel_rfl) (by kernel_rfl)
  rfl rfl rfl rfl rfl Tryz.underlying22 Tryz.underlying28 Tryz.underlying29 rfl rfl rfl rfl rfl rfl (d 0 31 v0 rfl rfl) h0 (fun k hk=>hw k (.inl hk))
 obtain⟨b,D,E,F,cd,ce,cf,rfl,hrb⟩:=zI5 Tryz.underlying31 (by kernel_rfl) (by kernel_rfl) Tryz.underlying3 (by kernel_rfl) (by kernel_rfl) Tryz.underlying4 (by kernel_rfl) (by kernel_rfl) Tryz.underlying80 (by kernel_rfl) (by kernel_rfl)
  rfl rfl rfl rfl rfl Tryz.underlying22 Tryz.underlying28 Tryz.underlying29 rfl rfl rfl rfl rfl rfl (d 1 31 v1 rfl rfl) h1 (fun k hk=>hw k (.inr (.inl hk)))
 obtain⟨v0,v1,y0,y1,n,rfl,rfl,rfl,g0,g1⟩:=open_agg2 Tryz.underlying27 (by kernel_rfl) (by kernel_rfl) (d 2 27 _ rfl rfl) h2
 have O:∀k∈y0.1.weights Tryz.prog 22++y1.1.weights Tryz.prog 22,k<=reachBytes:=fun k hk=>hw k (.inr (.inr (.inl (by
  simp only[DataW.weights,Tryz.underlying27]
  simpa[DataW.weightsEach] using hk))))
 obtain⟨G,cg,xs,rfl,hh⟩:=zAT Tryz.underlying22 Tryz.underlying3 (by kernel_rfl) (by kernel_rfl) g0 (fun k hk=>O k (List.mem_append_left _ hk))
 obtain⟨K,ck,ys,rfl,hl⟩:=zAT Tryz.underlying22 Tryz.underlying3 (by kernel_rfl) (by kernel_rfl) g1 (fun k hk=>O k (List.mem_append_right _ hk))
 obtain⟨a0,len0,U,rfl⟩:=okWide_slice Tryz.underlying42 (d 3 42 v3 rfl rfl)
 obtain⟨FA,fc,f,hfv,hf⟩:∃F fc f,Value.slice a0 len0 U=.slice F f.length fc/\Nds W 0 F fc f:=by
  obtain⟨fuel,hh⟩:=h3;exact zJv Tryz.underlying42 Tryz.underlying63 (by kernel_rfl) (by kernel_rfl) Tryz.underlying3 (by kernel_rfl) rfl rfl rfl rfl rfl rfl rfl rfl hh (fun k hk=>hw k (.inr (.inr (.inr hk))))
 obtain⟨rfl,rfl,rfl⟩:=by simpa using hfv
 clear h4 s d u hw O hX g;refine(zDp a b ⟨xs,ys⟩ f ⟨A,B,C,D,E,F,G,K,_,ca,cb,cc,cd,ce,cf,cg,ck,_⟩ W hra hrb hh hl hf HLD).mono fun e W' ⟨he,i⟩=>?_
 subst he
 exact⟨_,rfl,_,_,_,[],_,[],hW',trodAll_mk1 (shut_bool Tryz.underlying4 _),(trodAll_cons_mk (Below.trod laidOut (by kernel_rfl) (of_decide_eq_true (by kernel_rfl)) k0 i lt0) (trodAll_cons_mk (Below.trod laidOut (by kernel_rfl) (of_decide_eq_true (by kernel_rfl)) k1 i lt1) (trodAll_cons_mk (Below.trod laidOut (by kernel_rfl) (of_decide_eq_true (by kernel_rfl)) k2 i lt2) (trodAll_cons_mk (Below.trod laidOut (by kernel_rfl) (of_decide_eq_true (by kernel_rfl)) k3 i lt3) trodAll_mk0)))),rfl,i.frame _,fun h=>by cases h⟩
theorem over:Rows.RestAutosSaid:=
 OpenClaim.holds_of_wide 4 Tryz.f4 rfl rfl rfl rfl rfl rfl rfl ⟨rfl,rfl,rfl,rfl,rfl⟩ rfl rfl rfl rfl rfl (by kernel_rfl) Tryz.func4 (by kernel_rfl)
  (of_decide_eq_true (by kernel_rfl)) (by unfold Func.isWrapper;first|(rw[if_pos (by decide +kernel)];kernel_rfl)|(rw[if_neg (by decide +kernel)];exact⟨rfl,rfl⟩))
  (fun os d H enc _=>lifted os d H enc)
theorem plain (f:FuncId) (e:Func) (i:Tryz.pinned.checked.prog.funcNamed "lassowork/lassoworklaw.RestAutos"=some f) (g:Tryz.pinned.checked.prog.funcs[f]?=some e):
  true=Tryz.pinned.checked.prog.looks []/\∀(j:Nat) t,e.params[j]?=some t->Tryz.pinned.checked.prog.wantsStandIn t=false:=by
 obtain rfl:f=4:=Option.some.inj ((show Tryz.prog.funcNamed "lassowork/lassoworklaw.RestAutos"=some 4 by kernel_rfl).symm.trans i) |>.symm
 obtain rfl:e=Tryz.f4:=(Option.some.inj (Tryz.func4.symm.trans g)).symm
 refine⟨by kernel_rfl,fun j t h=>?_⟩
 rw[Tryz.params4] at h;have m:t∈[31,31,27,42]:=by simpa using Array.mem_of_getElem? h
 have d:([31,31,27,42].all fun u=>!Tryz.prog.wantsStandIn u)=true:=by kernel_rfl
 exact(show Tryz.prog.wantsStandIn t=false by simpa using List.all_eq_true.1 d t m)
theorem proved:Rows.RestAutosCardSaid:=
 Claim7.holds_tied_plain_at .later [] _ _ _ _ over (fun _ h=>by cases h) (by kernel_rfl) (fun _ h=>by cases h) restAutos_row_tie rfl ⟨rfl,rfl⟩ (by kernel_rfl) rfl plain (by kernel_rfl)
end Go.Proofs.YtoglgeaiiipchaaGreatDoor.restAutos
