import Derived.Test.YtoglgeaiiipchaaGreatDoorLRY7
import Derived.Sort.LoopGhostIn
import Derived.Lib.AppendZerosOnto
set_option linter.unusedSimpArgs false
set_option linter.unusedVariables false
set_option maxRecDepth 100000
set_option maxHeartbeats 8000000
namespace Go.Proofs.YtoglgeaiiipchaaGreatDoor
section
open Go Go.RowKit Go.Shelf
attribute [local go_sem] Oper.semAt_some
theorem aV (W:World) (g i:Nat) (v:Value):W.grownBy (W.setCell ⟨g,i,none⟩ v) (some g):=
 ⟨rfl,rfl,rfl,by simp[World.setCell],fun k _ d=>Below.heap_setCell _ _ _ _ (fun e=>d (by rw[show k=g from e]))⟩
theorem lB {a b c:World} {r:Option Nat} (h:a.grownBy b r) (d:b.grownBy c r):a.grownBy c r:=
 ⟨d.os.trans h.os,d.tape.trans h.tape,d.output.trans h.output,Nat.le_trans h.size d.size,fun k e g=>(d.block k (Nat.lt_of_lt_of_le e h.size) g).trans (h.block k e g)⟩
def zDW (w:World) (a:Au) (e:Ending) (w':World):Prop:=∃G out,e=.returned (.slice (some ⟨G,0,none⟩) out.length out.length)/\w.heap.size<=G/\zU w' G out/\nK a out/\Below w w w'
theorem zAl (a:Au) (A B C:Option Addr) (ca cb cc:Nat) (w:World) (hr:zM w 0 a A B C ca cb cc) (ho:AuR a) (hst:a.st<=1000000) (hsl:a.ss.length<=1000000) (hos:xV a.ss):
  Calls Tryz.prog 63 #[.agg #[a.st,a.le,.slice A a.fs.length ca,.slice B a.gs.length cb,.slice C a.ss.length cc]] w (zDW w a):=by
 obtain⟨N,hN⟩:=Int.eq_ofNat_of_zero_le (show 0<=a.st by have:=ho.st1;omega)
 have hN3:N<=1000000:=by omega
 have HSL:=hId hsl;have hmk:=jV a.st N hN.symm (by omega)
 have hfl:a.fs.length<=N:=by have:=ho.fs_le;omega
 have HW:=jN w a A B C ca cb cc;have HR:=hId hr;have HO:=hId ho;have HOS:=hId hos;have HN:=hId hN;have HFR:=hId ho.fr;clear hr ho hos hN hsl hst;refine(callsIn_wide (n:=9)).1 ?_
 refine callsIn_of_wp_marks Tryz.func63 rfl trivial ?_
 simp only[Tryz.ntmps63,List.size_toArray,List.length_cons,List.length_nil,Nat.reduceAdd,Nat.reduceSub,Array.replicate_succ,Array.replicate_zero,List.push_toArray,List.append_toArray,List.nil_append,List.cons_append]
 have hbb:Below w w (((auW w a A B C ca cb cc).alloc (.cells (madeCells #[Value.bool false] N) 4)).alloc (.cells #[Value.slice (some ⟨w.heap.size+1,0,none⟩) N N] 28)):=
  (HW.below.alloc (by rw[HW.size];omega) _).alloc (by simp[HW.size];omega) _
 have HB1:=hId hbb
 have HV1:Hid (yG (((auW w a A B C ca cb cc).alloc (.cells (madeCells #[Value.bool false] N) 4)).alloc (.cells #[Value.slice (some ⟨w.heap.size+1,0,none⟩) N N] 28)) w.heap.size a A B C ca cb cc):=
  (HW.at.below (bLa) (by rw[HW.size];omega)).below (bLa) (by simp[HW.size];omega)
 have HG1:Hid (zU (((auW w a A B C ca cb cc).alloc (.cells (madeCells #[Value.bool false] N) 4)).alloc (.cells #[Value.slice (some ⟨w.heap.size+1,0,none⟩) N N] 28)) (w.heap.size+1) (List.replicate N false)):=by
  have h:=zU.new (auW w a A B C ca cb cc) N;rw[HW.size] at h;exact h.below (bLa) (by simp[HW.size])
 have HT1:Hid (Boxed (((auW w a A B C ca cb cc).alloc (.cells (madeCells #[Value.bool false] N) 4)).alloc (.cells #[Value.slice (some ⟨w.heap.size+1,0,none⟩) N N] 28)) (w.heap.size+1+1) 28 (.slice (some ⟨w.heap.size+1,0,none⟩) N N)):=by
  have h:=Boxed.new ((auW w a A B C ca cb cc).alloc (.cells (madeCells #[Value.bool false] N) 4)) 28 (.slice (some ⟨w.heap.size+1,0,none⟩) N N)
  rwa[show((auW w a A B C ca cb cc).alloc (.cells (madeCells #[Value.bool false] N) 4)).heap.size=w.heap.size+1+1 by simp[HW.size]] at h
 clear hbb HW;unfold auW at HB1 HV1 HG1 HT1
 gi_wp2
 obtain⟨K,hK⟩:∃K,K=w.heap.size:=⟨_,rfl⟩;have HKK:=hId hK;rw[<-hK] at HB1 HV1 HG1 HT1 ⊢;clear hmk hK
 generalize ((w.alloc (.cells #[a.st,a.le,.slice A a.fs.length ca,.slice B a.gs.length cb,.slice C a.ss.length cc] 31)).alloc (.cells (madeCells #[Value.bool false] N) 4)).alloc (.cells #[Value.slice (some ⟨K+1,0,none⟩) N N] 28)=W1 at *
 rw[HKK.o] at HB1;refine⟨trivial,?_⟩;refine(callsIn_wide.2 (zEx A ca a.fs W1 (HR.o.fs.below HB1.o))).mono ?_;rintro e w2 ⟨v,rfl,hown,hb2⟩;obtain⟨cA,O,rfl,hcc,hcc2,-⟩:=zF hown
 have HF2:Hid (xM w w2.heap.size (K+1) (K+1+1) N (List.replicate N false) a.fs (.slice cA a.fs.length O) (w2.alloc (.cells #[.slice cA a.fs.length O] 22))):=by
  have hal:Below w2 w2 (w2.alloc (.cells #[.slice cA a.fs.length O] 22)):=bLa
  have hbw:=zA HB1.o hb2 HB1.o.size;have hs1:=HB1.o.size
  refine⟨zA hbw hal hbw.size,Boxed.new _ _ _,zD ?_ hal,(HG1.o.below hb2 HG1.o.lt).below hal (Nat.lt_of_lt_of_le HG1.o.lt hb2.size),((hal.block _ (Nat.lt_of_lt_of_le HT1.o.lt hb2.size)).trans ((hb2.block _ HT1.o.lt).trans HT1.o)),hbw.size,by have:=HKK.o;omega⟩
  obtain⟨h1,h2⟩:=hown;refine⟨h1,?_⟩
  rcases h2 with h2|⟨g,cap,cur,hv,hg,hh,r⟩
  ·exact .inl h2
  exact .inr ⟨g,cap,cur,hv,by omega,hh,r⟩
 have HV2:Hid (yG (w2.alloc (.cells #[.slice cA a.fs.length O] 22)) K a A B C ca cb cc):=(HV1.o.below hb2 HV1.o.lt).below (bLa) (Nat.lt_of_lt_of_le HV1.o.lt hb2.size)
 clear hown hb2 HG1 HT1 HV1 HB1;obtain⟨F,hF⟩:∃F,F=w2.heap.size:=⟨_,rfl⟩
 gi_wp2
 rw[<-hF] at HF2 ⊢;have HFF:=hId hF;clear hF;generalize w2.alloc (.cells #[.slice cA a.fs.length O] 22)=W2 at *
 have HINT:Hid (∀ out wr,xM w F (K+1) (K+1+1) N out a.fs (.slice cA a.fs.length O) wr->zE wr 0 cA O a.fs):=fun out wr h=>by
  obtain⟨A',c',he,hi⟩:=SlE.of_own (enc:=fun n:Int=>[Value.int .i64 n]) (bt:=8) h.fr (by omega)
  obtain⟨rfl,_,rfl⟩:cA=A'/\a.fs.length=a.fs.length/\O=c':=by simpa using he
  exact SlE.zero hi
 have HVW:Hid (∀ wr,W2.grownBy wr (some (K+1))->yG wr K a A B C ca cb cc):=fun wr hg=>by
  have h:=fun o=>World.cell?_of_block (w:=W2) (w':=wr) (a:=⟨K,o,none⟩) (hg.block K HV2.o.lt (by simp))
  exact⟨Nat.lt_of_lt_of_le HV2.o.lt hg.size,(h 0).trans HV2.o.c0,(h 1).trans HV2.o.c1,(h 2).trans HV2.o.c2,(h 3).trans HV2.o.c3,(h 4).trans HV2.o.c4⟩
 gi_loopw [6,18] (fun _ i wr=>∃k:Nat,k<=a.fs.length/\i=.int .i64 k/\Hid (xM w F (K+1) (K+1+1) N (qM (a.fs.take k) (List.replicate N false)) a.fs (.slice cA a.fs.length O) wr)/\Hid (W2.grownBy wr (some (K+1)))) (fun _ i _=>a.fs.length-(intOf i).toNat)
 case atStart=>exact⟨0,Nat.zero_le _,rfl,HF2.o,World.grownBy.refl _ _⟩
 obtain⟨k,U,rfl,HM,HGW⟩:=hrel;have cT:=HM.o.t5.cell
 by_cases hkl:k<a.fs.length
 ·have q1:(k:Int)<(a.fs.length:Int):=by omega
  obtain⟨b,off,rfl,_,_,y0⟩:=zE.at_ (HINT.o _ _ HM.o) hkl;have hfx:=HFR.o _ (List.getElem_mem hkl)
  have HST:Hid (qM (a.fs.take (k+1)) (List.replicate N false)=(qM (a.fs.take k) (List.replicate N false)).set (a.fs[k]).toNat true):=by
   show _=_;rw[List.take_succ_eq_append_getElem hkl,aI]
  obtain⟨x,hx⟩:∃x,x=a.fs[k]:=⟨_,rfl⟩;rw[<-hx] at y0 hfx HST;clear hx;obtain⟨x,rfl⟩:=Int.eq_ofNat_of_zero_le hfx.1;rw[Int.toNat_natCast] at HST;have hxN:(x:Int)<(N:Int):=by have:=HN.o;omega
  have hsl:x<(qM (a.fs.take k) (List.replicate N false)).length:=by rw[pA,List.length_replicate];omega
  obtain⟨z1,z2⟩:=HM.o.row.getD_ (i:=x) hsl false;have HM2:=hId (HM.o.mark x);have HGW2:=hId (lB HGW.o (aV wr (K+1) x (.bool true)));clear hfx hsl
  gi_wp2
  go_roundw
  case rel=>exact⟨k+1,by omega,by go_num,by show xM _ _ _ _ _ _ _ _ _;rw[HST.o];exact HM2.o,HGW2.o⟩
  case measure=>simp[intOf];omega
 have q1:¬(k:Int)<(a.fs.length:Int):=by omega
 have hkk:a.fs.take k=a.fs:=List.take_of_length_le (by omega)
 rw[hkk] at HM;have HV3:=hId (HVW.o _ HGW.o);obtain⟨_,c0,c1,c2,c3,c4⟩:=HV3.o;clear hkk HVW HINT U q1
 gi_wp2
 refine⟨trivial,?_⟩;refine(callsIn_wide.2 (zCq a A B C ca cb cc wr)).mono ?_;rintro e w5 ⟨V,rfl,hVl,hVA,hb5⟩
 have HIN0:Hid (zDt a A B C ca cb cc V w F (K+1) (K+1+1) N (N+a.fs.length) none [] (qM a.fs (List.replicate N false)) a.fs (.slice cA a.fs.length O) w5):=
  ⟨HM.o.on hb5,RcM.start HO.o N HN.o.symm,vI.nil _ _ _ _,hVA,yC.new HM.o.sane1 hb5 hVl hVA.lt⟩
 clear hVl hVA hb5 c0 c1 c2 c3 c4 cT
 gi_wp2
 refine wpIn_loop_ghost (fun n aa W=>∃u5 u6 u8 u9 u10 u11 u12 u13 u14 u15 u16 u17 u18 u19 u20 u21 u22 u23 u24 u25 u26 u27 u28 u29 u30 u31 u32 u33 u34 u35 u36 u37 u38 u39 u40 u41 u42 u43 u44 u45 u46 u47 u48 u49 u50 u51 u52 u53 u54 u55 u56 u57 u58 u59 u60 u61 ds out left v,aa={tmps:=#[.agg #[a.st,a.le,.slice A a.fs.length ca,.slice B a.gs.length cb,.slice C a.ss.length cc],.pointer (some ⟨K,0,none⟩),.slice none 0 0,.pointer (some ⟨K+1+1,0,none⟩),.pointer (some ⟨F,0,none⟩),u5,u6,.func (.func 89) #[] #[(⟨V,0,none⟩:Addr)],u8,u9,u10,u11,u12,u13,u14,u15,u16,u17,u18,u19,u20,u21,u22,u23,u24,u25,u26,u27,u28,u29,u30,u31,u32,u33,u34,u35,u36,u37,u38,u39,u40,u41,u42,u43,u44,u45,u46,u47,u48,u49,u50,u51,u52,u53,u54,u55,u56,u57,u58,u59,u60,u61],defers:=ds}/\Hid (zDt a A B C ca cb cc V w F (K+1) (K+1+1) N n none ds out left v W)) (N+a.fs.length) ⟨_,_,_,_,_,_,_,_,_,_,_,_,_,_,_,_,_,_,_,_,_,_,_,_,_,_,_,_,_,_,_,_,_,_,_,_,_,_,_,_,_,_,_,_,_,_,_,_,_,_,_,_,_,_,_,_,[],_,_,_,rfl,HIN0.o⟩ ?_
 clear HIN0
 rintro n aa wq ⟨u5,u6,u8,u9,u10,u11,u12,u13,u14,u15,u16,u17,u18,u19,u20,u21,u22,u23,u24,u25,u26,u27,u28,u29,u30,u31,u32,u33,u34,u35,u36,u37,u38,u39,u40,u41,u42,u43,u44,u45,u46,u47,u48,u49,u50,u51,u52,u53,u54,u55,u56,u57,u58,u59,u60,u61,ds,out,left,v,rfl,j⟩
 obtain⟨lA,lc,rfl,hlc,hlc2,-⟩:=zF j.o.mem.fr;have cF:=j.o.mem.box.cell;have fF:=j.o.mem.box.frozen;have cT:=j.o.mem.t5.cell
 rcases List.eq_nil_or_concat left with rfl|⟨lef,x,hlx⟩
 ·gi_wp2
  refine fH (v:=undef) (B:=w.heap.size) (I:=fun _ W=>xM w F (K+1) (K+1+1) N out [] (.slice lA 0 lc) W) (fun _ A' B' rw hs hg hr=>hs.own nLe hg hr) (fun W hW=>?_) ds wq j.o.marks.marks j.o.mem
  have hol:out.length=N:=by have:=j.o.met.len;have:=HN.o;omega
  exact⟨_,results_tmp rfl _ _ _,K+1,out,by rw[hol];rfl,by have:=HKK.o;omega,hW.row,RcM.done HO.o j.o.met,hW.below⟩
 have hlx:left=lef++[x]:=by rw[hlx];simp
 subst hlx;rw[List.length_append,List.length_cons,List.length_nil,Nat.zero_add] at cF hlc j
 have hlmax:lef.length+1<=10000000:=by
  have h1:=j.o.met.few;rw[List.length_append,List.length_cons,List.length_nil] at h1;have:=HN.o;omega
 obtain⟨g,rfl⟩:∃g,lA=some ⟨g,0,none⟩:=by
  obtain⟨g,cap,hv⟩:=ownsRow_succ (k:=lef.length) (by have:=j.o.mem.fr;unfold xD at this;rw[List.length_append] at this;exact this)
  simp at hv
  exact⟨g,hv.1⟩
 have q0:wq.cell? ⟨g,lef.length,none⟩=some (.int .i64 x):=by
  have h1:=World.ownsRow.cells j.o.mem.fr (g:=g) rfl lef.length x (by
   rw[List.flatMap_append,List.getElem?_append_right (by rw[zN (sz:=1) (fun _=>rfl)];omega),zN (sz:=1) (fun _=>rfl)]
   simp)
  rwa[qI,Nat.zero_add] at h1
 obtain⟨hp1,hn0,hx0,hx1⟩:=j.o.met.pop
 have HINb:Hid (zDt a A B C ca cb cc V w F (K+1) (K+1+1) N (n-1) (some x) ds out lef (.slice (some ⟨g,0,none⟩) lef.length lc) (wq.setCell ⟨F,0,none⟩ (.slice (some ⟨g,0,none⟩) lef.length lc))):=by
  have h1:=j.o.mem.set (u:=.slice (some ⟨g,0,none⟩) lef.length lc) (left':=lef) (xD.pop j.o.mem.fr)
  have ho:Off w.heap.size [K+1] [F] wq (wq.setCell ⟨F,0,none⟩ (.slice (some ⟨g,0,none⟩) lef.length lc)):=
   j.o.mem.off h1 (fun k U=>by rw[List.mem_singleton.1 U];exact⟨j.o.mem.lG,j.o.mem.row.lt⟩) (List.mem_singleton.2 rfl) rfl rfl rfl (by simp[World.setCell]) (fun k U h3 h4 h5=>Below.heap_setCell _ _ _ _ h4) (.inl rfl)
  exact⟨h1,hp1,j.o.marks.off ho,j.o.au.off j.o.gd ho,j.o.gd.off ho⟩
 have HX:=hId (And.intro hx0 hx1);clear hp1 hx0 hx1 j
 gi_wp2
 clear cF fF cT q0;generalize wq.setCell ⟨F,0,none⟩ (.slice (some ⟨g,0,none⟩) lef.length lc)=W4 at *;refine⟨trivial,?_⟩
 refine(callsIn_wide.2 (zCg a A B C ca cb cc V x W4 HINb.o.au (HR.o.ss.below HINb.o.mem.below) HOS.o HSL.o)).mono ?_;rintro e w3 ⟨X3,Y3,i3,rfl,hX3,hY3,hS3,hLB3,hb3⟩;have m:=hId (HINb.o.on hb3);have HS3:=hId hS3
 have HLB:=hId hLB3;have HGX:Hid (yC w.heap.size [K+1] [F] w3 X3):=yC.new HINb.o.mem.sane1 hb3 hX3 hS3.lx;have HGY:Hid (yC w.heap.size [K+1] [F] w3 Y3):=yC.new HINb.o.mem.sane1 hb3 hY3 hS3.ly;clear hX3 hY3 hS3 hLB3 hb3
 gi_wp2
 have nb:∀k,yC w.heap.size [K+1] [F] w3 k->¬Bad [w3.heap.size+1,K+1] [F] w3 k:=fun k U h=>h.of_cons.elim (fun h=>by have:=U.lt;omega) U.not
 have hG3:=m.o.mem.row.lt;have hF3:=m.o.mem.box.lt;have hKl:=m.o.mem.lG;have hw3:=m.o.mem.below.size
 have HOFF:Hid (∀ (out:List Bool) (left:List Int) (v:Value) (J:List Bool) (left':List Int) (v':Value) (W W':World),xM w F (K+1) (K+1+1) N out left v W->xM w F (K+1) (K+1+1) N J left' v' W'->W'.os=W.os->W'.tape=W.tape->W'.output=W.output->W.heap.size<=W'.heap.size->
   (∀ k,k<W.heap.size->k≠K+1->k≠F->v.ownBlock≠some k->W'.heap[k]?=W.heap[k]?)->(v'.ownBlock=v.ownBlock\/∀r,v'.ownBlock=some r->W.heap.size<=r)->Off w.heap.size [K+1] [F] W W'):=fun _ _ _ _ _ _ W W' h h' e1 e2 e3 e4 e5 e6=>
  h.off h' (fun k U=>by rw[List.mem_singleton.1 U];exact⟨h.lG,h.row.lt⟩) (List.mem_singleton.2 rfl) e1 e2 e3 e4 e5 e6
 refine wF (gf:=93) (lb:=#[.pointer (some ⟨V,0,none⟩),.pointer (some ⟨X3,0,none⟩),.pointer (some ⟨Y3,0,none⟩)]) (by omega) rfl (enters_of Tryz.func93 (by kernel_rfl) rfl)
  (pP a A B C ca cb cc V X3 Y3 i3 x [w3.heap.size+1,K+1] [F] w w3 m.o.au (nb _ m.o.gd) HR.o.ss m.o.mem.below HS3.o.x HS3.o.y HS3.o.lx HS3.o.ly (fun k U=>by rw[List.mem_singleton.1 U];exact hF3) (nb _ HGX.o) (nb _ HGY.o) HOS.o HSL.o HLB.o 8 (by omega))
  (fun h1 h2=>h1.trans h2) ?kb ?sane bRf (fun _=>rfl)
  (fun pre W'=>∃out left v,Hid (RcR a w F (K+1) (K+1+1) N (n-1) x w3 out left v pre W'))
  (fun _ _ _=>False)
  ?hI ?hIx ?h0
  (fun s a' W'=>∃Yb,W'.heap[Yb]?=some (.cells #[s.f,s.l,s.t] 80)/\
   a'={tmps:=#[.agg #[a.st,a.le,.slice A a.fs.length ca,.slice B a.gs.length cb,.slice C a.ss.length cc],.pointer (some ⟨K,0,none⟩),.slice none 0 0,.pointer (some ⟨K+1+1,0,none⟩),.pointer (some ⟨F,0,none⟩),u5,u6,.func (.func 89) #[] #[(⟨V,0,none⟩:Addr)],.int .i64 x,.pointer (some ⟨Yb,0,none⟩),u10,u11,u12,u13,u14,u15,u16,u17,u18,u19,u20,u21,u22,u23,u24,u25,u26,u27,.slice (some ⟨g,0,none⟩) (lef.length+1) lc,.int .i64 ((lef.length:Int)+1),.bool true,.slice (some ⟨g,0,none⟩) (lef.length+1) lc,.slice (some ⟨g,0,none⟩) (lef.length+1) lc,.int .i64 ((lef.length:Int)+1),.int .i64 (lef.length:Int),.pointer (some ⟨g,lef.length,none⟩),.int .i64 x,.slice (some ⟨g,0,none⟩) (lef.length+1) lc,.slice (some ⟨g,0,none⟩) (lef.length+1) lc,.int .i64 ((lef.length:Int)+1),.int .i64 (lef.length:Int),.slice (some ⟨g,0,none⟩) lef.length lc,.func (.func 89) #[] #[(⟨V,0,none⟩:Addr)],.int .i64 x,.func (.func 93) #[] #[(⟨V,0,none⟩:Addr),(⟨X3,0,none⟩:Addr),(⟨Y3,0,none⟩:Addr)],.agg #[s.f,s.l,s.t],u46,u47,u48,u49,u50,u51,u52,u53,u54,u55,u56,u57,u58,u59,u60,u61],defers:=[]})
  ?hAx ?assign ?body ?done ?stop
 case kb=>
  intro W' r r' h hs;exact Off.put hs (List.mem_cons_self ..) h rfl rfl
 case sane=>
  intro r;have h1:Below w3 w3 ((w3.alloc (.deferred (some []))).alloc (.loop r)):=(bLa).alloc (by simp) _
  exact(Off.of_below m.o.mem.sane1 h1).sane.cons (by omega) (by simp)
 case hI=>
  rintro pre A' B' rw⟨J,left',v',h1⟩ hg hrw;exact⟨J,left',v',h1.o.mem.own hw3 hg hrw,h1.o.met,h1.o.off.own (fun k U=>by rw[List.mem_singleton.1 U];exact hF3) hg hrw,h1.o.pre⟩
 case hIx=>exact fun _ s A' B' rw hs _ _=>hs.elim
 case h0=>exact⟨out,lef,_,m.o.mem,m.o.met,Off.refl m.o.mem.sane1,fun y hy=>(by cases hy)⟩
 case hAx=>
  rintro s a' _ A' B' rw⟨Yb,h0,h1⟩ hg hrw;refine⟨Yb,(hg.block Yb (gLt h0) fun e=>?_).trans h0,h1⟩
  obtain⟨_,o',h2,h3⟩:=hrw _ e.symm;rw[h0] at h2;rw[<-Option.some.inj h2] at h3;cases h3
 case assign=>
  rintro l' pre s W' KK ⟨J,left',v',d⟩ hKK;have h1:Below W' W' (W'.alloc (.cells #[s.f,s.l,s.t] 80)):=bLa
  have HP:=hId (hKK {tmps:=#[.agg #[a.st,a.le,.slice A a.fs.length ca,.slice B a.gs.length cb,.slice C a.ss.length cc],.pointer (some ⟨K,0,none⟩),.slice none 0 0,.pointer (some ⟨K+1+1,0,none⟩),.pointer (some ⟨F,0,none⟩),u5,u6,.func (.func 89) #[] #[(⟨V,0,none⟩:Addr)],.int .i64 x,.pointer (some ⟨W',0,none⟩),u10,u11,u12,u13,u14,u15,u16,u17,u18,u19,u20,u21,u22,u23,u24,u25,u26,u27,.slice (some ⟨g,0,none⟩) (lef.length+1) lc,.int .i64 ((lef.length:Int)+1),.bool true,.slice (some ⟨g,0,none⟩) (lef.length+1) lc,.slice (some ⟨g,0,none⟩) (lef.length+1) lc,.int .i64 ((lef.length:Int)+1),.int .i64 (lef.length:Int),.pointer (some ⟨g,lef.length,none⟩),.int .i64 x,.slice (some ⟨g,0,none⟩) (lef.length+1) lc,.slice (some ⟨g,0,none⟩) (lef.length+1) lc,.int .i64 ((lef.length:Int)+1),.int .i64 (lef.length:Int),.slice (some ⟨g,0,none⟩) lef.length lc,.func (.func 89) #[] #[(⟨V,0,none⟩:Addr)],.int .i64 x,.func (.func 93) #[] #[(⟨V,0,none⟩:Addr),(⟨X3,0,none⟩:Addr),(⟨Y3,0,none⟩:Addr)],.agg #[s.f,s.l,s.t],u46,u47,u48,u49,u50,u51,u52,u53,u54,u55,u56,u57,u58,u59,u60,u61],defers:=[]}
   (W'.alloc (.cells #[s.f,s.l,s.t] 80)) ((KeepsOthers.alloc _ _).from _) (KpO.of_below h1) ⟨J,left',v',d.o.mem.on h1,d.o.met,d.o.off.trans (Off.of_below d.o.off.sane h1),d.o.pre⟩ ⟨W'.heap.size,World.alloc_heap_new _ _,rfl⟩)
  clear d hKK h1
  gi_wp2
  exact HP.o
 case body=>
  rintro l' pre s a' W' hl' hrec ⟨J,left',v',d⟩ ⟨Yb,hYb,rfl⟩ hpre;obtain⟨lA',lc',rfl,hlc',hlc2',-⟩:=zF d.o.mem.fr;have hsS:s∈zG a x:=hpre.subset (List.mem_append_right _ (List.mem_singleton.2 rfl))
  obtain⟨hsa,hsx⟩:=List.mem_filter.1 hsS;have HSA:=hId hsa;have HSX:Hid (s.f=x):=by show _=_;simpa using hsx
  have hst:=(HO.o.sr s hsa).2.1;obtain⟨t,ht⟩:=Int.eq_ofNat_of_zero_le hst.1;have htN:(t:Int)<(N:Int):=by have:=HN.o;omega
  have hol:J.length=N:=by have:=d.o.met.len;have:=HN.o;omega
  obtain⟨z1,z2⟩:=d.o.mem.row.getD_ (i:=t) (by omega) false
  have cT:=d.o.mem.t5.cell;have HYB:=hId hYb;have y2:W'.cell? ⟨Yb,2,none⟩=some (.int .i64 (t:Int)):=by rw[<-ht];simp[World.cell?,hYb]
  have HT:Hid (s.t.toNat=t):=by show _=_;omega
  have HTT:=hId ht;clear hsS hsa hsx hst hYb hpre hol ht
  cases U:J.getD t false with
  |true=>
   rw[U] at z1
   have HP:Hid (KeepsFrom w3.heap.size W' W'/\KpO w.heap.size [w3.heap.size+1,K+1] [F] W' W'/\∃out left v,Hid (RcR a w F (K+1) (K+1+1) N (n-1) x w3 out left v (pre++[s]) W')):=
    ⟨KeepsFrom.refl _ _,fun hs=>Off.refl hs,J,left',_,d.o.mem,d.o.met,d.o.off,fun y hy=>(List.mem_append.1 hy).elim (d.o.pre y) fun h=>by rw[List.mem_singleton.1 h];unfold kp;rw[HT.o];exact U⟩
   clear U d
   gi_wp2
   exact HP.o
  |false=>
   rw[U] at z1;have HNK:Hid (kp J s.t=false):=by show _=_;unfold kp;rw[HT.o];exact U
   have HII:=hId d.o;have HM2:=hId (d.o.mem.mark t);have hYl:Yb<W'.heap.size:=(gLt HYB.o)
   have hYM:Yb≠K+1:=fun e=>by
    have h2:W'.heap[K+1]?=_:=d.o.mem.row
    rw[<-e,HYB.o] at h2
    simp at h2
   have hll5:left'.length<=10000000:=by have:=d.o.met.few;have:=HN.o;omega
   have cF2:=HM2.o.box.cell;have fF2:=HM2.o.box.frozen
   have y22:(W'.setCell ⟨K+1,t,none⟩ (.bool true)).cell? ⟨Yb,2,none⟩=some (.int .i64 (t:Int)):=(World.cell?_setCell_other _ ⟨K+1,t,none⟩ ⟨Yb,2,none⟩ _ (fun e=>hYM (by have:=congrArg Addr.block e;simpa using this.symm))).trans y2
   have hsz2:(W'.setCell ⟨K+1,t,none⟩ (.bool true)).heap.size=W'.heap.size:=by simp[World.setCell]
   have hb5:Below W' (W'.setCell ⟨K+1,t,none⟩ (.bool true)) ((W'.setCell ⟨K+1,t,none⟩ (.bool true)).alloc (.cells #[(t:Int)] 3)):=by
    have:=(Below.refl (W'.setCell ⟨K+1,t,none⟩ (.bool true)).heap.size (W'.setCell ⟨K+1,t,none⟩ (.bool true))).alloc nLe (.cells #[(t:Int)] 3)
    rwa[hsz2] at this
   have HM5:=hId (HM2.o.on (by rw[hsz2];exact hb5))
   have HB5:Hid (((W'.setCell ⟨K+1,t,none⟩ (.bool true)).alloc (.cells #[(t:Int)] 3)).heap[W'.heap.size]?=some (.cells #[(t:Int)] 3)):=by
    have:=World.alloc_heap_new (W'.setCell ⟨K+1,t,none⟩ (.bool true)) (.cells #[(t:Int)] 3)
    rwa[hsz2] at this
   have hlo5:w.heap.size<=((W'.setCell ⟨K+1,t,none⟩ (.bool true)).alloc (.cells #[(t:Int)] 3)).heap.size:=HM5.o.below.size
   have HG5:Hid (∀ k,k<W'.heap.size->k≠K+1->((W'.setCell ⟨K+1,t,none⟩ (.bool true)).alloc (.cells #[(t:Int)] 3)).heap[k]?=W'.heap[k]?):=fun k U hne=>
    (hb5.block k U).trans (Below.heap_setCell _ _ _ _ hne)
   have hsz5:((W'.setCell ⟨K+1,t,none⟩ (.bool true)).alloc (.cells #[(t:Int)] 3)).heap.size=W'.heap.size+1:=by simp[World.setCell]
   have HO5:Hid (((W'.setCell ⟨K+1,t,none⟩ (.bool true)).alloc (.cells #[(t:Int)] 3)).os=W'.os/\((W'.setCell ⟨K+1,t,none⟩ (.bool true)).alloc (.cells #[(t:Int)] 3)).tape=W'.tape/\((W'.setCell ⟨K+1,t,none⟩ (.bool true)).alloc (.cells #[(t:Int)] 3)).output=W'.output):=⟨rfl,rfl,rfl⟩
   clear U d hYM hb5
   gi_wp2_with (
          gi_at_builtin;refine uR (lo:=w.heap.size) (v:=.slice lA' left'.length lc') (xs:=left') (y:=(t:Int)) (B:=W'.heap.size) rfl (.tmp 56) (.tmp 59) rfl rfl rfl HM5.o.fr HB5.o hll5 hlo5 ?_
          intro v6 W6 hfr6 hg6 hat6;obtain⟨g6,c6,rfl⟩:=ownsRow_succ (k:=left'.length) (by have:=hfr6;unfold xD at this;rw[List.length_append] at this;exact this)
          obtain⟨hbx6,hm6⟩:=HM5.o.app hfr6 hg6;have cF6:=hbx6.cell;have fF6:=hbx6.frozen
          have HP:Hid (KeepsFrom w3.heap.size W' (W6.setCell ⟨F,0,none⟩ (.slice (some ⟨g6,0,none⟩) (left'.length+1) c6))/\KpO w.heap.size [w3.heap.size+1,K+1] [F] W' (W6.setCell ⟨F,0,none⟩ (.slice (some ⟨g6,0,none⟩) (left'.length+1) c6))/\∃out left v,Hid (RcR a w F (K+1) (K+1+1) N (n-1) x w3 out left v (pre++[s]) (W6.setCell ⟨F,0,none⟩ (.slice (some ⟨g6,0,none⟩) (left'.length+1) c6)))):=by
           have hO:=HOFF.o _ _ _ _ _ _ _ _ HII.o.mem hm6 (hg6.os.trans HO5.o.1) (hg6.tape.trans HO5.o.2.1) (hg6.output.trans HO5.o.2.2) (Nat.le_trans (by rw[hsz5];omega) (Nat.le_trans hg6.size (grownBy_setCell' W6 F _).size))
            (fun k U h3 h4 h5=>(Below.heap_setCell _ _ _ _ h4).trans ((hg6.block k (by rw[hsz5];omega) (fun e=>h5 e.symm)).trans (HG5.o k U h3))) (hat6.imp id fun h=>fun r hr=>by rw[h,hsz5] at hr;simp at hr;omega)
           have hma:=HII.o.met.add HO.o HSA.o HSX.o HNK.o;rw[HT.o,HTT.o] at hma;have hol:t<J.length:=by have:=HII.o.met.len;have:=HN.o;omega
           exact⟨hO.keeps HII.o.off.sane (fun k U=>by rw[List.mem_singleton.1 U];exact hG3) (fun k U=>by rw[List.mem_singleton.1 U];exact hF3),fun hs=>hO.cons (by omega) (hs.bad _ (.inl (List.mem_cons_self ..))).2,
            _,_,_,hm6,hma,HII.o.off.trans hO,fun y hy=>(List.mem_append.1 hy).elim (fun h=>zEc (HII.o.pre y h)) (fun h=>by rw[List.mem_singleton.1 h];exact zJH HT.o hol)⟩
          clear hbx6 hm6 hfr6 hg6 hat6)
   exact HP.o
 case done=>
  rintro Dm W' hDm ⟨J,left',v',d⟩ hD
  have HINE:Hid (zDt a A B C ca cb cc V w F (K+1) (K+1+1) N (n-1) none ({target:=.collected Dm,args:=#[]}::ds) J left' v' W'):=by
   refine⟨d.o.mem,d.o.met.shut fun s hs hsx=>d.o.pre s (List.mem_filter.2 ⟨hs,by simpa using hsx⟩),?_,m.o.au.off m.o.gd d.o.off,m.o.gd.off d.o.off⟩
   obtain⟨Ds,rfl,h2,h3⟩:=m.o.marks;refine⟨Dm::Ds,rfl,List.nodup_cons.2 ⟨fun hm=>?_,h2⟩,fun D' hm=>?_⟩
   ·have:=(h3 Dm hm).2.1.lt
    omega
   rcases List.mem_cons.1 hm with rfl|hm
   ·refine⟨by omega,⟨(gLt hD),fun hb=>?_⟩,hD⟩
    rcases(bP d.o.mem.box).1 hb with h4|h4|h4
    ·have:=List.mem_singleton.1 h4
     omega
    ·omega
    obtain⟨ob,h5,h6⟩:=qA d.o.mem.fr h4;rw[hD] at h5;rw[<-Option.some.inj h5] at h6;cases h6
   obtain⟨a1,a2,a3⟩:=h3 D' hm;exact⟨a1,a2.off d.o.off,(d.o.off.block D' a2.lt a2.not).trans a3⟩
  clear d
  gi_wp2
  exact⟨n-1,by omega,_,_,_,_,_,_,_,_,_,_,_,_,_,_,_,_,_,_,_,_,_,_,_,_,_,_,_,_,_,_,_,_,_,_,_,_,_,_,_,_,_,_,_,_,_,_,_,_,_,_,_,_,_,_,_,_,_,J,left',v',rfl,HINE.o⟩
 case stop=>exact fun _ _ _ _ _ _ h=>h.elim
theorem zCa (a:Au) (A B C:Option Addr) (ca cb cc:Nat) (w:World) (g:zM w 0 a A B C ca cb cc) (d:vG a) (e:xV a.ss):
  Calls Tryz.prog 63 #[.agg #[a.st,a.le,.slice A a.fs.length ca,.slice B a.gs.length cb,.slice C a.ss.length cc]] w (zDW w a):=
 zAl a A B C ca cb cc w g d.rng (Int.le_trans d.st2 (by decide)) (Nat.le_trans d.sl (by decide)) e
end
section
open Go Go.RowKit Go.Sort
def zJ5 (w:World) (r:Au) (n:Int) (e:Ending) (w':World):Prop:=∃A B C ca cb cc,e=.returned (.tuple #[.agg #[r.st,r.le,.slice A r.fs.length ca,.slice B r.gs.length cb,.slice C r.ss.length cc],n])/\zM w' 0 r A B C ca cb cc/\Below w w w'
def zAL (w:World) (r:Au) (n:Int) (e:Ending) (w':World):Prop:=∃A B C ca cb cc,e=.returned (.tuple #[.agg #[r.st,r.le,.slice A r.fs.length ca,.slice B r.gs.length cb,.slice C r.ss.length cc],n])/\zM w' w.heap.size r A B C ca cb cc/\Below w w w'
theorem zGg (a:Au) (A B C:Option Addr) (ca cb cc:Nat) (w:World) (hr:zM w 0 a A B C ca cb cc):
  Calls Tryz.prog 20 #[.agg #[a.st,a.le,.slice A a.fs.length ca,.slice B a.gs.length cb,.slice C a.ss.length cc]] w (zAL w (yW a) (ckA a)):=by
 have HW:=jN w a A B C ca cb cc;have s:Below w w ((auW w a A B C ca cb cc).alloc (.cells #[(0:Int),(0:Int),(),(),()] 31)):=HW.below.alloc (by rw[HW.size];omega) _
 have N:yG ((auW w a A B C ca cb cc).alloc (.cells #[(0:Int),(0:Int),(),(),()] 31)) w.heap.size a A B C ca cb cc:=HW.at.below (bLa) (by rw[HW.size];omega)
 have i:((auW w a A B C ca cb cc).alloc (.cells #[(0:Int),(0:Int),(),(),()] 31)).heap[w.heap.size+1]?=some (.cells #[(0:Int),(0:Int),(),(),()] 31 (0,0)):=by
  rw[<-HW.size];show((auW w a A B C ca cb cc).heap.push _)[(auW w a A B C ca cb cc).heap.size]?=_
  simp
 have h1:((auW w a A B C ca cb cc).alloc (.cells #[(0:Int),(0:Int),(),(),()] 31)).heap.size=w.heap.size+1+1:=by simp[HW.size]
 clear HW;unfold auW at s N i h1;have HR0:=hId (hr.below s)
 go_enter Tryz.func20,Tryz.ntmps20
 go_upto_region 1 with fail
 obtain⟨V,hV⟩:∃V,V=w.heap.size:=⟨_,rfl⟩;rw[<-hV] at N i h1 s ⊢
 generalize (w.alloc (.cells #[a.st,a.le,.slice A a.fs.length ca,.slice B a.gs.length cb,.slice C a.ss.length cc] 31)).alloc (.cells #[(0:Int),(0:Int),(),(),()] 31)=W0 at *
 have HVW:Hid (∀ W,Below W0 W0 W->yG W V a A B C ca cb cc):=fun W h=>N.below h (by omega)
 have K:Hid (∀ W,Below W0 W0 W->W.heap[V+1]?=some (.cells #[(0:Int),(0:Int),(),(),()] 31 (0,0))):=fun W h=>(h.block _ (by omega)).trans i
 have HBF:Hid (∀ W,Below W0 W0 W->∀u0 u1 u2 u3 u4,Below w w (set5 W (V+1) u0 u1 u2 u3 u4)):=fun W h u0 u1 u2 u3 u4=>by
  have:=zS (V:=V+1) (zA s h (by omega)) (by omega) u0 u1 u2 u3 u4
  rwa[hV] at this ⊢
 obtain⟨_,c0,c1,c2,c3,c4⟩:=N;have m:=hId (kQ a A B C ca cb cc W0 HR0.o);have HSZ:=hId h1;have HVV:=hId hV;clear s i h1 hr hV
 go_wp2_with fail
 refine m.o.mono ?_;rintro e w1 ⟨rfl,hb1⟩;have d:=hId hb1;have HR1:=hId (HR0.o.below hb1);clear hb1 m c0 c1 c2 c3 c4 HR0;obtain⟨r0,r1,r2,r3,r4,rf0,rf1,rf2,rf3,rf4⟩:=zZ (K.o _ d.o)
 by_cases hck:ckA a=0
 ·have hck1:(ckA a !=0)=false:=by simp[hck]
  obtain⟨ho,hos⟩:=yP.1 hck;have HO:=hId ho;have HOS:=hId hos;have m:=hId hck
  have HMD:Hid (∀ W,Below w1 w1 W->∀(G:Nat) (out:List Bool),zU W G out->nK a out->Calls Tryz.prog 62 #[.agg #[a.st,a.le,.slice A a.fs.length ca,.slice B a.gs.length cb,.slice C a.ss.length cc],.slice (some ⟨G,0,none⟩) out.length out.length] W (rO W (yW a))):=fun W h G out u g=>by
   have:=zI6 a out A B C (some ⟨G,0,none⟩) ca cb cc out.length W (HR1.o.below h) ((u.bools (by have:=g.len;have:=HO.o.st2;omega)).low (Nat.zero_le _)) g.len HO.o
   rwa[<-zA8 m.o g] at this
  have HRC:Hid (∀ W,Below w1 w1 W->Calls Tryz.prog 63 #[.agg #[a.st,a.le,.slice A a.fs.length ca,.slice B a.gs.length cb,.slice C a.ss.length cc]] W (zDW W a)):=fun W h=>zCa a A B C ca cb cc W (HR1.o.below h) HO.o HOS.o
  clear hck ho hos
  go_upto_region 4 with fail
  obtain⟨_,c0,c1,c2,c3,c4⟩:=HVW.o _ d.o;have hVR:V≠V+1:=by omega
  go_region_held3 (fun w'=>w'.cell? ⟨V,0,none⟩=some (.int .i64 a.st)/\w'.cell? ⟨V,1,none⟩=some (.int .i64 a.le)/\w'.cell? ⟨V,2,none⟩=some (.slice A a.fs.length ca)/\w'.cell? ⟨V,3,none⟩=some (.slice B a.gs.length cb)/\w'.cell? ⟨V,4,none⟩=some (.slice C a.ss.length cc))
   (first|go_keep|exact⟨q0,q1,q2,q3,q4⟩)
   (first
    |(go_at_call 62;refine(HMD.o _ j.o G out HROW.o HRCH.o).mono ?_;rintro e wb ⟨A9,B9,C9,O,U,h0,rfl,hrd,hbb⟩;have HBB:=hId (zA j.o hbb j.o.size);have J:=hId (zA d.o HBB.o d.o.size);have HRD:=hId hrd;obtain⟨_,q0,q1,q2,q3,q4⟩:=HVW.o _ J.o;obtain⟨s0,s1,s2,s3,s4,sf0,sf1,sf2,sf3,sf4⟩:=zZ (K.o _ J.o))
    |(go_at_call 63;refine(HRC.o _ ((Below.refl _ w1).drew)).mono ?_;rintro e wa ⟨G,out,rfl,_,u,g,hba⟩;have j:=hId (zA ((Below.refl w1.heap.size w1).drew) hba nLe);have HROW:=hId u;have HRCH:=hId g;obtain⟨_,q0,q1,q2,q3,q4⟩:=HVW.o _ (zA d.o j.o d.o.size)))
  have hlo:V+1<wa.heap.size:=by have:=j.o.size;have:=d.o.size;have:=HSZ.o;omega
  have HP:Hid (zAL w (yW a) (ckA a) (.returned (.tuple #[.agg #[.int .i64 (yW a).st,.int .i64 (yW a).le,.slice A9 (yW a).fs.length O,.slice B9 (yW a).gs.length U,.slice C9 (yW a).ss.length h0],(0:Int)])) (set5 wb (V+1) (.int .i64 (yW a).st) (.int .i64 (yW a).le) (.slice A9 (yW a).fs.length O) (.slice B9 (yW a).gs.length U) (.slice C9 (yW a).ss.length h0))):=by
   rw[m.o];exact⟨A9,B9,C9,O,U,h0,rfl,(HRD.o.set5_ hlo _ _ _ _ _).low (by have:=HVV.o;omega),HBF.o _ J.o _ _ _ _ _⟩
  have HOO:=hId (zW (K.o _ J.o) (.int .i64 (yW a).st) (.int .i64 (yW a).le) (.slice A9 (yW a).fs.length O) (.slice B9 (yW a).gs.length U) (.slice C9 (yW a).ss.length h0));clear q0 q1 q2 q3 q4 s0 s1 s2 s3 s4 sf0 sf1 sf2 sf3 sf4 hlo
  go_wp2_with fail
  exact bodyPost_ret (aF Tryz.results20 _ _ (V+1) rfl rfl HOO.o) rfl HP.o
 have hck1:(ckA a !=0)=true:=by simp[hck]
 have HP:Hid (zAL w (yW a) (ckA a) (.returned (.tuple #[dS,(ckA a)])) (set5 w1 (V+1) (.int .i64 0) (.int .i64 0) () () ())):=by
  rw[zBp hck];exact⟨none,none,none,0,0,0,rfl,zIl _ _,HBF.o _ d.o _ _ _ _ _⟩
 have HOO:=hId (zW (K.o _ d.o) (.int .i64 0) (.int .i64 0) () () ());clear hck;generalize ckA a=ck at *
 go_wp2_with fail
 exact bodyPost_ret (aF Tryz.results20 _ _ (V+1) rfl rfl HOO.o) rfl HP.o
theorem zK7 (a:Au) (A B C:Option Addr) (ca cb cc:Nat) (w:World) (J:zM w 0 a A B C ca cb cc):
  Calls Tryz.prog 20 #[.agg #[a.st,a.le,.slice A a.fs.length ca,.slice B a.gs.length cb,.slice C a.ss.length cc]] w (zJ5 w (yW a) (ckA a)):=
 (zGg a A B C ca cb cc w J).mono fun _ _ ⟨h,i,j,d,e,g,m,s,u⟩=>⟨h,i,j,d,e,g,m,s.low (Nat.zero_le _),u⟩
end
section
open Go Go.RowKit
def iV (w:World) (t:TypeId) (e:Ending) (w':World):Prop:=
 ∃v,e=.returned v/\w'.ownsRow w.heap.size t 1 v 0 []/\Below w w w'
theorem zKo (n:Nat) (N:n<=100000000) (w:World):
  Calls Tryz.prog 88 #[(),n] w (iV w 3):=by
 obtain⟨K,m,s,u,h⟩:=info_parts qX
 by_cases h0:n=0
 ·subst h0
  have j:Hid (iV w 3 (.returned ()) w):=⟨_,rfl,World.ownsRow_nil _ _ _ _,bRf⟩
  go_enter Tryz.func88,Tryz.ntmps88
  go_wp2
  go_ret
  exact j.o
 have J:0<n:=by omega
 have e:=Lib.run_append_grow_zeros (P:=Tryz.prog) w 22 3 22 3 K _ .i64 .i64 Tryz.underlying22 Tryz.underlying3 m s none 0 0 [] (by rw[u];rfl) n J (by omega) (by omega) (by omega) (by rw[h];omega) (by rw[h,show Builtin.nextslicecap (0+n) 0=n by simp[Builtin.nextslicecap,J]];omega)
 have g:=grownCap_ge w (0+n) 0 3;have d:=grownCap_le_maxLen w (0+n) 0 3 (by simp only[maxLen];omega)
 simp only[Nat.zero_add] at e g d;generalize grownCap w n 0 3=cp at *
 go_enter Tryz.func88,Tryz.ntmps88
 have i:=hId e;clear e
 go_wp2_with (at_builtin;refine zQ rfl (.tmp 20) (.tmp 21) _ _ rfl _ _ _ rfl rfl i.o ?_)
 have j:Hid (iV w 3 (.returned (.slice (some ⟨w,0,none⟩) 0 cp)) (w.alloc (.cells (Builtin.zeroCells #[Value.int IntKind.i64 0] n++Builtin.zeroCells #[Value.int IntKind.i64 0] (cp-n)) 3)).drew):=by
  refine⟨_,rfl,zBO _ _ nLe (by simpa using d) ?_,(bLa).drew⟩
  simp[Builtin.zeroCells]
  omega
 go_ret
 exact j.o
def mX (w:World) (xs:List Int) (e:Ending) (w':World):Prop:=
 ∃A c,e=.returned (.slice A xs.length c)/\zE w' w.heap.size A c xs/\Below w w w'
theorem zBS (G:Nat) (A B:Option Addr) (ca cb:Nat) (xs ys:List Int) (w:World) (hx:zE w 0 A ca xs) (hy:zE w 0 B cb ys) (hl:xs.length+ys.length<=100000000)
  (h0:w.cell? ⟨G,0,none⟩=some (.slice A xs.length ca)) (h1:w.cell? ⟨G,1,none⟩=some (.slice B ys.length cb)) (hG:G<w.heap.size):
  Calls Tryz.prog 49 #[.slice (some ⟨G,0,none⟩) 2 2] w (mX w (xs++ys)):=by
 obtain⟨i0,h2,h3,h4,h5⟩:=info_parts qX
 go_enter Tryz.func49,Tryz.ntmps49
 go_wp2
 go_loop [3,11] (fun s i=>∃k:Nat,k<=2/\i=.int .i64 k/\s=.int .i64 (if k=0 then 0 else if k=1 then xs.length else xs.length+ys.length:Nat)) (fun _ i=>2-(intOf i).toNat)
 case atStart=>exact⟨0,by omega,rfl,rfl⟩
 obtain⟨k,hk,rfl,rfl⟩:=hrel;have K:k=0\/k=1\/k=2:=by omega
 rcases K with rfl|rfl|rfl
 ·go_wp2
  go_round
  case rel=>exact⟨1,by omega,rfl,rfl⟩
  case measure=>simp[intOf]
 ·go_wp2
  go_round
  case rel=>exact⟨2,by omega,rfl,by simp⟩
  case measure=>simp[intOf]
 go_wp2_with fail
 rw[show((xs.length:Int)+(ys.length:Int))=((xs.length+ys.length:Nat):Int) from by omega]
 refine(zKo _ hl w).mono ?_;rintro e w1 ⟨v,rfl,d,h6⟩;have HO:=hId d;clear d
 go_wp2
 go_loopw [6,27] (fun v i wr=>∃(k:Nat) (j:List Int),k<=2/\i=.int .i64 k/\Hid (j=if k=0 then[] else if k=1 then xs else xs++ys)/\wr.ownsRow w.heap.size 3 1 v j.length (j.flatMap fun n:Int=>[Value.int .i64 n])/\Below w w wr) (fun _ i _=>2-(intOf i).toNat)
 case atStart=>exact⟨0,[],by omega,rfl,rfl,by simpa using HO.o,h6⟩
 obtain⟨k,j,hk,rfl,m,d,N⟩:=hrel;have h:=hId d;have u:=hId N;have g0:wr.cell? ⟨G,0,none⟩=some (.slice A xs.length ca):=(N.cell (p:=⟨G,0,none⟩) hG).trans h0
 have g1:wr.cell? ⟨G,1,none⟩=some (.slice B ys.length cb):=(N.cell (p:=⟨G,1,none⟩) hG).trans h1
 have HX:=hId (hx.below N);have HY:=hId (hy.below N);clear d N;have K:k=0\/k=1\/k=2:=by omega
 rcases K with rfl|rfl|rfl
 ·obtain rfl:j=[]:=by simpa using m.o
  have m2:(0+xs.length)*8<=140737488355328:=by omega
  have m3:0+xs.length<=maxLen:=by simp only[maxLen];omega
  go_wp2_with (at_builtin;refine qE _ rfl (.tmp 31) (.tmp 32) _ rfl w.heap.size 3 i0 _ 1 8 Tryz.underlying22 h2 h3 h4 h5 rfl (by decide) u6 0 [] rfl h.o A xs.length ca _ rfl (zN (sz:=1) (fun _=>rfl) _) HX.o.rd (jK _) m3 m2 u.o.size ?_;intro v2 w2 g J U)
  go_roundw
  case rel=>exact⟨1,xs,by omega,rfl,show _=_ from by simp,by simpa using g,qV u.o J h.o nLe u.o.size⟩
  case measure=>simp[intOf]
 ·obtain rfl:j=xs:=by simpa using m.o
  have m2:(j.length+ys.length)*8<=140737488355328:=by omega
  have m3:j.length+ys.length<=maxLen:=by simp only[maxLen];omega
  go_wp2_with (at_builtin;refine qE _ rfl (.tmp 31) (.tmp 32) _ rfl w.heap.size 3 i0 _ 1 8 Tryz.underlying22 h2 h3 h4 h5 rfl (by decide) u6 _ _ rfl h.o B ys.length cb _ rfl (zN (sz:=1) (fun _=>rfl) _) HY.o.rd (jK _) m3 m2 u.o.size ?_;intro v2 w2 g J U)
  go_roundw
  case rel=>exact⟨2,j++ys,by omega,rfl,show _=_ from by simp,by simpa using g,qV u.o J h.o nLe u.o.size⟩
  case measure=>simp[intOf]
 obtain rfl:j=xs++ys:=by simpa using m.o
 have HP:Hid (mX w (xs++ys) (.returned u6) wr):=by
  obtain⟨C,cc,hv,O⟩:=SlE.of_own (bt:=8) h.o (by simp;omega)
  exact⟨C,cc,by rw[hv],O,u.o⟩
 clear h m
 go_wp2
 go_ret
 exact HP.o
theorem zEp (A:Option Addr) (c:Nat) (xs:List Int) (w:World) (m:zE w 0 A c xs):
  Calls Tryz.prog 65 #[.slice A xs.length c] w (mX w xs):=by
 obtain⟨i0,J,N,O,U⟩:=info_parts qX;have e:=m.max
 have q24:∀(w:World) (a:Option Addr) (n c n' u:Nat),(binOp .eql 22 (.slice a n c) (.slice none n' u)).run Tryz.prog w=.ok (.bool a.isNone) w:=fun w a n c n' u=>Lib.run_eql_slice_nil w _ _ a n c n' u Tryz.underlying22
 cases A with
 |none=>
  have K:xs=[]:=by
   cases xs with
   |nil=>rfl
   |cons x r=>
    obtain⟨b,off,h,_⟩:=m.rd (by simp)
    cases h
  subst K;have s:Hid (mX w [] (.returned ()) w):=⟨none,0,rfl,⟨nLe,by omega,by simp,Rd.nil,Fz.no⟩,bRf⟩
  go_enter Tryz.func65,Tryz.ntmps65
  go_wp2_with fail
  go_ret
  exact s.o
 |some a=>
  have HX:=hId (m.rd.below (w':=w.alloc (.cells #[] 3)) (bLa) nLe);have HO:=hId (wP (w:=w) (base:=w.heap.size) 3 1 nLe);have m2:(0+xs.length)*8<=140737488355328:=by omega
  have m3:0+xs.length<=maxLen:=by simp only[maxLen];omega
  have m4:w.heap.size<=(w.alloc (.cells #[] 3)).heap.size:=by simp
  have HM:=hId e;clear m e
  go_enter Tryz.func65,Tryz.ntmps65
  go_wp2_with (at_builtin;refine qE _ rfl (.tmp 5) (.tmp 6) _ rfl w.heap.size 3 i0 _ 1 8 Tryz.underlying22 J N O U rfl (by decide) (.slice (some ⟨w,0,none⟩) 0 0) 0 [] rfl HO.o (some a) xs.length c _ rfl (zN (sz:=1) (fun _=>rfl) _) HX.o (jK _) m3 m2 m4 ?_;intro v2 w2 d j i)
  have s:Hid (mX w xs (.returned v2) w2):=by
   obtain⟨C,cc,hv,g⟩:=SlE.of_own (bt:=8) (xs:=xs) (by simpa using d) HM.o
   exact⟨C,cc,by rw[hv],g,qV (bLa) j HO.o nLe (by simp)⟩
  clear d j i
  go_wp2_with fail
  go_ret
  exact s.o
theorem zID:(Tryz.prog.info? 80).map (fun i=>(i.zero,i.size,i.bytes))=some (some (.agg #[(0:Int),(0:Int),(0:Int)]),3,24):=by kernel_rfl
def zBK (t:TypeId) (sz n:Nat) (cells:List Value) (w:World) (e:Ending) (w':World):Prop:=
 ∃v,e=.returned v/\w'.ownsRow w.heap.size t sz v n cells/\Below w w w'
theorem zFP (A:Option Addr) (c:Nat) (xs:List Int) (w:World) (j:zE w 0 A c xs):
  Calls Tryz.prog 65 #[.slice A xs.length c] w (zBK 3 1 xs.length (xs.flatMap fun n:Int=>[Value.int .i64 n]) w):=by
 obtain⟨i0,u,K,N,O⟩:=info_parts qX;have i:=j.max
 have q24:∀(w:World) (a:Option Addr) (n c U s:Nat),(binOp .eql 22 (.slice a n c) (.slice none U s)).run Tryz.prog w=.ok (.bool a.isNone) w:=fun w a n c U s=>Lib.run_eql_slice_nil w _ _ a n c U s Tryz.underlying22
 cases A with
 |none=>
  have J:xs=[]:=by
   cases xs with
   |nil=>rfl
   |cons x r=>
    obtain⟨b,off,h,_⟩:=j.rd (by simp)
    cases h
  subst J;have m:Hid (zBK 3 1 0 [] w (.returned ()) w):=⟨_,rfl,World.ownsRow_nil _ _ _ _,bRf⟩
  go_enter Tryz.func65,Tryz.ntmps65
  go_wp2_with fail
  go_ret
  exact m.o
 |some a=>
  have HX:=hId (j.rd.below (w':=w.alloc (.cells #[] 3)) (bLa) nLe);have HO:=hId (wP (w:=w) (base:=w.heap.size) 3 1 nLe);have m2:(0+xs.length)*8<=140737488355328:=by omega
  have m3:0+xs.length<=maxLen:=by simp only[maxLen];omega
  have m4:w.heap.size<=(w.alloc (.cells #[] 3)).heap.size:=by simp
  clear j i
  go_enter Tryz.func65,Tryz.ntmps65
  go_wp2_with (at_builtin;refine qE _ rfl (.tmp 5) (.tmp 6) _ rfl w.heap.size 3 i0 _ 1 8 Tryz.underlying22 u K N O rfl (by decide) (.slice (some ⟨w,0,none⟩) 0 0) 0 [] rfl HO.o (some a) xs.length c _ rfl (zN (sz:=1) (fun _=>rfl) _) HX.o (jK _) m3 m2 m4 ?_;intro v2 w2 d g e)
  have m:Hid (zBK 3 1 xs.length (xs.flatMap fun n:Int=>[Value.int .i64 n]) w (.returned v2) w2):=
   ⟨v2,rfl,by simpa using d,qV (bLa) g HO.o nLe (by simp)⟩
  clear d g e
  go_wp2_with fail
  go_ret
  exact m.o
theorem zGq (A:Option Addr) (c:Nat) (xs:List Stp) (w:World) (j:jZ w 0 A c xs):
  Calls Tryz.prog 67 #[.slice A xs.length c] w (zBK 80 3 xs.length (xs.flatMap Stp.cells) w):=by
 obtain⟨i0,u,K,N,O⟩:=info_parts zID;have i:=j.max
 have q24:∀(w:World) (a:Option Addr) (n c U s:Nat),(binOp .eql 29 (.slice a n c) (.slice none U s)).run Tryz.prog w=.ok (.bool a.isNone) w:=fun w a n c U s=>Lib.run_eql_slice_nil w _ _ a n c U s Tryz.underlying29
 cases A with
 |none=>
  have J:xs=[]:=by
   cases xs with
   |nil=>rfl
   |cons x r=>
    obtain⟨b,off,h,_⟩:=j.rd (by simp[Stp.cells])
    cases h
  subst J;have m:Hid (zBK 80 3 0 [] w (.returned ()) w):=⟨_,rfl,World.ownsRow_nil _ _ _ _,bRf⟩
  go_enter Tryz.func67,Tryz.ntmps67
  go_wp2_with fail
  go_ret
  exact m.o
 |some a=>
  have HX:=hId (j.rd.below (w':=w.alloc (.cells #[] 80)) (bLa) nLe);have HO:=hId (wP (w:=w) (base:=w.heap.size) 80 3 nLe);have m2:(0+xs.length)*24<=140737488355328:=by omega
  have m3:0+xs.length<=maxLen:=by simp only[maxLen];omega
  have m4:w.heap.size<=(w.alloc (.cells #[] 80)).heap.size:=by simp
  clear j i
  go_enter Tryz.func67,Tryz.ntmps67
  go_wp2_with (at_builtin;refine qE _ rfl (.tmp 5) (.tmp 6) _ rfl w.heap.size 80 i0 _ 3 24 Tryz.underlying29 u K N O rfl (by decide) (.slice (some ⟨w,0,none⟩) 0 0) 0 [] rfl HO.o (some a) xs.length c _ rfl (zN (sz:=3) (fun _=>rfl) _) HX.o (zAF _) m3 m2 m4 ?_;intro v2 w2 d g e)
  have m:Hid (zBK 80 3 xs.length (xs.flatMap Stp.cells) w (.returned v2) w2):=
   ⟨v2,rfl,by simpa using d,qV (bLa) g HO.o nLe (by simp)⟩
  clear d g e
  go_wp2_with fail
  go_ret
  exact m.o
def lW (w:World) (t:TypeId) (e:Ending) (w':World):Prop:=
 ∃v,e=.returned v/\w'.ownsRow w.heap.size t 1 v 0 []/\Below w w w'
theorem zJR (n:Nat) (N:n<=100000000) (w:World):
  Calls Tryz.prog 103 #[(),n] w (lW w 4):=by
 obtain⟨K,m,s,u,h⟩:=info_parts fV
 by_cases h0:n=0
 ·subst h0
  have j:Hid (lW w 4 (.returned ()) w):=⟨_,rfl,World.ownsRow_nil _ _ _ _,bRf⟩
  go_enter Tryz.func103,Tryz.ntmps103
  go_wp2
  go_ret
  exact j.o
 have J:0<n:=by omega
 have e:=Lib.run_append_grow_zeros (P:=Tryz.prog) w 28 3 28 4 K _ .i64 .i64 Tryz.underlying28 Tryz.underlying3 m s none 0 0 [] (by rw[u];rfl) n J (by omega) (by omega) (by omega) (by rw[h];omega) (by rw[h,show Builtin.nextslicecap (0+n) 0=n by simp[Builtin.nextslicecap,J]];omega)
 have g:=grownCap_ge w (0+n) 0 4;have d:=grownCap_le_maxLen w (0+n) 0 4 (by simp only[maxLen];omega)
 simp only[Nat.zero_add] at e g d;generalize grownCap w n 0 4=cp at *
 go_enter Tryz.func103,Tryz.ntmps103
 have i:=hId e;clear e
 go_wp2_with (at_builtin;refine zQ rfl (.tmp 20) (.tmp 21) _ _ rfl _ _ _ rfl rfl i.o ?_)
 have j:Hid (lW w 4 (.returned (.slice (some ⟨w,0,none⟩) 0 cp)) (w.alloc (.cells (Builtin.zeroCells #[Value.bool false] n++Builtin.zeroCells #[Value.bool false] (cp-n)) 4)).drew):=by
  refine⟨_,rfl,zBO _ _ nLe (by simpa using d) ?_,(bLa).drew⟩
  simp[Builtin.zeroCells]
  try omega
 go_ret
 exact j.o
theorem zE7 (G:Nat) (A B:Option Addr) (ca cb:Nat) (xs ys:List Bool) (w:World) (hx:xG w 0 A ca xs) (hy:xG w 0 B cb ys) (hl:xs.length+ys.length<=100000000)
  (h0:w.cell? ⟨G,0,none⟩=some (.slice A xs.length ca)) (h1:w.cell? ⟨G,1,none⟩=some (.slice B ys.length cb)) (hG:G<w.heap.size):
  Calls Tryz.prog 66 #[.slice (some ⟨G,0,none⟩) 2 2] w (zBK 4 1 (xs++ys).length ((xs++ys).flatMap fun b:Bool=>[Value.bool b]) w):=by
 obtain⟨i0,U,h2,h3,h4⟩:=info_parts fV
 go_enter Tryz.func66,Tryz.ntmps66
 go_wp2
 go_loop [3,11] (fun s i=>∃k:Nat,k<=2/\i=.int .i64 k/\s=.int .i64 (if k=0 then 0 else if k=1 then xs.length else xs.length+ys.length:Nat)) (fun _ i=>2-(intOf i).toNat)
 case atStart=>exact⟨0,by omega,rfl,rfl⟩
 obtain⟨k,hk,rfl,rfl⟩:=hrel;have K:k=0\/k=1\/k=2:=by omega
 rcases K with rfl|rfl|rfl
 ·go_wp2
  go_round
  case rel=>exact⟨1,by omega,rfl,rfl⟩
  case measure=>simp[intOf]
 ·go_wp2
  go_round
  case rel=>exact⟨2,by omega,rfl,by simp⟩
  case measure=>simp[intOf]
 go_wp2_with fail
 rw[show((xs.length:Int)+(ys.length:Int))=((xs.length+ys.length:Nat):Int) from by omega]
 refine(zJR _ hl w).mono ?_;rintro e w1 ⟨v,rfl,d,h5⟩;have HO:=hId d;clear d
 go_wp2
 go_loopw [6,27] (fun v i wr=>∃(k:Nat) (j:List Bool),k<=2/\i=.int .i64 k/\Hid (j=if k=0 then[] else if k=1 then xs else xs++ys)/\wr.ownsRow w.heap.size 4 1 v j.length (j.flatMap fun b:Bool=>[Value.bool b])/\Below w w wr) (fun _ i _=>2-(intOf i).toNat)
 case atStart=>exact⟨0,[],by omega,rfl,rfl,by simpa using HO.o,h5⟩
 obtain⟨k,j,hk,rfl,m,d,N⟩:=hrel;have h:=hId d;have u:=hId N;have g0:wr.cell? ⟨G,0,none⟩=some (.slice A xs.length ca):=(N.cell (p:=⟨G,0,none⟩) hG).trans h0
 have g1:wr.cell? ⟨G,1,none⟩=some (.slice B ys.length cb):=(N.cell (p:=⟨G,1,none⟩) hG).trans h1
 have HX:=hId (hx.below N);have HY:=hId (hy.below N);clear d N;have K:k=0\/k=1\/k=2:=by omega
 rcases K with rfl|rfl|rfl
 ·obtain rfl:j=[]:=by simpa using m.o
  have m2:(0+xs.length)*1<=140737488355328:=by omega
  have m3:0+xs.length<=maxLen:=by simp only[maxLen];omega
  go_wp2_with (at_builtin;refine qE _ rfl (.tmp 31) (.tmp 32) _ rfl w.heap.size 4 i0 _ 1 1 Tryz.underlying28 U h2 h3 h4 rfl (by decide) u6 0 [] rfl h.o A xs.length ca _ rfl (zN (sz:=1) (fun _=>rfl) _) HX.o.rd (tN _) m3 m2 u.o.size ?_;intro v2 w2 g J O)
  go_roundw
  case rel=>exact⟨1,xs,by omega,rfl,show _=_ from by simp,by simpa using g,qV u.o J h.o nLe u.o.size⟩
  case measure=>simp[intOf]
 ·obtain rfl:j=xs:=by simpa using m.o
  have m2:(j.length+ys.length)*1<=140737488355328:=by omega
  have m3:j.length+ys.length<=maxLen:=by simp only[maxLen];omega
  go_wp2_with (at_builtin;refine qE _ rfl (.tmp 31) (.tmp 32) _ rfl w.heap.size 4 i0 _ 1 1 Tryz.underlying28 U h2 h3 h4 rfl (by decide) u6 _ _ rfl h.o B ys.length cb _ rfl (zN (sz:=1) (fun _=>rfl) _) HY.o.rd (tN _) m3 m2 u.o.size ?_;intro v2 w2 g J O)
  go_roundw
  case rel=>exact⟨2,j++ys,by omega,rfl,show _=_ from by simp,by simpa using g,qV u.o J h.o nLe u.o.size⟩
  case measure=>simp[intOf]
 obtain rfl:j=xs++ys:=by simpa using m.o
 have HP:Hid (zBK 4 1 (xs++ys).length ((xs++ys).flatMap fun b:Bool=>[Value.bool b]) w (.returned u6) wr):=⟨u6,rfl,h.o,u.o⟩
 clear h m
 go_wp2
 go_ret
 exact HP.o
def jE (a b:Au):Int:=if ckA a=0 then(if ckA b=0 then(if a.le=b.le then 0 else 1) else ckA b) else ckA a
def bT (w:World) (a b:Au) (A B C D E F:Option Addr) (ca cb cc cd ce cf:Nat):World:=auW (auW w a A B C ca cb cc) b D E F cd ce cf
structure zL8 (w W:World) (a b:Au) (A B C D E F:Option Addr) (ca cb cc cd ce cf:Nat):Prop where
 below:Below w w W
 size:W.heap.size=w.heap.size+2
 at1:yG W w.heap.size a A B C ca cb cc
 at2:yG W (w.heap.size+1) b D E F cd ce cf
theorem cJ (w:World) (a b:Au) (A B C D E F:Option Addr) (ca cb cc cd ce cf:Nat):zL8 w (bT w a b A B C D E F ca cb cc cd ce cf) a b A B C D E F ca cb cc cd ce cf:=by
 have d:=jN w a A B C ca cb cc;have e:=jN (auW w a A B C ca cb cc) b D E F cd ce cf;unfold bT;have g:=d.size;have h:=e.size;refine⟨zA d.below e.below d.below.size,by omega,d.at.below e.below d.at.lt,?_⟩
 have:=e.at
 rwa[g] at this
structure cK (W:World) (G:Nat) (a b:Au) (A B C D E F:Option Addr) (ca cb cc cd ce cf:Nat):Prop where
 lt:G<W.heap.size
 c0:W.cell? ⟨G,0,none⟩=some (.int .i64 a.st)
 c1:W.cell? ⟨G,1,none⟩=some (.int .i64 a.le)
 c2:W.cell? ⟨G,2,none⟩=some (.slice A a.fs.length ca)
 c3:W.cell? ⟨G,3,none⟩=some (.slice B a.gs.length cb)
 c4:W.cell? ⟨G,4,none⟩=some (.slice C a.ss.length cc)
 c5:W.cell? ⟨G,5,none⟩=some (.int .i64 b.st)
 c6:W.cell? ⟨G,6,none⟩=some (.int .i64 b.le)
 c7:W.cell? ⟨G,7,none⟩=some (.slice D b.fs.length cd)
 c8:W.cell? ⟨G,8,none⟩=some (.slice E b.gs.length ce)
 c9:W.cell? ⟨G,9,none⟩=some (.slice F b.ss.length cf)
theorem cK.below {W W':World} {G n:Nat} {a b:Au} {A B C D E F:Option Addr} {ca cb cc cd ce cf:Nat} (h:cK W G a b A B C D E F ca cb cc cd ce cf) (d:Below n W W') (e:G<n):cK W' G a b A B C D E F ca cb cc cd ce cf:=
 ⟨Nat.lt_of_lt_of_le h.lt d.size,(d.cell (p:=⟨G,0,none⟩) e).trans h.c0,(d.cell (p:=⟨G,1,none⟩) e).trans h.c1,(d.cell (p:=⟨G,2,none⟩) e).trans h.c2,(d.cell (p:=⟨G,3,none⟩) e).trans h.c3,(d.cell (p:=⟨G,4,none⟩) e).trans h.c4,
  (d.cell (p:=⟨G,5,none⟩) e).trans h.c5,(d.cell (p:=⟨G,6,none⟩) e).trans h.c6,(d.cell (p:=⟨G,7,none⟩) e).trans h.c7,(d.cell (p:=⟨G,8,none⟩) e).trans h.c8,(d.cell (p:=⟨G,9,none⟩) e).trans h.c9⟩
def zFZ (w:World) (a b:Au) (A B C D E F:Option Addr) (ca cb cc cd ce cf:Nat):World:=
 w.alloc (.cells #[a.st,a.le,.slice A a.fs.length ca,.slice B a.gs.length cb,.slice C a.ss.length cc,b.st,b.le,.slice D b.fs.length cd,.slice E b.gs.length ce,.slice F b.ss.length cf] 31)
theorem zIh (w:World) (a b:Au) (A B C D E F:Option Addr) (ca cb cc cd ce cf:Nat):Below w w (zFZ w a b A B C D E F ca cb cc cd ce cf)/\cK (zFZ w a b A B C D E F ca cb cc cd ce cf) w.heap.size a b A B C D E F ca cb cc cd ce cf:=by
 unfold zFZ;refine⟨by go_grown,by simp,?_,?_,?_,?_,?_,?_,?_,?_,?_,?_⟩<;>go_simp
theorem zHt (a b:Au) (A B C D E F:Option Addr) (ca cb cc cd ce cf:Nat) (w:World) (ha:zM w 0 a A B C ca cb cc) (hb:zM w 0 b D E F cd ce cf):
  Calls Tryz.prog 64 #[.agg #[a.st,a.le,.slice A a.fs.length ca,.slice B a.gs.length cb,.slice C a.ss.length cc],.agg #[b.st,b.le,.slice D b.fs.length cd,.slice E b.gs.length ce,.slice F b.ss.length cf]] w (uI w (jE a b)):=by
 have HCA:=hId (fun W (hW:Below w w W)=>kQ a A B C ca cb cc W (ha.below hW))
 have HCB:=hId (fun W (hW:Below w w W)=>kQ b D E F cd ce cf W (hb.below hW))
 have J:=hId (cJ w a b A B C D E F ca cb cc cd ce cf);clear ha hb
 go_enter Tryz.func64,Tryz.ntmps64
 go_upto_region 1 with fail
 change Code.wp _ _ _ _ (bT w a b A B C D E F ca cb cc cd ce cf);generalize bT w a b A B C D E F ca cb cc cd ce cf=W0 at *;obtain⟨V,hV⟩:∃V,V=w.heap.size:=⟨_,rfl⟩;have HV:=hId hV
 have s:=hId (show yG W0 V a A B C ca cb cc by rw[hV];exact J.o.at1)
 have u:=hId (show yG W0 (V+1) b D E F cd ce cf by rw[hV];exact J.o.at2)
 have U:=hId J.o.below;rw[<-hV];clear J hV;obtain⟨_,c0,c1,c2,c3,c4⟩:=s.o;obtain⟨_,d0,d1,d2,d3,d4⟩:=u.o;have H2:=hId (zIh W0 a b A B C D E F ca cb cc cd ce cf)
 go_upto_block 0 with fail
 change Code.wp _ _ _ _ (zFZ W0 a b A B C D E F ca cb cc cd ce cf);generalize zFZ W0 a b A B C D E F ca cb cc cd ce cf=W1 at *;obtain⟨G,hG⟩:∃G,G=W0.heap.size:=⟨_,rfl⟩;rw[<-hG] at H2 ⊢;have HA3:=hId H2.o.2
 have d:Hid (Below w w W1):=zA U.o H2.o.1 (by rw[hG];exact U.o.size)
 have K:=hId (s.o.below H2.o.1 (by rw[hG];exact s.o.lt))
 have N:=hId (u.o.below H2.o.1 (by rw[hG];exact u.o.lt))
 clear H2 hG c0 c1 c2 c3 c4 d0 d1 d2 d3 d4 s u U
 go_wp2_with fail
 go_loopw [6,7,12] (fun _ _ i wr=>∃k:Nat,k<=2/\i=.int .i64 k/\Hid (Below W1 W1 wr)/\Hid (1<=k->ckA a=0)/\Hid (2<=k->ckA b=0)) (fun _ _ i _=>2-(intOf i).toNat)
 case atStart=>exact⟨0,by omega,rfl,bRf,fun h=>absurd h (by omega),fun h=>absurd h (by omega)⟩
 obtain⟨k,hk,rfl,g,O,HCK2⟩:=hrel;obtain⟨_,c0,c1,c2,c3,c4⟩:=K.o.below g.o K.o.lt;obtain⟨_,d0,d1,d2,d3,d4⟩:=N.o.below g.o N.o.lt;obtain⟨_,e0,e1,e2,e3,e4,e5,e6,e7,e8,e9⟩:=HA3.o.below g.o HA3.o.lt
 have hk3:k=0\/k=1\/k=2:=by omega
 rcases hk3 with rfl|rfl|rfl
 ·have j:=hId (jN wr a A B C ca cb cc)
  go_wp2_with (first
   |(go_at_call 48;refine(HCA.o _ (zA d.o (zA g.o j.o.below g.o.size) d.o.size)).mono ?_;rintro e w3 ⟨rfl,m⟩))
  ·rename_i h
   have h':¬ckA a=0:=by simpa using h
   have HP:Hid (uI w (jE a b) (.returned (ckA a)) w3):=⟨by unfold jE;rw[if_neg h'],zA (zA d.o (zA g.o j.o.below g.o.size) d.o.size) m (Nat.le_trans d.o.size (Nat.le_trans g.o.size j.o.below.size))⟩
   go_ret
   exact HP.o
  rename_i h
  have h':ckA a=0:=by simpa using h
  exact⟨⟨1,by omega,rfl,zA (zA g.o j.o.below g.o.size) m (Nat.le_trans g.o.size j.o.below.size),fun _=>h',fun h=>absurd h (by omega)⟩,by simp[intOf]⟩
 ·have j:=hId (jN wr b D E F cd ce cf)
  have h1:=O.o (by omega)
  go_wp2_with (first
   |(go_at_call 48;refine(HCB.o _ (zA d.o (zA g.o j.o.below g.o.size) d.o.size)).mono ?_;rintro e w3 ⟨rfl,m⟩))
  ·rename_i h
   have h':¬ckA b=0:=by simpa using h
   have HP:Hid (uI w (jE a b) (.returned (ckA b)) w3):=⟨by unfold jE;rw[if_pos h1,if_neg h'],zA (zA d.o (zA g.o j.o.below g.o.size) d.o.size) m (Nat.le_trans d.o.size (Nat.le_trans g.o.size j.o.below.size))⟩
   go_ret
   exact HP.o
  rename_i h
  have h':ckA b=0:=by simpa using h
  exact⟨⟨2,by omega,rfl,zA (zA g.o j.o.below g.o.size) m (Nat.le_trans g.o.size j.o.below.size),fun _=>h1,fun _=>h'⟩,by simp[intOf]⟩
 have h1:=O.o (by omega)
 have h2:=HCK2.o (by omega)
 have HBE:Hid (Below w w wr):=zA d.o g.o d.o.size
 by_cases hl:a.le=b.le
 ·have HP:Hid (uI w (jE a b) (.returned (.int .i64 0)) wr):=⟨by unfold jE;rw[if_pos h1,if_pos h2,if_pos hl],HBE.o⟩
  have hl':(a.le !=b.le)=false:=by simp[hl]
  clear hl h1 h2
  go_wp2_with fail
  go_ret
  exact HP.o
 have HP:Hid (uI w (jE a b) (.returned (.int .i64 1)) wr):=⟨by unfold jE;rw[if_pos h1,if_pos h2,if_neg hl],HBE.o⟩
 have hl':(a.le !=b.le)=true:=by simpa using hl
 clear hl h1 h2
 go_wp2_with fail
 go_ret
 exact HP.o
end
end Go.Proofs.YtoglgeaiiipchaaGreatDoor
