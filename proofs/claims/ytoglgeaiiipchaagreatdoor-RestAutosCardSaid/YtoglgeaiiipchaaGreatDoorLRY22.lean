import Derived.Test.YtoglgeaiiipchaaGreatDoorLRY21
set_option linter.unusedSimpArgs false
set_option linter.unusedVariables false
set_option maxRecDepth 100000
set_option maxHeartbeats 8000000
namespace Go.Proofs.YtoglgeaiiipchaaGreatDoor
section
open Go Go.RowKit Go.Maps Go.Shelf
def tD (a:Au) (row:List Int) (y:Int×Nat):Prop:=0<=y.1/\y.1<a.st/\y.2<row.length
theorem tD.w {a:Au} (d:vG a) {row:List Int} (j:row.length<=8000) {y:Int×Nat} (h:tD a row y):SpW y:=by
 obtain⟨e,g,i⟩:=h;have:=d.st2;exact⟨WalkArith.wf_i64 (by omega),WalkArith.wf_i64 (by omega)⟩
def nxt (row:List Int) (back p:Nat):Nat:=if p+1=row.length then back else p+1
def zAm (a:Au) (row:List Int) (back:Nat) (x:Int×Nat):List (Int×Nat):=yK a row x.1 x.2 (nxt row back x.2) (zG a x.1)
theorem zG3 {a:Au} (i:vG a) {row:List Int} {d:Nat} (u:d<row.length) {x y:Int×Nat} (m:tD a row x) (h:y∈zAm a row d x):tD a row y:=by
 unfold zAm yK at h;obtain⟨s,j,rfl⟩:=List.mem_map.1 h;have g:=(List.mem_filter.1 (List.mem_filter.1 j).1).1;have e:=(i.sr s g).2.1;refine⟨e.1,e.2,?_⟩;show nxt row d x.2<_;have:=m.2.2;unfold nxt
 split<;>omega
def SpE (a:Au) (row:List Int) (back:Nat) (x y:Int×Nat):Prop:=y∈zAm a row back x
def tJ (a:Au) (row:List Int):Nat:=a.st.toNat*row.length
theorem nV:∀(n:Nat) (L:List Nat),L.Nodup->(∀ x∈L,x<n)->L.length<=n
 |0,[],_,_=>nLe
 |0,x::L,_,h=>absurd (h x (List.mem_cons_self ..)) (by omega)
 |n+1,L,hn,h=>by
  have j:=nV n (L.filter (·≠n)) (hn.filter _) (fun x d=>by
   obtain⟨e,g⟩:=List.mem_filter.1 d;have:=h x e
   simp at g
   omega)
  have e:L.length<=(L.filter (·≠n)).length+1:=by
   by_cases hm:n∈L
   ·have i:L.erase n=L.filter (·≠n):=by
     have:=hn.erase_eq_filter n;rw[this]
     congr 1
     funext x
     by_cases d:x=n<;>simp[d,bne]
    rw[<-i,List.length_erase_of_mem hm];omega
   rw[List.filter_eq_self.2 (fun x d=>by simp;rintro rfl;exact hm d)]
   omega
  omega
theorem zLy {q R p:Nat} (h:p<R):(q*R+p)%R=p:=by rw[Nat.mul_comm,Nat.mul_add_mod,Nat.mod_eq_of_lt h]
theorem bF {a:Au} {row:List Int} {L:List (Int×Nat)} (s:L.Nodup) (h:∀y∈L,tD a row y):L.length<=tJ a row:=by
 have:=nV (tJ a row) (L.map fun y=>y.1.toNat*row.length+y.2) (List.pairwise_map.2 (s.imp_of_mem fun{y z} d hz hne he=>hne (by
   obtain⟨j,_,g⟩:=h y d;obtain⟨O,_,J⟩:=h z hz;have e:(y.1.toNat*row.length+y.2)%row.length=(z.1.toNat*row.length+z.2)%row.length:=by rw[he]
   rw[zLy g,zLy J] at e;have i:y.1.toNat*row.length=z.1.toNat*row.length:=by omega
   have K:=Nat.eq_of_mul_eq_mul_right (show 0<row.length by omega) i
   exact Prod.ext (by omega) e))) (fun x u=>by
  obtain⟨y,d,rfl⟩:=List.mem_map.1 u;obtain⟨j,N,g⟩:=h y d;have m:=Nat.mul_le_mul_right row.length (show y.1.toNat+1<=a.st.toNat by omega)
  unfold tJ;rw[Nat.succ_mul] at m;omega)
 simpa using this
structure Met (a:Au) (row:List Int) (back:Nat) (fr L left:List (Int×Nat)) (n:Nat) (op:Option (Int×Nat)):Prop where
 nd:L.Nodup
 ok:∀y∈L,tD a row y
 lok:∀y∈left,y∈fr\/y∈L
 sound:∀y∈L,∃x∈fr,vT (SpE a row back) x y
 closed:∀z,z∈fr\/z∈L->z∈left\/some z=op\/∀y,SpE a row back z y->y∈L
 len:left.length<=fr.length+L.length
 meas:2*(tJ a row-L.length)+left.length<=n
theorem Met.start (a:Au) (row:List Int) (d:Nat) (e:List (Int×Nat)):Met a row d e [] e (2*tJ a row+e.length) none:=
 ⟨.nil,fun y h=>(by cases h),fun y h=>.inl h,fun y h=>(by cases h),fun z h=>.inl (h.elim id fun h=>(by cases h)),by simp,by simp⟩
theorem Met.pop {a:Au} {row:List Int} {d n:Nat} {e L left:List (Int×Nat)} {x:Int×Nat} (h:Met a row d e L (left++[x]) n none):Met a row d e L left (n-1) (some x)/\0<n:=by
 have g:=h.meas;have i:=h.len;rw[List.length_append,List.length_cons,List.length_nil] at g i;refine⟨⟨h.nd,h.ok,fun y j=>h.lok y (List.mem_append_left _ j),h.sound,fun z m=>?_,by omega,by omega⟩,by omega⟩
 rcases h.closed z m with h3|h3|h3
 ·rcases List.mem_append.1 h3 with h4|h4
  ·exact .inl h4
  exact .inr (.inl (by rw[List.mem_singleton.1 h4]))
 ·cases h3
 exact .inr (.inr h3)
theorem Met.add {a:Au} {row:List Int} {d n:Nat} {m L left:List (Int×Nat)} {x y:Int×Nat} (h:Met a row d m L left n (some x)) (hx:x∈m\/x∈L) (N:SpE a row d x y) (s:tD a row y) (O:y∉L):
  Met a row d m (L++[y]) (left++[y]) n (some x):=by
 have j:(L++[y]).Nodup:=List.nodup_append.2 ⟨h.nd,by simp,fun u J v hv e=>O (by rw[<-List.mem_singleton.1 hv,<-e];exact J)⟩
 have g:∀z∈L++[y],tD a row z:=fun z i=>(List.mem_append.1 i).elim (h.ok z) fun K=>by rw[List.mem_singleton.1 K];exact s
 have U:=bF j g;have K:=h.meas;have h2:=h.len;rw[List.length_append,List.length_cons,List.length_nil] at U;refine⟨j,g,fun z i=>?_,fun z i=>?_,fun z i=>?_,by simp;omega,by simp;omega⟩
 ·rcases List.mem_append.1 i with h3|h3
  ·exact(h.lok z h3).imp id (List.mem_append_left _)
  exact .inr (List.mem_append_right _ h3)
 ·rcases List.mem_append.1 i with h3|h3
  ·exact h.sound z h3
  rw[List.mem_singleton.1 h3]
  rcases hx with h4|h4
  ·exact⟨x,h4,.one N⟩
  obtain⟨f,hf,hp⟩:=h.sound x h4;exact⟨f,hf,hp.on N⟩
 have:(z∈m\/z∈L)\/z=y:=by
  rcases i with h3|h3
  ·exact .inl (.inl h3)
  exact(List.mem_append.1 h3).elim (fun h4=>.inl (.inr h4)) fun h4=>.inr (List.mem_singleton.1 h4)
 rcases this with h3|rfl
 ·rcases h.closed z h3 with h4|h4|h4
  ·exact .inl (List.mem_append_left _ h4)
  ·exact .inr (.inl h4)
  exact .inr (.inr fun u J=>List.mem_append_left _ (h4 u J))
 exact .inl (by simp)
theorem Met.shut {a:Au} {row:List Int} {d n:Nat} {e L left:List (Int×Nat)} {x:Int×Nat} (h:Met a row d e L left n (some x)) (g:∀y∈zAm a row d x,y∈L):Met a row d e L left n none:=by
 refine⟨h.nd,h.ok,h.lok,h.sound,fun z j=>?_,h.len,h.meas⟩
 rcases h.closed z j with h1|h1|h1
 ·exact .inl h1
 ·exact .inr (.inr fun y i=>g y (by rw[<-Option.some.inj h1];exact i))
 exact .inr (.inr h1)
theorem Met.done {a:Au} {row:List Int} {d n:Nat} {g L:List (Int×Nat)} (h:Met a row d g L [] n none) (y:Int×Nat):y∈L↔∃x∈g,vT (SpE a row d) x y:=by
 refine⟨h.sound y,?_⟩;rintro⟨x,j,i⟩;have e:∀z,z∈g\/z∈L->∀y,SpE a row d z y->y∈L:=fun z m=>(h.closed z m).elim (fun h=>(by cases h)) fun h=>h.elim (fun h=>(by cases h)) id
 induction i with
 |one h1=>exact e x (.inl j) _ h1
 |on _ h1 ih=>exact e _ (.inr ih) _ h1
structure kH (lo:Nat) (w:World) (fv:Value) (F M T:Nat) (L left:List (Int×Nat)) (v:Value) (W:World):Prop where
 grown:w.grownBy W fv.ownBlock
 box:Boxed W F 88 v
 fr:qT W lo v left
 loc:v.ownBlock=fv.ownBlock\/∀r,v.ownBlock=some r->w.heap.size<=r
 map:jH W M L
 t5:Boxed W T 91 (.map (some M))
 row:∀r n S,jJ w r n S->(∀ y∈L,S y)->jJ W r n S
variable {lo F M T:Nat} {w W W':World} {fv v:Value} {L left:List (Int×Nat)}
theorem kH.below (h:kH lo w fv F M T L left v W) (d:Below W W W'):kH lo w fv F M T L left v W':=by
 have g:W.grownBy W' none:=⟨d.os,d.tape,d.output,d.size,fun k e _=>d.block k e⟩
 refine⟨⟨d.os.trans h.grown.os,d.tape.trans h.grown.tape,d.output.trans h.grown.output,Nat.le_trans h.grown.size d.size,fun k e m=>(d.block k (Nat.lt_of_lt_of_le e h.grown.size)).trans (h.grown.block k e m)⟩,
  h.box.kept g (by simp),zD h.fr d,h.loc,h.map.below d,h.t5.kept g (by simp),fun r n S i j=>(h.row r n S i j).heap (d.block r (h.row r n S i j).lt)⟩
theorem kH.own {n:Nat} (hM:M<n) (hw:w.heap.size<=n) {row:Option Nat} (h:kH lo w fv F M T L left v W) (d:W.grownBy W' row) (J:∀r,row=some r->n<=r/\∃o:Obj,W.heap[r]?=some o/\o.isCells=false):kH lo w fv F M T L left v W':=by
 have j:∀{k:Nat} {o:Obj},W.heap[k]?=some o->o.isCells=true->some k≠row:=fun m O e=>by
  obtain⟨_,o',g,i⟩:=J _ e.symm;rw[m] at g;rw[<-Option.some.inj g,O] at i;cases i
 have U:some M≠row:=fun e=>by have:=(J M e.symm).1;omega
 refine⟨⟨d.os.trans h.grown.os,d.tape.trans h.grown.tape,d.output.trans h.grown.output,Nat.le_trans h.grown.size d.size,fun k m N=>(d.block k (Nat.lt_of_lt_of_le m h.grown.size) fun e=>by have:=(J k e.symm).1;omega).trans (h.grown.block k m N)⟩,
  h.box.kept d (j h.box rfl),?_,h.loc,World.ownsMap.kept h.map d U,h.t5.kept d (j h.t5 rfl),fun r n S g i=>?_⟩
 ·refine World.ownsRow.kept h.fr d ?_
  cases hv:v.ownBlock with
  |none=>exact .inl rfl
  |some r=>
   obtain⟨ob,g,i⟩:=qA h.fr hv;exact .inr (j g i)
 obtain⟨s,u,K⟩:=h.row r n S g i;exact jJ.heap ⟨s,u,K⟩ (d.block r (gLt u) (j u rfl))
theorem kH.set {u:Value} {left':List (Int×Nat)} (hF:w.heap.size<=F) (m:F≠M) (s:F≠T) (h:kH lo w fv F M T L left v W) (K:qT W lo u left') (g:u.ownBlock=v.ownBlock):kH lo w fv F M T L left' u (W.setCell ⟨F,0,none⟩ u):=by
 have d:=grownBy_setCell' W F u
 refine⟨⟨h.grown.os,h.grown.tape,h.grown.output,Nat.le_trans h.grown.size d.size,fun k J hn=>(d.block k (Nat.lt_of_lt_of_le J h.grown.size) fun e=>by simp at e;omega).trans (h.grown.block k J hn)⟩,
  h.box.set u,World.ownsRow.kept K d (.inr (h.box.not_row (by decide) K).symm),by rw[g];exact h.loc,World.ownsMap.kept h.map d (by simpa using m.symm),h.t5.kept d (by simpa using s.symm),fun r n S N O=>?_⟩
 obtain⟨i,j,U⟩:=h.row r n S N O;refine jJ.heap ⟨i,j,U⟩ (d.block r (gLt j) fun e=>?_)
 obtain rfl:r=F:=by simpa using e
 have:=(show W.heap[r]?=_ from h.box).symm.trans j
 simp at this
theorem kH.map1 {W1:World} {s:List (Int×Nat)} (hM:w.heap.size<=M) (J:F≠M) (K:T≠M) (h:kH lo w fv F M T L left v W) (d:W.grownBy W1 (some M)) (hm:jH W1 M s) (hL:∀y∈L,y∈s):kH lo w fv F M T s left v W1:=by
 obtain⟨es,j,i,_⟩:∃es j,W.heap[M]?=some (.map es j)/\True:=by obtain⟨es,j,g,_⟩:=h.map;exact⟨es,j,g,trivial⟩
 refine⟨⟨d.os.trans h.grown.os,d.tape.trans h.grown.tape,d.output.trans h.grown.output,Nat.le_trans h.grown.size d.size,fun k O hn=>(d.block k (Nat.lt_of_lt_of_le O h.grown.size) fun e=>by simp at e;omega).trans (h.grown.block k O hn)⟩,
  h.box.kept d (by simpa using J),World.ownsRow.kept h.fr d ?_,h.loc,hm,h.t5.kept d (by simpa using K),fun r n S g m=>?_⟩
 ·cases hv:v.ownBlock with
  |none=>exact .inl rfl
  |some r=>
   obtain⟨ob,g,m⟩:=qA h.fr hv;refine .inr fun e=>?_
   obtain rfl:r=M:=by simpa using e
   rw[i] at g;rw[<-Option.some.inj g] at m;cases m
 have u:=h.row r n S g fun y hy=>m y (hL y hy)
 refine u.heap (d.block r u.lt fun e=>?_)
 obtain rfl:r=M:=by simpa using e
 obtain⟨U,N,_⟩:=u;rw[i] at N;cases N
theorem kH.app {g:World} {m:Value} {y:Int×Nat} (hF:w.heap.size<=F) (O:F≠M) (U:F≠T) (h:kH lo w fv F M T L left v W) (J:qT g lo m (left++[y])) (j:W.grownBy g v.ownBlock)
  (h0:m.ownBlock=v.ownBlock\/m.ownBlock=some W.heap.size) (N:∀r n S,jJ W r n S->S y->jJ g r n S) (hy:y∈L):
  Boxed g F 88 v/\kH lo w fv F M T L (left++[y]) m (g.setCell ⟨F,0,none⟩ m):=by
 have i:Boxed g F 88 v:=h.box.kept j (h.box.not_row (by decide) h.fr)
 have d:=grownBy_setCell' g F m
 have h6:some M≠v.ownBlock:=fun e=>by
  obtain⟨ob,h1,s⟩:=qA h.fr e.symm;obtain⟨es,ck,u,_⟩:=h.map;rw[u] at h1;rw[<-Option.some.inj h1] at s;cases s
 have h5:jH g M L:=World.ownsMap.kept h.map j h6
 refine⟨i,⟨⟨j.os.trans h.grown.os,j.tape.trans h.grown.tape,j.output.trans h.grown.output,Nat.le_trans h.grown.size (Nat.le_trans j.size d.size),fun k hk hn=>?_⟩,i.set m,World.ownsRow.kept J d (.inr (i.not_row (by decide) J).symm),?_,World.ownsMap.kept h5 d (by simpa using O.symm),(h.t5.kept j (h.t5.not_row (by decide) h.fr)).kept d (by simpa using U.symm),fun r n S h1 s=>?_⟩⟩
 ·have K:=Nat.lt_of_lt_of_le hk h.grown.size
  refine(d.block k (Nat.lt_of_lt_of_le K j.size) fun e=>by simp at e;omega).trans ((j.block k K fun e=>?_).trans (h.grown.block k hk hn))
  rcases h.loc with h1|h1
  ·exact hn (e.trans h1)
  have:=h1 k e.symm;omega
 ·rcases h0 with h1|h1
  ·rw[h1];exact h.loc
  exact .inr fun r hr=>by rw[h1] at hr;have:=h.grown.size;simp at hr;omega
 have u:=N r n S (h.row r n S h1 s) (s y hy);refine u.heap (d.block r u.lt fun e=>?_)
 obtain rfl:r=F:=by simpa using e
 obtain⟨cur,h4,_⟩:=u;have:=(show g.heap[r]?=_ from i).symm.trans h4
 simp at this
theorem kH.off {W':World} {v':Value} {J left':List (Int×Nat)} {Ms:List Nat} (h:kH lo w fv F M T L left v W) (u:kH lo w fv F M T J left' v' W') (U:lo<=F) (hM:∀k∈Ms,lo<=k/\k<W.heap.size) (i:M∈Ms)
  (m:W'.os=W.os) (d:W'.tape=W.tape) (g:W'.output=W.output) (s:W.heap.size<=W'.heap.size)
  (hb:∀k,k<W.heap.size->k≠M->k≠F->v.ownBlock≠some k->W'.heap[k]?=W.heap[k]?) (j:v'.ownBlock=v.ownBlock\/∀r,v'.ownBlock=some r->W.heap.size<=r):Off lo Ms [F] W W':=
 zEG h.box u.box u.fr U hM m d g s (fun k hk K N O=>hb k hk (fun e=>K (by rw[e];exact i)) N O) j
theorem aJ {Fn:Fence} {n:Nat} {ops:Array Oper} {d:List Oper} {o:Oper} {a:Act} {Q:Exit->Act->World->Prop} (m:o.guard=none) (s x:Operand)
  (J:o.op=.call {callee:=.builtin .append,args:=#[s,x],argTypes:=#[88,88]}) {y:Int×Nat} {B:Nat} (hs:a.eval s=v) (hx:a.eval x=.slice (some ⟨B,0,none⟩) 1 1)
  (e:qT W lo v left) (hB:W.heap[B]?=some (.cells #[y.1,(y.2:Int)] 90 (0,0))) (hl:left.length<=10000000) (u:lo<=W.heap.size)
  (h:∀v' W',qT W' lo v' (left++[y])->W.grownBy W' v.ownBlock->(v'.ownBlock=v.ownBlock\/v'.ownBlock=some W.heap.size)->(∀ r n S,jJ W r n S->S y->jJ W' r n S)->wpListIn Fn n Tryz.prog ops Q d (a.put o.dst v') W'):
  wpListIn Fn n Tryz.prog ops Q (o::d) a W:=by
 refine wpListIn_plain m fun K' i=>?_
 obtain⟨v',W',g,K,N,O,U⟩:=oJ o.type e hB hl u;unfold Oper.wpIn;refine⟨by simp[Oper.about,J,resolve,Target.leads,Sem.run_pure],?_⟩
 rw[Oper.semAt_plain Fn _ _ (by rw[J];intro c j;cases j)]
 simp[execOp,J,resolve,invoke,builtin,hs,hx,g,Result.andThen]
 exact i _ _ (h v' W' K N O U)
end
section
open Go Go.RowKit Go.Maps Go.Shelf
attribute [local go_sem] Oper.semAt_some
theorem zAU (w:World):(zeroValue 3).run Tryz.prog w=.ok (.int .i64 0) w:=by kernel_rfl
def zIV (a:Au) (row:List Int) (back:Nat) (w:World) (fv:Value) (fr:List (Int×Nat)) (e:Ending) (w':World):Prop:=
 ∃M L,e=.returned (.map (some M))/\w.heap.size<=M/\jH w' M L/\(∀ y∈L,tD a row y)/\L.Nodup/\(∀ y,y∈L↔∃x∈fr,vT (SpE a row back) x y)/\w.grownBy w' fv.ownBlock/\∀r n S,jJ w r n S->(∀ y∈L,S y)->jJ w' r n S
def bQ (lo M F:Nat) (W:World) (ds:List Deferred):Prop:=∃Ds:List Nat,ds=Ds.map (fun D=>{target:=.collected D,args:=#[]})/\Ds.Nodup/\∀D∈Ds,F+1+1+1<=D/\yC lo [M] [F] W D/\W.heap[D]?=some (.deferred (some []))
theorem bQ.nil (lo M F:Nat) (W:World):bQ lo M F W []:=⟨[],rfl,.nil,fun D h=>by cases h⟩
theorem bQ.off {lo M F:Nat} {W W':World} {e:List Deferred} (h:bQ lo M F W e) (g:Off lo [M] [F] W W'):bQ lo M F W' e:=by
 obtain⟨i,s,u,J⟩:=h;exact⟨i,s,u,fun D K=>by obtain⟨j,d,m⟩:=J D K;exact⟨j,d.off g,(g.block D d.lt d.not).trans m⟩⟩
theorem bQ.marks {lo M F:Nat} {W:World} {d:List Deferred} (h:bQ lo M F W d):zBH (F+1+1+1) W d:=by
 obtain⟨i,j,m,e⟩:=h;exact⟨i,j,m,fun D g=>⟨(e D g).1,(e D g).2.2⟩⟩
structure zGx (a:Au) (row:List Int) (back:Nat) (w0 w:World) (fv:Value) (fr:List (Int×Nat)) (F M T n:Nat) (op:Option (Int×Nat)) (ds:List Deferred) (L left:List (Int×Nat)) (v:Value) (W:World):Prop where
 mem:kH w0.heap.size w fv F M T L left v W
 met:Met a row back fr L left n op
 marks:bQ w0.heap.size M F W ds
structure AlR (a:Au) (row:List Int) (back:Nat) (w0 w:World) (fv:Value) (fr:List (Int×Nat)) (F M T n:Nat) (x:Int×Nat) (w3:World) (L left:List (Int×Nat)) (v:Value) (pre:List (Int×Nat)) (W:World):Prop where
 mem:kH w0.heap.size w fv F M T L left v W
 met:Met a row back fr L left n (some x)
 off:Off w0.heap.size [M] [F] w3 W
 pre:∀y∈pre,y∈L
 hx:x∈fr\/x∈L
theorem zKQ (a:Au) (A B C D:Option Addr) (ca cb cc cr K V J:Nat) (row:List Int) (fv:Value) (N:List (Int×Nat)) (w0 w:World) (hK:zBf w0 K V a A B C ca cb cc row D cr J) (hb0:Below w0 w0 w)
  (hfr:qT w w0.heap.size fv N) (hsp:∀y∈N,tD a row y) (ho:vG a) (hos:xV a.ss) (hr:row.length<=8000) (hb:J<row.length) (hfl:N.length<=1000):
  Calls Tryz.prog 51 #[(⟨K,0,none⟩:Addr),fv] w (zIV a row J w fv N):=by
 obtain⟨fA,fc,rfl,hfc⟩:∃A c,fv=.slice A N.length c/\N.length<=c:=by
  obtain⟨A',c,O,h2,_⟩:=zF hfr;exact⟨A',c,O,h2⟩
 have hmm:=@run_makeMap Tryz.prog;have HK:=hId hK;have HFR:=hId hfr;have HSP:=hId hsp;have HO:=hId ho;have HOS:=hId hos;have HB0:=hId hb0;have hlow:=hb0.size;clear hK hfr hsp hos hb0
 refine(callsIn_wide (n:=9)).1 ?_;refine callsIn_of_wp_marks Tryz.func51 rfl trivial ?_
 simp only[Tryz.ntmps51,List.size_toArray,List.length_cons,List.length_nil,Nat.reduceAdd,Nat.reduceSub,Array.replicate_succ,Array.replicate_zero,List.push_toArray,List.append_toArray,List.nil_append,List.cons_append]
 gi_wp2
 obtain⟨F,hF⟩:∃F,F=w.heap.size:=⟨_,rfl⟩
 have HIN0:Hid (zGx a row J w0 w (.slice fA N.length fc) N F (F+1) (F+1+1) (2*tJ a row+N.length) none [] [] N (.slice fA N.length fc) (((w.alloc (.cells #[.slice fA N.length fc] 88)).alloc (Obj.map #[] 0)).alloc (.cells #[.map (some (w.heap.size+1))] 91))):=by
  subst hF;refine⟨⟨?_,?_,?_,.inl rfl,?_,?_,?_⟩,Met.start _ _ _ _,bQ.nil _ _ _ _⟩
  ·exact⟨rfl,rfl,rfl,by simp;omega,fun k hk _=>by
    rw[Below.heap_alloc _ _ _ (by simp;omega),Below.heap_alloc _ _ _ (by simp;omega),Below.heap_alloc _ _ _ hk]⟩
  ·exact((Boxed.new w _ _).alloc _).alloc _
  ·exact zD HFR.o (((bLa).alloc (by simp) _).alloc (by simp;omega) _)
  ·have:=jH.made (w.alloc (.cells #[.slice fA N.length fc] 88))
   rw[World.size_alloc] at this;exact World.ownsMap.alloc this _
  ·have:=Boxed.new ((w.alloc (.cells #[.slice fA N.length fc] 88)).alloc (Obj.map #[] 0)) 91 (.map (some (w.heap.size+1)))
   simpa using this
  intro r n S O _;exact O.heap (by rw[Below.heap_alloc _ _ _ (by have:=O.lt;simp;omega),Below.heap_alloc _ _ _ (by have:=O.lt;simp;omega),Below.heap_alloc _ _ _ O.lt])
 rw[<-hF] at HIN0 ⊢;have HFF:=hId hF;clear hmm;generalize ((w.alloc (.cells #[.slice fA N.length fc] 88)).alloc (Obj.map #[] 0)).alloc (.cells #[.map (some (F+1))] 91)=W1 at *
 refine wpIn_loop_ghost (fun n aa W=>∃u6 u7 u9 u10 u11 u12 u13 u14 u15 u16 u17 u18 u19 u20 u21 u22 u23 u24 u25 u26 u27 u28 u29 u30 u31 u32 u33 u34 u35 u36 ds L left v,aa={tmps:=#[.pointer (some ⟨K,0,none⟩),.slice fA N.length fc,undef,.pointer (some ⟨F,0,none⟩),.map none,.pointer (some ⟨F+1+1,0,none⟩),u6,u7,.map (some (F+1)),u9,u10,u11,u12,u13,u14,u15,u16,u17,u18,u19,u20,u21,u22,u23,u24,u25,u26,u27,u28,u29,u30,u31,u32,u33,u34,u35,u36,undef],defers:=ds}/\Hid (zGx a row J w0 w (.slice fA N.length fc) N F (F+1) (F+1+1) n none ds L left v W)) (2*tJ a row+N.length) ⟨undef,undef,undef,undef,undef,undef,undef,undef,undef,undef,undef,undef,undef,undef,undef,undef,undef,undef,undef,undef,undef,undef,undef,undef,undef,undef,undef,undef,undef,undef,[],[],N,_,rfl,HIN0.o⟩ ?_
 rintro n aa wr ⟨u6,u7,u9,u10,u11,u12,u13,u14,u15,u16,u17,u18,u19,u20,u21,u22,u23,u24,u25,u26,u27,u28,u29,u30,u31,u32,u33,u34,u35,u36,ds,L,left,v,rfl,m⟩;clear hF HIN0
 obtain⟨lA,lc,rfl,hlc⟩:∃A c,v=.slice A left.length c/\left.length<=c:=by
  obtain⟨A',c,O,h2,_⟩:=zF m.o.mem.fr;exact⟨A',c,O,h2⟩
 have cF:=m.o.mem.box.cell;have fF:=m.o.mem.box.frozen;have cT:=m.o.mem.t5.cell
 rcases List.eq_nil_or_concat left with rfl|⟨lef,x,hlx⟩
 ·gi_wp2
  refine fH (v:=undef) (B:=F+1+1+1) (I:=fun _ W=>kH w0.heap.size w (.slice fA N.length fc) F (F+1) (F+1+1) L [] (.slice lA 0 lc) W) (fun _ A' B' rw hs hg hr=>hs.own (n:=F+1+1+1) (by omega) (by have:=HFF.o;omega) hg hr) (fun W hW=>?_) ds wr m.o.marks.marks m.o.mem
  exact⟨_,results_tmp rfl _ _ _,F+1,L,rfl,by have:=HFF.o;omega,hW.map,m.o.met.ok,m.o.met.nd,m.o.met.done,hW.grown,hW.row⟩
 have hlx:left=lef++[x]:=by rw[hlx];simp
 subst hlx;rw[List.length_append,List.length_cons,List.length_nil,Nat.zero_add] at cF hlc m
 have hlmax:lef.length+1<=10000000:=by
  have O:=m.o.met.len;have h2:=bF m.o.met.nd m.o.met.ok;have h3:=HO.o.st2;have h4:tJ a row<=300*8000:=Nat.mul_le_mul (by omega) hr
  rw[List.length_append,List.length_cons,List.length_nil] at O;omega
 obtain⟨g,rfl⟩:∃g,lA=some ⟨g,0,none⟩:=by
  obtain⟨g,cap,hv⟩:=ownsRow_succ (k:=lef.length) (by have:=m.o.mem.fr;unfold qT at this;rw[List.length_append] at this;exact this)
  simp at hv
  exact⟨g,hv.1⟩
 have hgx:wr.cell? ⟨g,lef.length*2,none⟩=some (.int .i64 x.1)/\wr.cell? ⟨g,lef.length*2+1,none⟩=some (.int .i64 (x.2:Int)):=by
  have O:=World.ownsRow.cells m.o.mem.fr (g:=g) rfl;have h2:=fun i u hu=>qJ wE (lef++[x]) lef.length (by simp) i u (by rw[List.getElem_append_right nLe];simp;exact hu)
  exact⟨by have:=O _ _ (h2 0 _ rfl);rwa[qI,Nat.zero_add] at this,by have:=O _ _ (h2 1 _ rfl);rwa[qI,Nat.zero_add] at this⟩
 obtain⟨q0,q1⟩:=hgx;obtain⟨xq,xp⟩:=x;simp only at q0 q1;have hba:Below wr wr (wr.alloc (.cells #[xq,(xp:Int)] 90)):=bLa;have hFl:F<wr.heap.size:=m.o.mem.box.lt
 have cFa:(wr.alloc (.cells #[xq,(xp:Int)] 90)).cell? ⟨F,0,none⟩=some (.slice (some ⟨g,0,none⟩) (lef.length+1) lc):=(hba.cell (p:=⟨F,0,none⟩) hFl).trans cF
 have fFa:(wr.alloc (.cells #[xq,(xp:Int)] 90)).frozen? ⟨F,0,none⟩=false:=(hba.frozen (p:=⟨F,0,none⟩) hFl).trans fF
 have hFF:=HFF.o
 have U:Hid (zGx a row J w0 w (.slice fA N.length fc) N F (F+1) (F+1+1) (n-1) (some (xq,xp)) ds L lef (.slice (some ⟨g,0,none⟩) lef.length lc) ((wr.setCell ⟨F,0,none⟩ (.slice (some ⟨g,0,none⟩) lef.length lc)).alloc (.cells #[xq,(xp:Int)] 90))):=by
  have O:=m.o.mem.set (u:=.slice (some ⟨g,0,none⟩) lef.length lc) (left':=lef) (by omega) (by omega) (by omega) (qT.pop m.o.mem.fr) rfl
  have h2:=O.below (W':=(wr.setCell ⟨F,0,none⟩ (.slice (some ⟨g,0,none⟩) lef.length lc)).alloc (.cells #[xq,(xp:Int)] 90)) (bLa);refine⟨h2,m.o.met.pop.1,m.o.marks.off ?_⟩
  refine m.o.mem.off h2 (by omega) (fun k hk=>by rw[List.mem_singleton.1 hk];have:=m.o.mem.map.lt;omega) (List.mem_singleton.2 rfl) rfl rfl rfl (by simp[World.setCell]) (fun k hk h3 h4 h5=>?_) (.inl rfl)
  rw[Below.heap_alloc _ _ _ (by simp[World.setCell];exact hk)]
  exact Below.heap_setCell _ _ _ _ h4
 have hn0:0<n:=m.o.met.pop.2
 have hxb:(xq,xp)∈N\/(xq,xp)∈L:=m.o.met.lok _ (by simp)
 have HXB:=hId hxb
 have HB01:Hid (((wr.setCell ⟨F,0,none⟩ (.slice (some ⟨g,0,none⟩) lef.length lc)).alloc (.cells #[xq,(xp:Int)] 90)).heap[wr.heap.size]?=some (.cells #[xq,(xp:Int)] 90)):=by
  have:=World.alloc_heap_new (wr.setCell ⟨F,0,none⟩ (.slice (some ⟨g,0,none⟩) lef.length lc)) (.cells #[xq,(xp:Int)] 90)
  rwa[show(wr.setCell ⟨F,0,none⟩ (.slice (some ⟨g,0,none⟩) lef.length lc)).heap.size=wr.heap.size by simp[World.setCell]] at this
 clear hxb m hFF
 gi_wp2
 obtain⟨Xb,hXb⟩:∃X,X=wr.heap.size:=⟨_,rfl⟩;rw[<-hXb] at HB01 ⊢;clear cF fF cT q0 q1 hba hFl cFa fFa hXb
 generalize (wr.setCell ⟨F,0,none⟩ (.slice (some ⟨g,0,none⟩) lef.length lc)).alloc (.cells #[xq,(xp:Int)] 90)=W2 at *;refine⟨trivial,?_⟩
 have HBL:Hid (∀ L left v W,kH w0.heap.size w (.slice fA N.length fc) F (F+1) (F+1+1) L left v W->Below w0 w0 W):=fun L left v W h=>
  HB0.o.grown h.grown hlow (fun k hk=>(HFR.o.lt k hk).1)
 have HXO:Hid (tD a row (xq,xp)):=HXB.o.elim (HSP.o _) (U.o.met.ok _)
 have hlF:w0.heap.size<=F:=by have:=HFF.o;omega
 have HSAN:Hid (∀ L left v W,kH w0.heap.size w (.slice fA N.length fc) F (F+1) (F+1+1) L left v W->kX w0.heap.size [F+1] [F] W):=fun L left v W h=>
  eD h.box h.fr hlF fun k hk=>by rw[List.mem_singleton.1 hk];have:=h.map.lt;omega
 refine(callsIn_wide.2 (zKp a A B C D ca cb cc cr K V J row xq xp W2 (HK.o.below (HBL.o _ _ _ _ U.o.mem)) HXO.o.2.2 hr)).mono ?_;rintro e w3 ⟨X3,Y3,Z3,rfl,hX3,hY3,hZ3,hS3,hb3⟩
 have hO3:Off w0.heap.size [F+1] [F] W2 w3:=Off.of_below (HSAN.o _ _ _ _ U.o.mem) hb3
 have HIN3:Hid (zGx a row J w0 w (.slice fA N.length fc) N F (F+1) (F+1+1) (n-1) (some (xq,xp)) ds L lef (.slice (some ⟨g,0,none⟩) lef.length lc) w3):=⟨U.o.mem.below hb3,U.o.met,U.o.marks.off hO3⟩
 have HS3:=hId hS3;have HGX:Hid (yC w0.heap.size [F+1] [F] w3 X3):=yC.new (HSAN.o _ _ _ _ U.o.mem) hb3 hX3 hS3.lx;have HGY:Hid (yC w0.heap.size [F+1] [F] w3 Y3):=yC.new (HSAN.o _ _ _ _ U.o.mem) hb3 hY3 hS3.ly
 have HGZ:Hid (yC w0.heap.size [F+1] [F] w3 Z3):=yC.new (HSAN.o _ _ _ _ U.o.mem) hb3 hZ3 hS3.lz
 clear hX3 hY3 hZ3 hS3 hb3 hO3 HB01
 gi_wp2
 have hM3:=HIN3.o.mem.map.lt;have hT3:=HIN3.o.mem.t5.lt;have nb:∀k,yC w0.heap.size [F+1] [F] w3 k->¬Bad [w3.heap.size+1,F+1] [F] w3 k:=fun k hk h=>h.of_cons.elim (fun h=>by have:=hk.lt;omega) hk.not
 refine wF (gf:=131) (lb:=#[.pointer (some ⟨X3,0,none⟩),.pointer (some ⟨Y3,0,none⟩),.pointer (some ⟨Z3,0,none⟩)]) (by omega) rfl (enters_of Tryz.func131 (by kernel_rfl) rfl)
  (zCS a A B C D ca cb cc cr K V X3 Y3 Z3 J row xq xp _ [w3.heap.size+1,F+1] [F] w0 w3 HK.o (HBL.o _ _ _ _ HIN3.o.mem) HS3.o (fun k hk=>by rw[List.mem_singleton.1 hk];omega) (nb _ HGX.o) (nb _ HGY.o) (nb _ HGZ.o) HXO.o.2.2 HOS.o HO.o.sl 8 (by omega))
  (fun O h2=>O.trans h2) ?kb ?sane bRf (fun _=>rfl)
  (fun pre W'=>∃L left v,Hid (AlR a row J w0 w (.slice fA N.length fc) N F (F+1) (F+1+1) (n-1) (xq,xp) w3 L left v pre W'))
  (fun _ _ _=>False)
  ?hI ?hIx ?h0
  (fun y a' W'=>∃Yb,W'.heap[Yb]?=some (.cells #[y.1,(y.2:Int)] 90)/\
   a'={tmps:=#[.pointer (some ⟨K,0,none⟩),.slice fA N.length fc,undef,.pointer (some ⟨F,0,none⟩),.map none,.pointer (some ⟨F+1+1,0,none⟩),.pointer (some ⟨Xb,0,none⟩),.pointer (some ⟨Yb,0,none⟩),.map (some (F+1)),.slice (some ⟨g,0,none⟩) (lef.length+1) lc,.int .i64 ((lef.length:Int)+1),.bool true,.slice (some ⟨g,0,none⟩) (lef.length+1) lc,.slice (some ⟨g,0,none⟩) (lef.length+1) lc,.int .i64 ((lef.length:Int)+1),.int .i64 (lef.length:Int),.pointer (some ⟨g,lef.length*2,none⟩),.agg #[xq,(xp:Int)],.slice (some ⟨g,0,none⟩) (lef.length+1) lc,.slice (some ⟨g,0,none⟩) (lef.length+1) lc,.int .i64 ((lef.length:Int)+1),.int .i64 (lef.length:Int),.slice (some ⟨g,0,none⟩) lef.length lc,.pointer (some ⟨K,0,none⟩),.agg #[xq,(xp:Int)],.func (.func 131) #[] #[(⟨X3,0,none⟩:Addr),(⟨Y3,0,none⟩:Addr),(⟨Z3,0,none⟩:Addr)],.agg #[y.1,(y.2:Int)],u27,u28,u29,u30,u31,u32,u33,u34,u35,u36,undef],defers:=[]})
  ?hAx ?assign ?body ?done ?stop
 case kb=>
  intro W' r r' h hs;exact Off.put hs (List.mem_cons_self ..) h rfl rfl
 case sane=>
  intro r;have O:Below w3 w3 ((w3.alloc (.deferred (some []))).alloc (.loop r)):=(bLa).alloc (by simp) _
  exact(Off.of_below (HSAN.o _ _ _ _ HIN3.o.mem) O).sane.cons (by omega) (by simp)
 case hI=>
  rintro pre A' B' rw⟨L',left',v',O⟩ hg hrw;exact⟨L',left',v',O.o.mem.own hM3 (by have:=HFF.o;omega) hg hrw,O.o.met,O.o.off.own (fun k hk=>by rw[List.mem_singleton.1 hk];omega) hg hrw,O.o.pre,O.o.hx⟩
 case hIx=>exact fun _ s A' B' rw hs _ _=>hs.elim
 case h0=>exact⟨L,lef,_,HIN3.o.mem,HIN3.o.met,Off.refl (HSAN.o _ _ _ _ HIN3.o.mem),fun y hy=>(by cases hy),HXB.o⟩
 case hAx=>
  rintro y a' _ A' B' rw⟨Yb,h0,O⟩ hg hrw;refine⟨Yb,(hg.block Yb (gLt h0) fun e=>?_).trans h0,O⟩
  obtain⟨_,o',h2,h3⟩:=hrw _ e.symm;rw[h0] at h2;rw[<-Option.some.inj h2] at h3;cases h3
 case assign=>
  rintro l' pre y W' KK ⟨L',left',v',d⟩ hKK;have O:Below W' W' (W'.alloc (.cells #[y.1,(y.2:Int)] 90)):=bLa
  have HP:=hId (hKK {tmps:=#[.pointer (some ⟨K,0,none⟩),.slice fA N.length fc,undef,.pointer (some ⟨F,0,none⟩),.map none,.pointer (some ⟨F+1+1,0,none⟩),.pointer (some ⟨Xb,0,none⟩),.pointer (some ⟨W',0,none⟩),.map (some (F+1)),.slice (some ⟨g,0,none⟩) (lef.length+1) lc,.int .i64 ((lef.length:Int)+1),.bool true,.slice (some ⟨g,0,none⟩) (lef.length+1) lc,.slice (some ⟨g,0,none⟩) (lef.length+1) lc,.int .i64 ((lef.length:Int)+1),.int .i64 (lef.length:Int),.pointer (some ⟨g,lef.length*2,none⟩),.agg #[xq,(xp:Int)],.slice (some ⟨g,0,none⟩) (lef.length+1) lc,.slice (some ⟨g,0,none⟩) (lef.length+1) lc,.int .i64 ((lef.length:Int)+1),.int .i64 (lef.length:Int),.slice (some ⟨g,0,none⟩) lef.length lc,.pointer (some ⟨K,0,none⟩),.agg #[xq,(xp:Int)],.func (.func 131) #[] #[(⟨X3,0,none⟩:Addr),(⟨Y3,0,none⟩:Addr),(⟨Z3,0,none⟩:Addr)],.agg #[y.1,(y.2:Int)],u27,u28,u29,u30,u31,u32,u33,u34,u35,u36,undef],defers:=[]}
   (W'.alloc (.cells #[y.1,(y.2:Int)] 90)) ((KeepsOthers.alloc _ _).from _) (KpO.of_below O) ⟨L',left',v',d.o.mem.below O,d.o.met,d.o.off.trans (Off.of_below d.o.off.sane O),d.o.pre,d.o.hx⟩ ⟨W'.heap.size,World.alloc_heap_new _ _,rfl⟩)
  clear d hKK O;unfold spE
  gi_wp2
  exact HP.o
 case body=>
  rintro l' pre y a' W' hl' hrec ⟨L',left',v',d⟩ ⟨Yb,hYb,rfl⟩ hpre
  obtain⟨lA',lc',rfl⟩:∃A c,v'=.slice A left'.length c:=by
   obtain⟨A',c,O,h2,_⟩:=zF d.o.mem.fr;exact⟨A',c,O⟩
  obtain⟨yq,yp⟩:=y;simp only at hYb ⊢;have cT:=d.o.mem.t5.cell;have y0:W'.cell? ⟨Yb,0,none⟩=some (.int .i64 yq):=by simp[World.cell?,hYb]
  have y1:W'.cell? ⟨Yb,1,none⟩=some (.int .i64 (yp:Int)):=by simp[World.cell?,hYb]
  have hyS:(yq,yp)∈zAm a row J (xq,xp):=hpre.subset (List.mem_append_right _ (List.mem_singleton.2 rfl))
  have hyO:tD a row (yq,yp):=zG3 HO.o hb HXO.o hyS
  have HYW:Hid (SpW (yq,yp)):=hyO.w HO.o hr
  have HYO:=hId hyO;have HYS:=hId hyS;have HLW:Hid (∀ y∈L',SpW y):=fun y hy=>(d.o.met.ok y hy).w HO.o hr
  have HMAP:Hid (jH W' (F+1) L'):=d.o.mem.map
  have HYB:=hId hYb;clear hyS hyO hYb hpre
  by_cases hyL:(yq,yp)∈L'
  ·have HP:Hid (KeepsFrom w3.heap.size W' W'/\KpO w0.heap.size [w3.heap.size+1,F+1] [F] W' W'/\∃L left v,Hid (AlR a row J w0 w (.slice fA N.length fc) N F (F+1) (F+1+1) (n-1) (xq,xp) w3 L left v (pre++[(yq,yp)]) W')):=
    ⟨KeepsFrom.refl _ _,fun hs=>Off.refl hs,L',left',_,d.o.mem,d.o.met,d.o.off,fun y hy=>(List.mem_append.1 hy).elim (d.o.pre y) fun h=>by rw[List.mem_singleton.1 h];exact hyL,d.o.hx⟩
   have HC:Hid (∀ c:Int,(setOf gC (L'.map yZ)).atKey (yZ (yq,yp)) (.lit (.int .i64 0))=.lit c->c=1):=fun c hc=>by
    rw[jH.at_ HLW.o HYW.o,if_pos hyL] at hc;injection hc with e;injection e with _ e;exact e.symm
   clear hyL
   gi_wp2_with (gi_at_lookup;refine wpListIn_lookup_own_int _ rfl _ _ 91 rfl 90 3 .i64 iA Tryz.underlying91 Tryz.underlying3 (zAU _) (F+1) L'.length (setOf gC (L'.map yZ)) rfl HMAP.o _ (yZ (yq,yp)) rfl (sH HYW.o) ?_;intro c hat hwc;obtain rfl:=HC.o c hat;clear hat hwc)
   exact HP.o
  have HC:Hid (∀ c:Int,(setOf gC (L'.map yZ)).atKey (yZ (yq,yp)) (.lit (.int .i64 0))=.lit c->c=0):=fun c hc=>by
   rw[jH.at_ HLW.o HYW.o,if_neg hyL] at hc;injection hc with e;injection e with _ e;exact e.symm
  have HNL:=hId hyL;have HII:=hId d.o;have hFm:F<W'.heap.size:=d.o.mem.box.lt;have hYl:Yb<W'.heap.size:=(gLt HYB.o)
  have HYM:Hid (Yb≠F+1):=fun e=>by
   obtain⟨es,ck,O,_⟩:=HMAP.o;have h2:=HYB.o;rw[e,O] at h2;cases h2
  have hLl:L'.length<=2400000:=by
   have h2:=bF d.o.met.nd d.o.met.ok;have h3:=HO.o.st2;have h4:tJ a row<=300*8000:=Nat.mul_le_mul (by omega) hr
   omega
  clear hyL d
  gi_wp2_with (first
   |(gi_at_lookup;refine wpListIn_lookup_own_int _ rfl _ _ 91 rfl 90 3 .i64 iA Tryz.underlying91 Tryz.underlying3 (zAU _) (F+1) L'.length (setOf gC (L'.map yZ)) rfl HMAP.o _ (yZ (yq,yp)) rfl (sH HYW.o) ?_;intro c hat hwc;obtain rfl:=HC.o c hat;clear hat hwc)
   |(
     gi_at_mapUpdate;refine wpListIn_mapUpdate_own _ rfl _ _ _ 91 rfl 90 3 iA Tryz.underlying91 _ (F+1) L'.length (setOf gC (L'.map yZ)) rfl HMAP.o (by unfold maxLen;omega) _ _ (yZ (yq,yp)) rfl rfl (sH HYW.o) gC [] (plainElem_int Tryz.underlying3 (by decide)) ?_
     intro w4 hown4 j;have HM4:=hId (HII.o.mem.map1 (by have:=HFF.o;omega) (by omega) (by omega) j (jH.step hown4) (fun y hy=>List.mem_append_left _ hy))
     have HG4:=hId j;have cF4:=HM4.o.box.cell;have HYB4:Hid (w4.heap[Yb]?=some (.cells #[yq,(yp:Int)] 90)):=(j.block Yb hYl (fun e=>HYM.o (by simpa using e))).trans HYB.o
     have z0:w4.cell? ⟨Yb,0,none⟩=some (.int .i64 yq):=by simp[World.cell?,HYB4.o]
     have z1:w4.cell? ⟨Yb,1,none⟩=some (.int .i64 (yp:Int)):=by simp[World.cell?,HYB4.o]
     have hb5:Below w4 w4 (w4.alloc (.cells #[yq,(yp:Int)] 90)):=bLa
     have HM5:=hId (HM4.o.below hb5);have hlo5:w0.heap.size<=(w4.alloc (.cells #[yq,(yp:Int)] 90)).heap.size:=by have:=hb5.size;have:=j.size;have:=HFF.o;omega
     have hll5:left'.length<=10000000:=by have:=HII.o.met.len;omega
     have HG5:Hid (W'.heap.size<=w4.heap.size/\∀k,k<W'.heap.size->k≠F+1->(w4.alloc (.cells #[yq,(yp:Int)] 90)).heap[k]?=W'.heap[k]?):=⟨j.size,fun k hk hne=>(hb5.block k (Nat.lt_of_lt_of_le hk j.size)).trans (j.block k hk (by simpa using hne))⟩
     have HG6:Hid ((w4.alloc (.cells #[yq,(yp:Int)] 90)).os=W'.os/\(w4.alloc (.cells #[yq,(yp:Int)] 90)).tape=W'.tape/\(w4.alloc (.cells #[yq,(yp:Int)] 90)).output=W'.output):=⟨j.os,j.tape,j.output⟩
     clear hown4 j hb5)
   |(
     gi_at_builtin;refine aJ (lo:=w0.heap.size) (v:=.slice lA' left'.length lc') (left:=left') (y:=(yq,yp)) (B:=w4.heap.size) rfl (.tmp 33) (.tmp 35) rfl rfl rfl HM5.o.fr (World.alloc_heap_new _ _) hll5 hlo5 ?_
     intro v6 W6 hfr6 hg6 hat6 hrow6;obtain⟨g6,c6,rfl⟩:=ownsRow_succ (k:=left'.length) (by have:=hfr6;unfold qT at this;rw[List.length_append] at this;exact this)
     obtain⟨hbx6,hm6⟩:=kH.app (by have:=HFF.o;omega) (by omega) (by omega) HM5.o hfr6 hg6 (by simpa using hat6) hrow6 (by simp)
     have cF6:=hbx6.cell;have fF6:=hbx6.frozen
     have HP:Hid (KeepsFrom w3.heap.size W' (W6.setCell ⟨F,0,none⟩ (.slice (some ⟨g6,0,none⟩) (left'.length+1) c6))/\KpO w0.heap.size [w3.heap.size+1,F+1] [F] W' (W6.setCell ⟨F,0,none⟩ (.slice (some ⟨g6,0,none⟩) (left'.length+1) c6))/\∃L left v,Hid (AlR a row J w0 w (.slice fA N.length fc) N F (F+1) (F+1+1) (n-1) (xq,xp) w3 L left v (pre++[(yq,yp)]) (W6.setCell ⟨F,0,none⟩ (.slice (some ⟨g6,0,none⟩) (left'.length+1) c6)))):=by
      have hO:Off w0.heap.size [F+1] [F] W' (W6.setCell ⟨F,0,none⟩ (.slice (some ⟨g6,0,none⟩) (left'.length+1) c6)):=by
       refine HII.o.mem.off hm6 hlF (fun k hk=>by rw[List.mem_singleton.1 hk];have:=HII.o.mem.map.lt;omega) (List.mem_singleton.2 rfl) (hg6.os.trans HG6.o.1) (hg6.tape.trans HG6.o.2.1) (hg6.output.trans HG6.o.2.2) (Nat.le_trans HG5.o.1 (Nat.le_trans (by simp) (Nat.le_trans hg6.size (grownBy_setCell' W6 F _).size))) (fun k hk h3 h4 h5=>?_) (hat6.imp id fun h=>fun r hr=>by rw[h] at hr;have:=HG5.o.1;simp at hr;omega)
       have hk5:k<(w4.alloc (.cells #[yq,(yp:Int)] 90)).heap.size:=by have:=HG5.o.1;simp;omega
       exact(Below.heap_setCell _ _ _ _ h4).trans ((hg6.block k hk5 (fun e=>h5 e.symm)).trans (HG5.o.2 k hk h3))
      exact⟨hO.keeps HII.o.off.sane (fun k hk=>by rw[List.mem_singleton.1 hk];omega) (fun k hk=>by rw[List.mem_singleton.1 hk];omega),fun hs=>hO.cons (by omega) (hs.bad _ (.inl (List.mem_cons_self ..))).2,
       _,_,_,hm6,HII.o.met.add HII.o.hx HYS.o HYO.o HNL.o,HII.o.off.trans hO,fun y hy=>(List.mem_append.1 hy).elim (fun h=>List.mem_append_left _ (HII.o.pre y h)) (fun h=>List.mem_append_right _ h),HII.o.hx.imp id (List.mem_append_left _)⟩
     clear hbx6 hm6 hfr6 hg6 hat6 hrow6))
  exact HP.o
 case done=>
  rintro Dm W' hDm ⟨L',left',v',d⟩ hD
  have HINE:Hid (zGx a row J w0 w (.slice fA N.length fc) N F (F+1) (F+1+1) (n-1) none ({target:=.collected Dm,args:=#[]}::ds) L' left' v' W'):=by
   refine⟨d.o.mem,d.o.met.shut fun y hy=>d.o.pre y hy,?_⟩
   obtain⟨Ds,rfl,h2,h3⟩:=HIN3.o.marks;refine⟨Dm::Ds,rfl,List.nodup_cons.2 ⟨fun hm=>?_,h2⟩,fun D' hm=>?_⟩
   ·have:=(h3 Dm hm).2.1.lt
    omega
   rcases List.mem_cons.1 hm with rfl|hm
   ·refine⟨by omega,⟨(gLt hD),fun hb=>?_⟩,hD⟩
    rcases(bP d.o.mem.box).1 hb with h4|h4|h4
    ·have:=List.mem_singleton.1 h4
     omega
    ·omega
    obtain⟨ob,h5,h6⟩:=qA d.o.mem.fr h4;rw[hD] at h5;rw[<-Option.some.inj h5] at h6;cases h6
   obtain⟨a1,a2,a3⟩:=h3 D' hm;exact⟨a1,a2.off d.o.off,(d.o.off.block D' a2.lt a2.not).trans a3⟩
  clear d
  gi_wp2
  exact⟨n-1,by omega,_,_,_,_,_,_,_,_,_,_,_,_,_,_,_,_,_,_,_,_,_,_,_,_,_,_,_,_,_,_,_,L',left',v',rfl,HINE.o⟩
 case stop=>exact fun _ _ _ _ _ _ h=>h.elim
end
section
open Go Go.RowKit Go.Sort

def zDn (w:World) (P:Prop) (e:Ending) (w':World):Prop:=∃b:Bool,e=.returned (.bool b)/\(b=true↔P)/\Below w w w'
def alW (w:World) (a:Au) (A B C:Option Addr) (ca cb cc:Nat) (l:La) (D E:Option Addr) (cd ce:Nat):World:=
 (auW w a A B C ca cb cc).alloc (.cells #[.slice D l.h.length cd,.slice E l.l.length ce] 27)
structure zHQ (W:World) (V:Nat) (a:Au) (A B C:Option Addr) (ca cb cc:Nat) (l:La) (D E:Option Addr) (cd ce:Nat):Prop where
 lt:V+1<W.heap.size
 au:yG W V a A B C ca cb cc
 l0:W.cell? ⟨V+1,0,none⟩=some (.slice D l.h.length cd)
 l1:W.cell? ⟨V+1,1,none⟩=some (.slice E l.l.length ce)
theorem zHQ.below {W W':World} {V n:Nat} {a:Au} {A B C:Option Addr} {ca cb cc:Nat} {l:La} {D E:Option Addr} {cd ce:Nat} (h:zHQ W V a A B C ca cb cc l D E cd ce) (d:Below n W W') (e:V+1<n):zHQ W' V a A B C ca cb cc l D E cd ce:=
 ⟨Nat.lt_of_lt_of_le h.lt d.size,h.au.below d (by omega),(zT d e).trans h.l0,(zT d e).trans h.l1⟩
structure AlW (w W:World) (a:Au) (A B C:Option Addr) (ca cb cc:Nat) (l:La) (D E:Option Addr) (cd ce V:Nat):Prop where
 below:Below w w W
 size:W.heap.size=V+1+1
 at_:zHQ W V a A B C ca cb cc l D E cd ce
theorem zKf (w:World) (a:Au) (A B C:Option Addr) (ca cb cc:Nat) (l:La) (D E:Option Addr) (cd ce:Nat):AlW w (alW w a A B C ca cb cc l D E cd ce) a A B C ca cb cc l D E cd ce w.heap.size:=by
 have h:=jN w a A B C ca cb cc;have d:Below (auW w a A B C ca cb cc).heap.size (auW w a A B C ca cb cc) (alW w a A B C ca cb cc l D E cd ce):=bLa
 have e:(alW w a A B C ca cb cc l D E cd ce).heap.size=w.heap.size+1+1:=by unfold alW;simp[h.size]
 refine⟨zA h.below d h.below.size,e,by omega,h.at.below d (by rw[h.size];omega),?_,?_⟩
 ·unfold alW auW;go_simp
 unfold alW auW;go_simp
end
section
open Go Go.RowKit Go.Maps
theorem lD {W W':World} {b r n:Nat} {D:DataW Unit} {left:Lit->Bool} {cnt:Nat} (h:W.ranges Tryz.prog 90 (plainElem (H:=Unit) Tryz.prog 3) b r n D left cnt) (d:Below W W W'):W'.ranges Tryz.prog 90 (plainElem (H:=Unit) Tryz.prog 3) b r n D left cnt:=
 h.kept (row:=none) ⟨d.os,d.tape,d.output,d.size,fun k e _=>d.block k e⟩ (by simp) (by simp)
theorem sG (w:World) {ops:Array Oper} {e:List Oper} {o:Oper} {a:Act} {Q:Exit->Act->World->Prop} (hg:o.guard=none) (it:Operand) (h7:o.op=Op.next it false) {M R n:Nat} {L:List (Int×Nat)} {left:Lit->Bool} {cnt:Nat}
  (h4:a.eval it=.pointer (some ⟨R,0,none⟩)) (hL:∀y∈L,SpW y) (K:∀j,left j=true->Maps.has (setOf gC (L.map yZ)) j=true) (h:w.ranges Tryz.prog 90 (plainElem (H:=Unit) Tryz.prog 3) M R n (setOf gC (L.map yZ)) left cnt)
  (g:Hid (∀ j,left j=false)->wpList Tryz.prog ops Q e (a.put o.dst (.tuple #[false])) w)
  (i:∀(O:Int) (N:Nat) (c:Int) (m:World) (d:Nat),Hid ((O,N)∈L/\m.ranges Tryz.prog 90 (plainElem (H:=Unit) Tryz.prog 3) M R n (setOf gC (L.map yZ)) (fun z=>left z&&!z.sameKey (yZ (O,N))) d/\d<cnt/\w.grownBy m (some R))->
   (Instr.entry (.pointer (some ⟨R,0,none⟩))).run Tryz.prog m=.ok (.tuple #[.agg #[O,(N:Int)],c]) m->wpList Tryz.prog ops Q e (a.put o.dst (.tuple #[true,.agg #[O,(N:Int)],c])) m):
  wpList Tryz.prog ops Q (o::e) a w:=
 wpList_next_ranges w hg it h7 90 iA (plainElem (H:=Unit) Tryz.prog 3) (fun z:Int×Int=>Value.agg #[z.1,z.2]) (Value.int .i64) (fun key j h=>by obtain⟨z,s,_⟩:=mA h;exact⟨z,s⟩) (fun v y h=>by obtain⟨c,s,_⟩:=plainElem_int_inv Tryz.underlying3 h;exact⟨c,s⟩) M R n _ left cnt h4 h
  (fun _ h=>g h) (fun z c j yy m d u h5 hyy hat J h6 h0 hs1 U=>by
   obtain⟨z',s,h2,h3⟩:=mA u;obtain rfl:z=z':=by simpa[Prod.ext_iff] using s
   obtain⟨y,hy,hk⟩:=zId (K j h5);obtain rfl:=zCN h3 (hL y hy) (h2.symm.trans hk);subst hk;exact i y.1 y.2 c m d ⟨hy,J,h6,h0⟩ U)
theorem zCY (W:World) (lo:Nat) (y:Int×Nat) (h:lo<=W.heap.size):qT (W.alloc (.cells #[y.1,(y.2:Int)] 90)) lo (.slice (some ⟨W,0,none⟩) 1 1) [y]:=
 ⟨rfl,.inr ⟨W.heap.size,1,_,rfl,h,World.alloc_heap_new _ _,nLe,by decide,rfl,rfl⟩⟩
def zAn (a:Au) (row:List Int) (back:Nat) (x:Int×Nat):Prop:=back<=x.2/\a.good x.1/\vT (SpE a row back) x x
def zAV (a:Au) (row:List Int) (back:Nat) (L:List (Int×Nat)):Prop:=∃x∈L,zAn a row back x
structure zJ3 (a:Au) (row:List Int) (back:Nat) (w:World) (M R:Nat) (L:List (Int×Nat)) (left:Lit->Bool) (cnt:Nat) (wr:World):Prop where
 rg:wr.ranges Tryz.prog 90 (plainElem (H:=Unit) Tryz.prog 3) M R L.length (setOf gC (L.map yZ)) left cnt
 below:Below w w wr
 sub:∀kl,left kl=true->Maps.has (setOf gC (L.map yZ)) kl=true
 done:∀y∈L,left (yZ y)=false->¬zAn a row back y
theorem zJX (a:Au) (A B C D:Option Addr) (ca cb cc cr K V d M:Nat) (row:List Int) (L:List (Int×Nat)) (w0 w:World) (hK:zBf w0 K V a A B C ca cb cc row D cr d) (hb0:Below w0 w0 w)
  (hM:jH w M L) (hL:∀y∈L,tD a row y) (ho:vG a) (hos:xV a.ss) (hr:row.length<=8000) (hb:d<row.length):
  Calls Tryz.prog 52 #[(⟨K,0,none⟩:Addr),.map (some M)] w (zDn w (zAV a row d L)):=by
 have HK:=hId (hK.below hb0);have HM:=hId hM;have HL:=hId hL;have HO:=hId ho;have HOS:=hId hos;have u:Hid (∀ y∈L,SpW y):=fun y hy=>(hL y hy).w ho hr
 have hKl:=(hK.below hb0).lt
 have HALL:=hId (fun(x:Int×Nat) (hx:tD a row x) (W:World) (fv:Value) (hW:Below w w W) (hf:qT W w.heap.size fv [x])=>zKQ a A B C D ca cb cc cr K V d row fv [x] w W HK.o hW hf (fun y hy=>by rw[List.mem_singleton.1 hy];exact hx) ho hos hr hb (by simp))
 clear hK hb0 hM hL hos
 go_enter Tryz.func52,Tryz.ntmps52
 go_wp2_with (first
  |(at_range;refine wpList_range_own _ rfl _ 91 rfl 90 3 iA Tryz.underlying91 _ M L.length (setOf gC (L.map yZ)) rfl HM.o ?_;intro wi hrg0 U hs0)
  |go_in)
 go_frame
 obtain⟨R,hR⟩:∃R,R=w.heap.size:=⟨_,rfl⟩
 have HAG0:Hid (zJ3 a row d w M R L (Maps.has (setOf gC (L.map yZ))) (Maps.size (setOf gC (L.map yZ))) wi):=by
  refine⟨by rw[hR];exact hrg0,⟨U.os,U.tape,U.output,U.size,fun k hk=>U.block k hk (by simp)⟩,fun kl h=>h,fun y hy h=>?_⟩
  rw[(jH.has u.o (u.o y hy)).2 hy] at h;cases h
 rw[<-hR];have hRw:w.heap.size<=R:=by omega
 clear hrg0 U hs0 hR
 go_loopw [5,8,9] (fun _ _ _ wr=>∃(left:Lit->Bool) (cnt:Nat),Hid (zJ3 a row d w M R L left cnt wr)) (fun _ _ _ wr=>wr.rangeLeft M R)
 case atStart=>exact⟨_,_,HAG0.o⟩
 obtain⟨left,cnt,j⟩:=hrel;have hrg:=j.o.rg
 go_wp2_with (first
  |(at_next;refine sG _ rfl _ rfl (M:=M) (R:=R) (L:=L) (left:=left) (cnt:=cnt) rfl u.o j.o.sub hrg ?_ ?_)
  |go_in)
 ·intro HDN
  have HP:Hid (zDn w (zAV a row d L) (.returned (.bool false)) wr):=
   ⟨false,rfl,⟨fun h=>(by cases h),fun⟨x,hx,hrr⟩=>absurd hrr (j.o.done x hx (HDN.o _))⟩,j.o.below⟩
  go_wp2
  go_ret
  exact HP.o
 intro yq i c w1 O HY hen;have hw1:Below w w w1:=j.o.below.grown HY.o.2.2.2 j.o.below.size (fun k hk=>by cases hk;exact hRw)
 have HAW:Hid (Below w1 w1 (w1.alloc (.cells #[yq,(i:Int)] 90))):=bLa
 have s:Hid (Below w w (w1.alloc (.cells #[yq,(i:Int)] 90))):=zA hw1 HAW.o hw1.size
 have HYO:Hid (tD a row (yq,i)):=HL.o _ HY.o.1
 have m:Hid ((w1.alloc (.cells #[yq,(i:Int)] 90)).heap[w1.heap.size]?=some (.cells #[yq,(i:Int)] 90)):=World.alloc_heap_new _ _
 have HNX:Hid (∀ W,Below (w1.alloc (.cells #[yq,(i:Int)] 90)).heap.size (w1.alloc (.cells #[yq,(i:Int)] 90)) W->¬zAn a row d (yq,i)->zJ3 a row d w M R L (fun z=>left z&&!z.sameKey (yZ (yq,i))) O W):=by
  intro W hW hno;refine⟨lD (HY.o.2.1.alloc _) hW,zA s.o hW s.o.size,fun kl h=>j.o.sub kl (by simp at h;exact h.1),fun y hy h=>?_⟩
  by_cases hl:left (yZ y)=false
  ·exact j.o.done y hy hl
  have hk:(yZ y).sameKey (yZ (yq,i))=true:=by simpa[hl] using h
  rw[zAe (u.o y hy) (u.o _ HY.o.1) (WideAt.sameKey_eq hk)];exact hno
 have HME:Hid (∀ W,Below (w1.alloc (.cells #[yq,(i:Int)] 90)).heap.size (w1.alloc (.cells #[yq,(i:Int)] 90)) W->W.rangeLeft M R<wr.rangeLeft M R):=fun W hW=>by
  rw[(lD (HY.o.2.1.alloc _) hW).left_eq,j.o.rg.left_eq];exact HY.o.2.2.1
 clear hw1 hrg
 go_wp2
 obtain⟨Xb,hXb⟩:∃X,X=w1.heap.size:=⟨_,rfl⟩;rw[<-hXb] at m ⊢;clear HAW hXb hen;generalize w1.alloc (.cells #[yq,(i:Int)] 90)=W2 at *;obtain⟨Q,rfl⟩:=Int.eq_ofNat_of_zero_le HYO.o.1
 have HQ:Hid (Q<a.gs.length):=by
  have h1:=HYO.o.2.1;have h2:=HO.o.gl;simp only at h1;show Q<_;omega
 obtain⟨hKK,k3,k5,k6,k7,_,hrd,_⟩:=HK.o.below s.o;have y0:W2.cell? ⟨Xb,0,none⟩=some (.int .i64 (Q:Int)):=by simp[World.cell?,m.o]
 have y1:W2.cell? ⟨Xb,1,none⟩=some (.int .i64 (i:Int)):=by simp[World.cell?,m.o]
 have J:Xb<W2.heap.size:=(gLt m.o)
 obtain⟨bB,oB,hBB,_,hbl,g1⟩:=xG.at_ hrd.gs HQ.o;subst hBB;have hQl:Q<a.gs.length:=HQ.o;have hcb:a.gs.length<=cb:=hrd.gs.le;obtain⟨gv,hgv⟩:∃g,g=a.gs[Q]'hQl:=⟨_,rfl⟩;rw[<-hgv] at g1
 have HGV:Hid (a.good (Q:Int)↔gv=true):=by
  show _↔_;unfold Au.good;rw[Int.toNat_natCast,List.getD_eq_getElem?_getD,List.getElem?_eq_getElem hQl,hgv];exact⟨fun h=>h.2,fun h=>⟨by omega,h⟩⟩
 clear hgv hrd
 by_cases hyb:i<d
 ·have hyb2:((i:Int)<(d:Int))=True:=by simp;exact hyb
  have hd:decide ((i:Int)<(d:Int))=true:=by simp;exact hyb
  have HNR:Hid (¬ zAn a row d ((Q:Int),i)):=fun h=>by have:=h.1;simp only at this;omega
  go_quiet (fail)
  have HN2:=hId (HNX.o _ (zC bRf nq) HNR.o);have HM2:=hId (HME.o _ (zC bRf nq));clear k3 k5 k6 k7 y0 y1 g1 hKK J hbl HNX HME m s;generalize W2.drewN nq=W3 at *
  go_wp2_with fail
  go_roundw
  case rel=>exact⟨_,O,HN2.o⟩
  case measure=>exact HM2.o
 have hd:decide ((i:Int)<(d:Int))=false:=by simp;omega
 cases gv with
 |false=>
  have HNR:Hid (¬ zAn a row d ((Q:Int),i)):=fun h=>by have:=HGV.o.1 h.2.1;cases this
  go_quiet (fail)
  have HN2:=hId (HNX.o _ (zC bRf nq) HNR.o);have HM2:=hId (HME.o _ (zC bRf nq));clear k3 k5 k6 k7 y0 y1 g1 hKK J hbl HNX HME m s;generalize W2.drewN nq=W3 at *
  go_wp2_with fail
  go_roundw
  case rel=>exact⟨_,O,HN2.o⟩
  case measure=>exact HM2.o
 |true=>
  have HRD:Hid (vT (SpE a row d) ((Q:Int),i) ((Q:Int),i)↔zAn a row d ((Q:Int),i)):=⟨fun h=>⟨by show d<=i;omega,HGV.o.2 rfl,h⟩,fun h=>h.2.2⟩
  have HYL:=hId HY.o.1
  go_quiet (fail)
  have HW3:Hid (Below W2 W2 (W2.drewN nq)):=zC bRf nq
  have HBW3:Hid (Below w w (W2.drewN nq)):=zC s.o nq
  have N:Hid ((W2.drewN nq).heap[Xb]?=some (.cells #[(Q:Int),(i:Int)] 90)):=m.o
  clear k3 k5 k6 k7 y0 y1 g1 hKK J hbl m s;generalize W2.drewN nq=W3 at *;have y0:W3.cell? ⟨Xb,0,none⟩=some (.int .i64 (Q:Int)):=by simp[World.cell?,N.o]
  have y1:W3.cell? ⟨Xb,1,none⟩=some (.int .i64 (i:Int)):=by simp[World.cell?,N.o]
  have J:Xb<W3.heap.size:=(gLt N.o)
  have hw3:w.heap.size<=W3.heap.size:=HBW3.o.size
  have HCALL:Hid (∀ Wd,Below W3 W3 Wd->Wd.heap.size=W3.heap.size->Calls Tryz.prog 51 #[(⟨K,0,none⟩:Addr),.slice (some ⟨W3,0,none⟩) 1 1] (Wd.alloc (.cells #[(Q:Int),(i:Int)] 90)) fun e w4=>∃(M2:Nat) (c:Int),e=.returned (.map (some M2))/\Below W3 W3 w4/\(Instr.lookup 91 (.map (some M2)) (.agg #[(Q:Int),(i:Int)]) false).run Tryz.prog w4=.ok c w4/\Hid ((c=1\/c=0)/\(c=1↔vT (SpE a row d) ((Q:Int),i) ((Q:Int),i)))):=by
   intro Wd hd1 hd2;have hwd:Below w w (Wd.alloc (.cells #[(Q:Int),(i:Int)] 90)):=(zA HBW3.o hd1 hw3).alloc (by omega) _
   have hf:=zCY Wd w.heap.size ((Q:Int),i) (by omega)
   rw[hd2] at hf;refine(HALL.o ((Q:Int),i) HYO.o _ _ hwd hf).mono ?_;rintro e w4 ⟨M2,L2,rfl,_,hm2,hok2,_,hiff,hg2,_⟩
   obtain⟨c,hrun,hat,_⟩:=World.ownsMap.lookup_int hm2 iA Tryz.underlying91 Tryz.underlying3 (zAU _) (sH (u.o _ HYL.o));rw[jH.at_ (fun y hy=>(hok2 y hy).w HO.o hr) (u.o _ HYL.o)] at hat
   have hc:(if((Q:Int),i)∈L2 then(1:Int) else 0)=c:=by injection hat with e;injection e with _ e
   refine⟨M2,c,rfl,?_,hrun,?_⟩
   ·refine Below.grown (hd1.alloc (by omega) _) hg2 (by simp;omega) (fun k hk=>?_)
    simp[Value.ownBlock] at hk
    omega
   by_cases hin:((Q:Int),i)∈L2
   ·rw[if_pos hin] at hc
    obtain⟨x,hx,hp⟩:=(hiff _).1 hin;rw[List.mem_singleton.1 hx] at hp;exact⟨.inl hc.symm,fun _=>hp,fun _=>hc.symm⟩
   rw[if_neg hin] at hc;exact⟨.inr hc.symm,fun h=>by omega,fun hp=>absurd ((hiff _).2 ⟨_,List.mem_singleton.2 rfl,hp⟩) hin⟩
  go_wp2_with fail
  go_region_held3 (fun w'=>w'.cell? ⟨Xb,0,none⟩=some (.int .i64 (Q:Int))/\w'.cell? ⟨Xb,1,none⟩=some (.int .i64 (i:Int)))
   (first|go_keep|exact⟨z0,z1⟩)
   ((go_at_call 51;refine(HCALL.o _ bRf.drew rfl).mono ?_;rintro e w4 ⟨M2,c4,rfl,hb4,hrun4,HC4⟩;have z0:=(hb4.cell (p:=⟨Xb,0,none⟩) J).trans y0;have z1:=(hb4.cell (p:=⟨Xb,1,none⟩) J).trans y1))
  all_goals
   have HB5:Hid (Below W2 W2 w4):=zA HW3.o hb4 HW3.o.size
   have HBW5:Hid (Below w w w4):=zA HBW3.o hb4 hw3
   clear hb4 hrun4 y0 y1 z0 z1 J N HCALL
   by_cases hc1:c4=1
   ·have HP:Hid (zDn w (zAV a row d L) (.returned (.bool true)) w4):=
     ⟨true,rfl,⟨fun _=>⟨_,HYL.o,HRD.o.1 (HC4.o.2.1 hc1)⟩,fun _=>rfl⟩,HBW5.o⟩
    subst hc1
    go_wp2_with fail
    go_ret
    exact HP.o
   have hc0:c4=0:=HC4.o.1.resolve_left hc1
   have HN2:=hId (HNX.o _ HB5.o (fun h=>hc1 (HC4.o.2.2 (HRD.o.2 h))))
   have HM2:=hId (HME.o _ HB5.o);subst hc0;clear hc1
   go_wp2_with fail
   go_roundw
   case rel=>exact⟨_,O,HN2.o⟩
   case measure=>exact HM2.o
def wK (a:Au) (l:La):Int:=if ckA a=0 then ckL l a.le else ckA a
noncomputable def tkB (a:Au) (l:La):Bool:=wK a l==0&&pV a l.at
def bW (w:World) (a:Au) (l:La) (e:Ending) (w':World):Prop:=e=.returned (.tuple #[.bool (tkB a l),(wK a l)])/\Below w w w'
theorem aO {a:Au} {l:La} {x y:Int×Nat}:SpE a l.row l.h.length x y↔SE a l x y:=by
 unfold SpE zAm yK SE zG;rw[List.mem_map]
 constructor
 ·rintro⟨s,j,rfl⟩
  obtain⟨e,d⟩:=List.mem_filter.1 j;obtain⟨i,g⟩:=List.mem_filter.1 e;obtain⟨f,m,t⟩:=s;simp only[beq_iff_eq] at d g;subst d g;refine⟨i,?_⟩;show nxt l.row l.h.length x.2=nx l.n l.h.length x.2;unfold nxt nx
  rw[La.row_len]
 rintro⟨e,d⟩;refine⟨⟨x.1,l.row.getD x.2 0,y.1⟩,List.mem_filter.2 ⟨List.mem_filter.2 ⟨e,by simp⟩,by simp⟩,?_⟩
 refine Prod.ext rfl ?_;show nxt l.row l.h.length x.2=y.2;rw[d];unfold nxt nx;rw[La.row_len]
theorem dR {a:Au} {l:La} {x y:Int×Nat}:vT (SpE a l.row l.h.length) x y↔vT (SE a l) x y:=by
 constructor
 ·intro h
  induction h with
  |one h=>exact .one (aO.1 h)
  |on _ h ih=>exact ih.on (aO.1 h)
 intro h
 induction h with
 |one h=>exact .one (aO.2 h)
 |on _ h ih=>exact ih.on (aO.2 h)
theorem zBu {a:Au} {l:La} (u:vG a) (J:0<l.l.length) {L D:List (Int×Nat)} (m:∀y,y∈L↔∃x∈a.fs.map (fun n=>(n,0)),vT (SpE a l.row l.h.length) x y) (s:∀y∈D,y∈a.fs.map (fun n=>(n,0))\/y∈L):
  zAV a l.row l.h.length (L++D)↔xJ a l.at:=by
 rw[zD2 u J]
 constructor
 ·rintro⟨x,hx,g,i,d⟩
  have hx:x∈a.fs.map (fun n=>(n,0))\/x∈L:=by
   rcases List.mem_append.1 hx with h|h
   ·exact .inr h
   exact s x h
  rcases hx with h|h
  ·obtain⟨f,e,rfl⟩:=List.mem_map.1 h
   exact⟨f,e,_,.inl rfl,g,i,dR.1 d⟩
  obtain⟨y,K,j⟩:=(m x).1 h;obtain⟨f,e,rfl⟩:=List.mem_map.1 K;exact⟨f,e,x,.inr (dR.1 j),g,i,dR.1 d⟩
 rintro⟨f,e,x,hx,g,i,d⟩;refine⟨x,List.mem_append_left _ ((m x).2 ⟨(f,0),List.mem_map.2 ⟨f,e,rfl⟩,?_⟩),g,i,dR.2 d⟩
 rcases hx with rfl|hx
 ·exact dR.2 d
 exact dR.2 hx
theorem zJV {a:Au} (d:vG a):a.fs.length<=300:=by
 have:=nV a.st.toNat (a.fs.map Int.toNat) (List.pairwise_map.2 (d.fo.imp_of_mem fun{x y} e g hlt he=>by
  have:=d.fr x e;have:=d.fr y g;omega)) (fun x e=>by
  obtain⟨y,g,rfl⟩:=List.mem_map.1 e;have:=d.fr y g;omega)
 have h:=d.st2;rw[List.length_map] at this;omega
theorem zHZ (y:Int×Nat):∀u∈spC y,u.oneCell'=true:=by
 intro u d;simp only[spC,List.mem_cons,List.not_mem_nil,or_false] at d
 rcases d with rfl|rfl<;>rfl
theorem zHV (W:World) (y:Int×Nat):Rd (W.alloc (.cells #[y.1,(y.2:Int)] 90)) 0 (some ⟨W,0,none⟩) (spC y):=Rd.new W #[y.1,(y.2:Int)] 90
structure Tk2 (a:Au) (wk:World) (M:Nat) (L fr:List (Int×Nat)) (Af:Option Addr) (k:Nat) (D:List (Int×Nat)) (wr:World):Prop where
 map:jH wr M (L++D)
 sub:∀y∈D,y∈fr\/y∈L
 below:Below wk wk wr
 row:0<a.fs.length->∃g,Af=some ⟨g,0,none⟩/\jJ wr g a.fs.length (fun y=>y∈fr\/y∈L)
 len:D.length=k
theorem zLW (W:World) (g:Nat) (o:Obj) (h:g<W.heap.size):(W.alloc o).heap[g]?=W.heap[g]?:=Below.heap_alloc W o g h
theorem zJK {W:World} {a:Au} {A B C e:Option Addr} {ca cb cc h g n d:Nat} {row:List Int} (m:zE W 0 e h row) (j:yG W g a A B C ca cb cc) (s:zM W 0 a A B C ca cb cc) (u:n=row.length):
  zBf (W.alloc (.cells #[a.st,a.le,.slice A a.fs.length ca,.slice B a.gs.length cb,.slice C a.ss.length cc,.slice e n h,(d:Int),.func (.func 89) #[] #[(⟨g,0,none⟩:Addr)]] 87)) W.heap.size g a A B C ca cb cc row e h d:=by
 subst u
 have i:Below W W (W.alloc (.cells #[a.st,a.le,.slice A a.fs.length ca,.slice B a.gs.length cb,.slice C a.ss.length cc,.slice e row.length h,(d:Int),.func (.func 89) #[] #[(⟨g,0,none⟩:Addr)]] 87)):=bLa
 refine⟨by simp,?_,?_,?_,?_,j.below i j.lt,s.below i,m.below i⟩<;>go_simp
theorem eY (a:Au) (A B C D E:Option Addr) (ca cb cc cd ce:Nat) (l:La) (w:World) (hr:zM w 0 a A B C ca cb cc) (hh:zE w 0 D cd l.h) (hl:zE w 0 E ce l.l):
  Calls Tryz.prog 11 #[.agg #[a.st,a.le,.slice A a.fs.length ca,.slice B a.gs.length cb,.slice C a.ss.length cc],.agg #[.slice D l.h.length cd,.slice E l.l.length ce]] w (bW w a l):=by
 have HW:=hId (zKf w a A B C ca cb cc l D E cd ce);have HR:=hId (hr.below HW.o.below);have HH:=hId (hh.below HW.o.below);have HL:=hId (hl.below HW.o.below)
 have HCA:=hId (fun W (hW:Below w w W)=>kQ a A B C ca cb cc W (hr.below hW))
 have HCL:=hId (fun W (hW:Below w w W)=>fY D E cd ce l a.le W (hh.below hW) (hl.below hW))
 have HH0:=hId hh;have HL0:=hId hl;clear hr hh hl
 go_enter Tryz.func11,Tryz.ntmps11
 go_upto_region 1 with fail
 change Code.wp _ _ _ _ (alW w a A B C ca cb cc l D E cd ce);generalize alW w a A B C ca cb cc l D E cd ce=W0 at *;obtain⟨V,hV⟩:∃V,V=w.heap.size:=⟨_,rfl⟩;rw[<-hV] at HW ⊢;have HVV:=hId hV;have HA:=hId HW.o.at_
 have HSZ:=hId HW.o.size;have J:Hid (Below w w W0):=HW.o.below;have hV1:=HA.o.lt;clear HW hV;obtain⟨_,⟨_,c0,c1,c2,c3,c4⟩,l0,l1⟩:=HA.o
 by_cases hk:ckA a=0
 ·have HCA2:Hid (∀ W,Below w w W->Calls Tryz.prog 48 #[.agg #[a.st,a.le,.slice A a.fs.length ca,.slice B a.gs.length cb,.slice C a.ss.length cc]] W (uI W 0)):=by rw[<-hk];exact HCA.o
  have HTE:Hid (wK a l=ckL l a.le):=by show _=_;unfold wK;rw[if_pos hk]
  obtain⟨ho,hos⟩:=yP.1 hk;clear hk HCA
  go_wp2_with fail
  refine(HCA2.o _ J.o).mono ?_;rintro e W1 ⟨rfl,hb1⟩;have HB1:=hId hb1;obtain⟨hV2,⟨_,d0,d1,d2,d3,d4⟩,m0,m1⟩:=HA.o.below hb1 hV1;clear hb1 c0 c1 c2 c3 c4 l0 l1
  go_wp2_with fail
  refine(HCL.o _ (zA J.o HB1.o J.o.size)).mono ?_;rintro e W2 ⟨rfl,hb2⟩;have m:Hid (Below W0 W0 W2):=zA HB1.o hb2 HB1.o.size;clear hb2 d0 d1 d2 d3 d4 m0 m1 HB1 hV2
  by_cases hk2:ckL l a.le=0
  ·rw[hk2] at HTE ⊢
   have m:=m;obtain⟨hV2,⟨_,d0,d1,d2,d3,d4⟩,m0,m1⟩:=HA.o.below m.o hV1
   go_wp2_with fail
   have j:Hid (Below w w W2):=zA J.o m.o J.o.size
   have hV2l:V+1<W2.heap.size:=hV2
   obtain⟨h8,hle4,hle4'⟩:=zEq hk2
   have HCAT:Hid (∀ W G,Below w w W->W.cell? ⟨G,0,none⟩=some (.slice D l.h.length cd)->W.cell? ⟨G,1,none⟩=some (.slice E l.l.length ce)->G<W.heap.size->Calls Tryz.prog 49 #[.slice (some ⟨G,0,none⟩) 2 2] W (mX W (l.h++l.l))):=fun W G hW h0 h1 hG=>
    zBS G D E cd ce l.h l.l W (HH0.o.below hW) (HL0.o.below hW) (by omega) h0 h1 hG
   have HRW:Hid (∀ W,Below W2 W2 W->zM W 0 a A B C ca cb cc):=fun W hW=>HR.o.below (zA m.o hW m.o.size)
   have HFRM:=hId (fun W=>zCq a A B C ca cb cc W)
   have HG0:Hid (Below W2 W2 (W2.alloc (.cells #[.slice D l.h.length cd,.slice E l.l.length ce] 22)).drew):=((Below.refl _ W2).alloc nLe _).drew
   go_cut [7] (fun s7 wx=>∃K V' Dr cr,s7=.pointer (some ⟨K,0,none⟩)/\Hid (zBf wx K V' a A B C ca cb cc l.row Dr cr l.h.length/\Below W2 W2 wx))
   case first=>
    go_region_held3 (fun w'=>w'.cell? ⟨V,0,none⟩=some (.int .i64 a.st)/\w'.cell? ⟨V,1,none⟩=some (.int .i64 a.le)/\w'.cell? ⟨V,2,none⟩=some (.slice A a.fs.length ca)/\w'.cell? ⟨V,3,none⟩=some (.slice B a.gs.length cb)/\w'.cell? ⟨V,4,none⟩=some (.slice C a.ss.length cc)/\w'.cell? ⟨V+1,0,none⟩=some (.slice D l.h.length cd)/\w'.cell? ⟨V+1,1,none⟩=some (.slice E l.l.length ce))
     (first|go_keep|exact⟨z0,z1,z2,z3,z4,z5,z6⟩)
     (first
      |(go_at_call 49;refine(HCAT.o _ _ (zA j.o HG0.o j.o.size) (by go_simp) (by go_simp) (by simp)).mono ?_;rintro e w4 ⟨A4,c4',rfl,hi4,hb4⟩;have i:=hId (zA HG0.o hb4 (by simp));have HI4:=hId (hi4.zero);have z0:=(i.o.cell (p:=⟨V,0,none⟩) (by show V<_;omega)).trans d0;have z1:=(i.o.cell (p:=⟨V,1,none⟩) (by show V<_;omega)).trans d1;have z2:=(i.o.cell (p:=⟨V,2,none⟩) (by show V<_;omega)).trans d2;have z3:=(i.o.cell (p:=⟨V,3,none⟩) (by show V<_;omega)).trans d3;have z4:=(i.o.cell (p:=⟨V,4,none⟩) (by show V<_;omega)).trans d4;have z5:=(i.o.cell (p:=⟨V+1,0,none⟩) (by show V+1<_;omega)).trans m0;have z6:=(i.o.cell (p:=⟨V+1,1,none⟩) (by show V+1<_;omega)).trans m1)
      |(go_at_call 49;refine(HCAT.o _ _ (zA j.o d.o j.o.size) zg0 zg1 hg5).mono ?_;rintro e w4 ⟨A4,c4',rfl,hi4,hb4⟩;have i:=hId (zA d.o hb4 d.o.size);have HI4:=hId (hi4.zero);have HA4:=hId (U.o.below hb4 U.o.lt);have z0:=(i.o.cell (p:=⟨V,0,none⟩) (by show V<_;omega)).trans d0;have z1:=(i.o.cell (p:=⟨V,1,none⟩) (by show V<_;omega)).trans d1;have z2:=(i.o.cell (p:=⟨V,2,none⟩) (by show V<_;omega)).trans d2;have z3:=(i.o.cell (p:=⟨V,3,none⟩) (by show V<_;omega)).trans d3;have z4:=(i.o.cell (p:=⟨V,4,none⟩) (by show V<_;omega)).trans d4;have z5:=(i.o.cell (p:=⟨V+1,0,none⟩) (by show V+1<_;omega)).trans m0;have z6:=(i.o.cell (p:=⟨V+1,1,none⟩) (by show V+1<_;omega)).trans m1)
      |(go_at_call 49;refine(HCAT.o _ _ (zA j.o (d.o.alloc d.o.size _) j.o.size) (by go_simp) (by go_simp) (by simp)).mono ?_;rintro e w4 ⟨A4,c4',rfl,hi4,hb4⟩;have i:=hId (zA (d.o.alloc d.o.size _) hb4 (by have:=d.o.size;simp;omega));have HI4:=hId (hi4.zero);have HA4:=hId ((U.o.below (bLa) U.o.lt).below hb4 (by have:=U.o.lt;simp;omega));have z0:=(i.o.cell (p:=⟨V,0,none⟩) (by show V<_;omega)).trans d0;have z1:=(i.o.cell (p:=⟨V,1,none⟩) (by show V<_;omega)).trans d1;have z2:=(i.o.cell (p:=⟨V,2,none⟩) (by show V<_;omega)).trans d2;have z3:=(i.o.cell (p:=⟨V,3,none⟩) (by show V<_;omega)).trans d3;have z4:=(i.o.cell (p:=⟨V,4,none⟩) (by show V<_;omega)).trans d4;have z5:=(i.o.cell (p:=⟨V+1,0,none⟩) (by show V+1<_;omega)).trans m0;have z6:=(i.o.cell (p:=⟨V+1,1,none⟩) (by show V+1<_;omega)).trans m1)
      |(go_at_call 50;refine(HFRM.o _).mono ?_;rintro e w5 ⟨V5,rfl,hV5,hA5,N⟩;have d:=hId (zA i.o N i.o.size);have HI5:=hId (HI4.o.below N);have U:=hId hA5;have z0:=(d.o.cell (p:=⟨V,0,none⟩) (by show V<_;omega)).trans d0;have z1:=(d.o.cell (p:=⟨V,1,none⟩) (by show V<_;omega)).trans d1;have z2:=(d.o.cell (p:=⟨V,2,none⟩) (by show V<_;omega)).trans d2;have z3:=(d.o.cell (p:=⟨V,3,none⟩) (by show V<_;omega)).trans d3;have z4:=(d.o.cell (p:=⟨V,4,none⟩) (by show V<_;omega)).trans d4;have z5:=(d.o.cell (p:=⟨V+1,0,none⟩) (by show V+1<_;omega)).trans m0;have z6:=(d.o.cell (p:=⟨V+1,1,none⟩) (by show V+1<_;omega)).trans m1)
      |(go_at_call 50;refine(HFRM.o _).mono ?_;rintro e w5 ⟨V5,rfl,hV5,hA5,N⟩;have d:=hId (zA HG0.o N (by simp));have U:=hId hA5;have zg0:=(N.cell (p:=⟨W2,0,none⟩) (by simp)).trans (show _=some (.slice D l.h.length cd) by go_simp);have zg1:=(N.cell (p:=⟨W2.heap.size,1,none⟩) (by simp)).trans (show _=some (.slice E l.l.length ce) by go_simp);have hg5:W2.heap.size<w5.heap.size:=by have:=N.size;simp at this;omega;have z0:=(d.o.cell (p:=⟨V,0,none⟩) (by show V<_;omega)).trans d0;have z1:=(d.o.cell (p:=⟨V,1,none⟩) (by show V<_;omega)).trans d1;have z2:=(d.o.cell (p:=⟨V,2,none⟩) (by show V<_;omega)).trans d2;have z3:=(d.o.cell (p:=⟨V,3,none⟩) (by show V<_;omega)).trans d3;have z4:=(d.o.cell (p:=⟨V,4,none⟩) (by show V<_;omega)).trans d4;have z5:=(d.o.cell (p:=⟨V+1,0,none⟩) (by show V+1<_;omega)).trans m0;have z6:=(d.o.cell (p:=⟨V+1,1,none⟩) (by show V+1<_;omega)).trans m1)
      |(go_at_call 50;refine(HFRM.o _).mono ?_;rintro e w5 ⟨V5,rfl,hV5,hA5,N⟩;have d:=hId (zA (Below.refl _ W2).drew N (by simp));have U:=hId hA5;have z0:=(d.o.cell (p:=⟨V,0,none⟩) (by show V<_;omega)).trans d0;have z1:=(d.o.cell (p:=⟨V,1,none⟩) (by show V<_;omega)).trans d1;have z2:=(d.o.cell (p:=⟨V,2,none⟩) (by show V<_;omega)).trans d2;have z3:=(d.o.cell (p:=⟨V,3,none⟩) (by show V<_;omega)).trans d3;have z4:=(d.o.cell (p:=⟨V,4,none⟩) (by show V<_;omega)).trans d4;have z5:=(d.o.cell (p:=⟨V+1,0,none⟩) (by show V+1<_;omega)).trans m0;have z6:=(d.o.cell (p:=⟨V+1,1,none⟩) (by show V+1<_;omega)).trans m1))
    all_goals
     go_wp2_with fail
     go_meet
    ·exact⟨_,V5,A4,c4',rfl,zJK HI5.o U.o (HRW.o _ d.o) (by rw[La.row_len];rfl),d.o.alloc d.o.size _⟩
   obtain⟨K,V',Dr,cr,rfl,HWK⟩:=hcut;obtain⟨O,rfl⟩:∃O:World,O=wc:=⟨_,rfl⟩;have HK:=hId HWK.o.1;have HBK:Hid (Below w w O):=zA j.o HWK.o.2 j.o.size
   have hVk:V+1<O.heap.size:=Nat.lt_of_lt_of_le hV2 HWK.o.2.size
   have hHO:=hId ho;have HOS:=hId hos;have HAK:Hid (yG O V a A B C ca cb cc):=(HA.o.below (zA m.o HWK.o.2 m.o.size) hV1).au;have hrow:l.row.length<=8000:=by rw[La.row_len];unfold La.n;omega
   have hback:l.h.length<l.row.length:=by rw[La.row_len];unfold La.n;omega
   have HFS:Hid (∀ f∈a.fs,0<=f/\f<a.st):=ho.fr
   have hfl:a.fs.length<=300:=zJV ho
   clear d0 d1 d2 d3 d4 m0 m1 HWK m HCAT HRW HFRM HG0 ho hos;obtain⟨_,d0,d1,d2,d3,d4⟩:=HAK.o;obtain⟨i0,hi0,hz0,hz1,hz2⟩:=info_parts zCO
   go_wp2_with fail
   go_loopw [8,42] (fun s8 s42 wr=>∃k:Nat,k<=a.fs.length/\s42=.int .i64 k/\Hid (qT wr O.heap.size s8 ((a.fs.take k).map fun n=>(n,0))/\Below O O wr)) (fun _ s _=>a.fs.length-(intOf s).toNat)
   case atStart=>exact⟨0,Nat.zero_le _,rfl,World.ownsRow_nil _ _ _ _,bRf⟩
   obtain⟨k,hk,rfl,h5⟩:=hrel;obtain⟨wp,rfl⟩:∃wp:World,wp=wr:=⟨_,rfl⟩;clear d0 d1 d2 d3 d4;obtain⟨_,d0,d1,d2,d3,d4⟩:=HAK.o.below h5.o.2 (by omega)
   by_cases hkl:k<a.fs.length
   ·obtain⟨b,o,rfl,_,_,q0⟩:=zE.at_ ((HK.o.rd.fs).below h5.o.2) hkl
    obtain⟨x,hx⟩:∃x,x=a.fs[k]:=⟨_,rfl⟩;rw[<-hx] at q0;have HX:=hId hx;have hlo:=h5.o.2.size;have hl1:((a.fs.take k).map fun n=>((n:Int),(0:Nat))).length=k:=by simp;omega
    have HOW:Hid (wp.ownsRow O.heap.size 90 2 u8 k (((a.fs.take k).map fun n=>((n:Int),(0:Nat))).flatMap spC)):=by have:=h5.o.1;unfold qT at this;rwa[hl1] at this
    clear hx
    go_wp2_with (at_builtin;refine qE _ rfl (.tmp 46) (.tmp 49) _ rfl O.heap.size 90 i0 _ 2 16 Tryz.underlying88 hi0 hz0 hz1 hz2 rfl (by decide) u8 k _ rfl (World.ownsRow.alloc HOW.o _) (some ⟨wp,0,none⟩) 1 1 (spC (x,0)) rfl rfl (zHV wp (x,0)) (zHZ (x,0)) (by unfold maxLen;omega) (by omega) (by simp;omega) ?_;intro v5 w5 hown5 hg5 hat5)
    go_roundw
    case rel=>
     refine⟨k+1,by omega,by go_num,?_,?_⟩
     ·show qT w5 O.heap.size v5 ((a.fs.take (k+1)).map fun n=>((n:Int),(0:Nat)))
      rw[List.take_succ_eq_append_getElem hkl,<-HX.o,List.map_append];unfold qT;rw[List.length_append,hl1,List.flatMap_append]
      simpa using hown5
     exact Below.grown (h5.o.2.alloc hlo _) hg5 (by simp;omega) (fun k hk=>(HOW.o.lt k hk).1)
    case measure=>simp[intOf];omega
   obtain rfl:k=a.fs.length:=by omega
   have h6:=h5.o.1;rw[List.take_length] at h6;obtain⟨fr,hfr⟩:∃fr,fr=a.fs.map fun n=>((n:Int),(0:Nat)):=⟨_,rfl⟩
   rw[<-hfr] at h6;have hfl2:fr.length=a.fs.length:=by rw[hfr,List.length_map]
   obtain⟨Af,cf,rfl,hcf⟩:∃A c,u8=.slice A a.fs.length c/\a.fs.length<=c:=by
    obtain⟨A',c,h1,h2,_⟩:=zF h6;exact⟨A',c,by rw[<-hfl2];exact h1,by rw[<-hfl2];exact h2⟩
   have HFR0:=hId h6;have HFE:=hId hfr
   have HSPO:Hid (∀ y∈fr,tD a l.row y):=by
    intro y hy;rw[hfr] at hy;obtain⟨f,hf,rfl⟩:=List.mem_map.1 hy;exact⟨(HFS.o f hf).1,(HFS.o f hf).2,by show 0<_;omega⟩
   have HBP:=hId h5.o.2;clear h6 hfr h5
   go_wp2_with fail
   refine(zKQ a A B C Dr ca cb cc cr K V' l.h.length l.row (.slice Af a.fs.length cf) fr O wp HK.o HBP.o HFR0.o HSPO.o hHO.o HOS.o hrow hback (by omega)).mono ?_
   rintro e w6 ⟨M,L,rfl,hM,hm,hok,hnd,hiff,hg,hrw⟩;have HB6:Hid (Below O O w6):=Below.grown HBP.o hg HBP.o.size (fun k hk=>(HFR0.o.lt k hk).1)
   have HRW6:Hid (0<a.fs.length->∃g,Af=some ⟨g,0,none⟩/\jJ w6 g a.fs.length (fun y=>y∈fr\/y∈L)):=by
    intro hpos;obtain⟨h1,h2⟩:=HFR0.o
    rcases h2 with⟨_,h2⟩|⟨g,cap,cur,hv,_⟩
    ·omega
    simp at hv
    obtain⟨rfl,_⟩:=hv;refine⟨g,rfl,hrw g a.fs.length _ ?_ (fun y hy=>.inr hy)⟩
    have:=(jJ.of_from HFR0.o).mono (S':=fun y=>y∈fr\/y∈L) (fun y hy=>.inl hy)
    rwa[hfl2] at this
   have HM6:=hId hm;have HOK:=hId hok;have HIFF:=hId hiff;have hM2:O.heap.size<=M:=by have:=HBP.o.size;omega
   have HLL:Hid (L.length<=2400000):=by
    have h2:=bF hnd hok;have h3:=hHO.o.st2;have h4:tJ a l.row<=300*8000:=Nat.mul_le_mul (by omega) hrow
    show L.length<=_;omega
   clear hm hok hnd hiff hg hrw hM
   go_wp2_with fail
   go_loopw [13,57] (fun _ s57 wr=>∃(k:Nat) (D:List (Int×Nat)),k<=a.fs.length/\s57=.int .i64 k/\Hid (Tk2 a O M L fr Af k D wr)) (fun _ s _=>a.fs.length-(intOf s).toNat)
   case atStart=>exact⟨0,[],Nat.zero_le _,rfl,by rw[List.append_nil];exact HM6.o,fun y hy=>(by cases hy),HB6.o,HRW6.o,rfl⟩
   obtain⟨k,D,hk,rfl,HT⟩:=hrel;clear d0 d1 d2 d3 d4;have HTB:=hId HT.o.below
   by_cases hkl:k<a.fs.length
   ·obtain⟨g,rfl,hri⟩:=HT.o.row (by omega)
    obtain⟨cur,hcur,hcs,hall⟩:=hri;obtain⟨⟨yq,yp⟩,hy,q0,q1⟩:=hall k hkl;simp only at q0 q1;have y0:wr.cell? ⟨g,k*2,none⟩=some (.int .i64 yq):=by simp[World.cell?,hcur];simpa using q0
    have y1:wr.cell? ⟨g,k*2+1,none⟩=some (.int .i64 (yp:Int)):=by simp[World.cell?,hcur];simpa using q1
    have HY:=hId hy;clear hcur hcs hall q0 q1 hy;have HYW:Hid (SpW (yq,yp)):=(HY.o.elim (HSPO.o _) (HOK.o _)).w hHO.o hrow;have hba:Below wr wr (wr.alloc (.cells #[yq,(yp:Int)] 90)):=bLa
    have HMA:Hid (jH (wr.alloc (.cells #[yq,(yp:Int)] 90)) M (L++D)):=HT.o.map.below hba
    have HBA:Hid (Below O O (wr.alloc (.cells #[yq,(yp:Int)] 90))):=zA HTB.o hba HTB.o.size
    have hlen:(L++D).length<maxLen:=by
     have h1:=HT.o.len;have h2:=HLL.o;rw[List.length_append];unfold maxLen;omega
    clear hba
    go_wp2_with (at_mapUpdate;refine wpList_mapUpdate_own _ rfl _ _ _ 91 rfl 90 3 iA Tryz.underlying91 _ M (L++D).length (setOf gC ((L++D).map yZ)) rfl HMA.o hlen _ _ (yZ (yq,yp)) rfl rfl (sH HYW.o) gC [] (plainElem_int Tryz.underlying3 (by decide)) ?_;intro w7 hown7 hg7)
    go_roundw
    case rel=>
     refine⟨k+1,D++[(yq,yp)],by omega,by go_num,by rw[<-List.append_assoc];exact jH.step hown7,fun y hy=>?_,?_,fun hpos=>?_,by rw[List.length_append,HT.o.len];rfl⟩
     ·rcases List.mem_append.1 hy with h|h
      ·exact HT.o.sub y h
      rw[List.mem_singleton.1 h];exact HY.o
     ·exact Below.grown HBA.o hg7 HBA.o.size (fun k hk=>by cases hk;exact hM2)
     obtain⟨g',hge,hri⟩:=HT.o.row hpos;refine⟨g',hge,(hri.heap (zLW wr g' _ hri.lt)).heap (hg7.block g' (by have:=hri.lt;simp;omega) fun e=>?_)⟩
     obtain rfl:g'=M:=by simpa using e
     obtain⟨cur,h1,_⟩:=hri;obtain⟨es,ck,h2,_⟩:=HT.o.map;rw[h2] at h1;cases h1
    case measure=>simp[intOf];omega
   obtain rfl:k=a.fs.length:=by omega
   go_wp2_with fail
   refine(zJX a A B C Dr ca cb cc cr K V' l.h.length M l.row (L++D) O wr HK.o HTB.o HT.o.map (fun y hy=>(List.mem_append.1 hy).elim (HOK.o y) fun h=>(HT.o.sub y h).elim (HSPO.o y) (HOK.o y)) hHO.o HOS.o hrow hback).mono ?_
   rintro e w8 ⟨bb,rfl,hbb,hb8⟩
   have HP:Hid (bW w a l (.returned (.tuple #[bb,(0:Int)])) w8):=by
    refine⟨?_,zA HBK.o (zA HTB.o hb8 HTB.o.size) HBK.o.size⟩
    have e1:bb=tkB a l:=by
     have h1:=hbb.trans (zBu hHO.o (by omega) (fun y=>by rw[<-HFE.o];exact HIFF.o y) (fun y hy=>by rw[<-HFE.o];exact HT.o.sub y hy))
     unfold tkB;rw[HTE.o];have h2:=wQ (a:=a) (u:=l.at)
     cases bb<;>cases hx:pV a l.at<;>simp_all
    rw[e1,HTE.o]
   clear hbb hb8
   go_wp2_with fail
   go_ret2
   exact HP.o
  have HP:Hid (bW w a l (.returned (.tuple #[false,(ckL l a.le)])) W2):=by
   refine⟨?_,zA J.o m.o J.o.size⟩;have:tkB a l=false:=by unfold tkB;rw[HTE.o];simp[hk2]
   rw[this,HTE.o]
  generalize ckL l a.le=kk at *;have hk3:(kk !=0)=true:=by simpa using hk2
  go_wp2_with fail
  go_ret2
  exact HP.o
 have HP:Hid (∀ W,Below w w W->bW w a l (.returned (.tuple #[false,(ckA a)])) W):=by
  intro W hW;have e1:wK a l=ckA a:=by unfold wK;rw[if_neg hk]
  have:tkB a l=false:=by unfold tkB;rw[e1];simp[hk]
  exact⟨by rw[this,e1],hW⟩
 generalize ckA a=kk at *;have hk3:(kk !=0)=true:=by simpa using hk
 have hk4:(kk==0)=false:=by simpa using hk
 clear HCL
 go_wp2_with fail
 refine(HCA.o _ J.o).mono ?_;rintro e W1 ⟨rfl,hb1⟩;have HP1:=hId (HP.o _ (zA J.o hb1 J.o.size));clear hb1 c0 c1 c2 c3 c4 l0 l1
 go_wp2_with fail
 go_ret2
 exact HP1.o
end
end Go.Proofs.YtoglgeaiiipchaaGreatDoor
