/- A run with known data: append. No condition. A run with known data: all operations that turn blocks. No condition. A run with known data: sequences of operations and calls. Conditions: as each theorem says. A run with known data: the quick way through a sequence is the plain way. No condition. -/
import Derived.Test.YtcbcegdidlefiaaGreatK30
namespace Go.Proofs.YtcbcegdidlefiaaGreat
section
open Go.RowKit
section
variable {P:Program} {T:TyT} {s:Sg} {ρ ρ':Operand→Value} {o:Oper} {C:Foot} {w0 w:World} {H:Hp}
theorem Rel.move {w':World} (r:Rel C w0 s H w) {L lab:Nat} {i:Info} {b0:EBlk} (hs:s L=some i) (hl:labOk L=true) (hll:labOk lab=true) (hn:s lab=none) (h0:H.at L=some b0) (b:EBlk)
  (hk:Keeps C w0 w') (ho:∀k,k≠i.bl→w'.heap[k]? =w.heap[k]?) (hb:BR (s.put lab i) i w' b):Rel C w0 (s.put lab i) ((H.del L).add lab b) w':=by
 have hle:Sg.le s (s.put lab i):=Sg.le_put hn
 have hat:∀M,((H.del L).add lab b).at M=if M=lab then some b else if M=L then none else H.at M:=by
  intro M
  rw[Hp.at_add hll,Hp.at_del hl]
 refine⟨hk,?_,?_⟩
 ·intro M j c hM hc
  rw[hat]at hc
  by_cases e:M=lab
  ·subst e
   rw[Sg.put_same]at hM;cases hM
   rw[if_pos rfl]at hc;cases hc
   exact⟨(r.live L i b0 hs h0).1,hb⟩
  ·rw[Sg.put_far e]at hM
   rw[if_neg e]at hc
   by_cases e2:M=L
   ·rw[if_pos e2]at hc;cases hc
   ·rw[if_neg e2]at hc
    obtain⟨h1,h2⟩:=r.live M j c hM hc
    refine⟨h1,h2.mono hle (ho _ fun e3=>e2 ?_)⟩
    exact r.inj M L j i c b0 hM hs hc h0 e3
 ·intro M M' j j' c c' hM hM' hc hc' he
  rw[hat]at hc hc'
  by_cases e:M=lab<;>by_cases e':M'=lab
  ·rw[e,e']
  ·subst e
   rw[Sg.put_same]at hM;cases hM
   rw[Sg.put_far e']at hM'
   rw[if_neg e']at hc'
   by_cases e2:M'=L
   ·rw[if_pos e2]at hc';cases hc'
   ·rw[if_neg e2]at hc'
    exact absurd (r.inj M' L j' i c' b0 hM' hs hc' h0 he.symm) e2
  ·subst e'
   rw[Sg.put_same]at hM';cases hM'
   rw[Sg.put_far e]at hM
   rw[if_neg e]at hc
   by_cases e2:M=L
   ·rw[if_pos e2]at hc;cases hc
   ·rw[if_neg e2]at hc
    exact absurd (r.inj M L j i c b0 hM hs hc h0 he) e2
  ·rw[Sg.put_far e]at hM;rw[Sg.put_far e']at hM';rw[if_neg e]at hc;rw[if_neg e']at hc'
   by_cases e2:M=L
   ·rw[if_pos e2]at hc;cases hc
   ·by_cases e3:M'=L
    ·rw[if_pos e3]at hc';cases hc'
    ·rw[if_neg e2]at hc;rw[if_neg e3]at hc'
     exact r.inj M M' j j' c c' hM hM' hc hc' he
theorem Rel.grow (r:Rel C w0 s H w) {lab:Nat} (hll:labOk lab=true) (hn:s lab=none) {e size cap:Nat} {abs con:List Value} {rest:Array Value} (hv:VL s abs con) (hsz:con.length+rest.size=cap*size) (h0:0<size) (d:World) (hd:d=w.drew):
  Rel C w0 (s.put lab ⟨w.heap.size,cap*size,size⟩) (H.add lab (.cells abs e size)) (d.alloc (.cells (con.toArray++rest) e)):=by
 subst hd
 have r':=r.drew
 refine r'.new hn hll _ _ _ _ ⟨rfl,h0,con,rest.toList,?_,by simpa using hsz,hv.mono (Sg.le_put hn)⟩
 rw[heap_alloc_new]
 congr 2
 apply Array.ext'
 simp
def VOK (P:Program) (C:Foot) (w0:World) (s:Sg) (lab:Nat) (w:World) (x:Sem Value) (v:Value) (H':Hp):Prop:=
 ∃s' v' w',x.run P w= .ok v' w'∧VR s' v v'∧Rel C w0 s' H' w'∧Sg.le s s'∧∀L,L≠lab→s' L=s L
theorem VOK.same {lab:Nat} {x:Sem Value} {v v':Value} {H':Hp} {w':World} (h:x.run P w= .ok v' w') (hv:VR s v v') (hr:Rel C w0 s H' w'):VOK P C w0 s lab w x v H':=⟨s,v',w',h,hv,hr,Sg.le_refl s,fun _ _=>rfl⟩
theorem zc_size (z:Array Value) (n:Nat):(Builtin.zeroCells z n).size=n*z.size:=by simp[Builtin.zeroCells]
theorem app_grow (r:Rel C w0 s H w) {lab:Nat} (hll:labOk lab=true) (hn:s lab=none) {t1 t2 ty e:Nat} {i:TypeInfo} {z:Value} (u1:P.underlying t1=some (.slice e)) (u2:∃e2,P.underlying t2=some (.slice e2)) (hi:P.info? e=some i) (hz:i.zero=some z) (hzs:z.cells.size=i.size) (h0:0<i.size)
  {b:Option Addr} {n c k:Nat} {b2:Option Addr} {c2:Nat} {olds news olds' news':List Value}
  (hf:∀w2:World,w2.heap=w.heap→(Builtin.firstCells i.size k (.slice b2 k c2)).run P w2= .ok news'.toArray w2) (hnl:news'.length=k*i.size) (hnv:VL s news news')
  (ho:∀w2:World,w2.heap=w.heap→(Builtin.firstCells i.size n (.slice b n c)).run P w2= .ok olds'.toArray w2) (hol:olds'.length=n*i.size) (hov:VL s olds olds')
  (hg:c<n+k) (hby:(n+k+1)*(i.bytes+1)<1000000000):
  VOK P C w0 s lab w (Builtin.append_ #[t1,t2] ty #[.slice b n c,.slice b2 k c2]) (.slice (some ⟨lab,0,none⟩) (n+k) FULL) (H.add lab (.cells (olds++news) e i.size)):=by
 have hsm:n+k+1≤(n+k+1)*(i.bytes+1):=Nat.le_mul_of_pos_right _ (by omega)
 have hb1:(n+k)*i.bytes≤(n+k+1)*(i.bytes+1):=Nat.mul_le_mul (by omega) (by omega)
 have hge:=grownCap_ge w (n+k) c e
 have hmx:grownCap w (n+k) c e≤maxLen:=grownCap_le_maxLen w (n+k) c e (by simp only[maxLen];omega)
 have hrun:=run_app_grow (P:=P) (w:=w) (ty:=ty) u1 u2 hi hz hf ho hg (by omega) (by rw[Nat.mul_assoc];omega)
 have hsz:(olds'++news').length+(Builtin.zeroCells z.cells (grownCap w (n+k) c e-(n+k))).size=grownCap w (n+k) c e*i.size:=by
  rw[zc_size,hzs,List.length_append,hol,hnl,←Nat.add_mul,←Nat.add_mul]
  congr 1;omega
 have hrel:=r.grow hll hn (e:=e) (hov.append hnv) hsz h0 w.drew rfl
 refine⟨s.put lab ⟨w.heap.size,grownCap w (n+k) c e*i.size,i.size⟩,_,_,hrun,VR.full lab 0 (n+k) _ ⟨w.heap.size,grownCap w (n+k) c e*i.size,i.size⟩ (Sg.put_same _ _ _) hge (fun _=>⟨rfl,hmx⟩),?_,Sg.le_put hn,fun L hL=>Sg.put_far hL⟩
 have he:olds'.toArray++news'.toArray++Builtin.zeroCells z.cells (grownCap w (n+k) c e-(n+k))=(olds'++news').toArray++Builtin.zeroCells z.cells (grownCap w (n+k) c e-(n+k)):=by
  apply Array.ext';simp
 rw[he]
 exact hrel
theorem appendA_ok (hT:TOk P T) (r:Rel C w0 s H w) {lab t1 t2 ty:Nat} (hn:s lab=none) {sv x sv' x':Value} (hs:VR s sv sv') (hx:VR s x x') {a:AR} (h:appendA T H lab t1 t2 sv x=some a):
  ∃v H',a= .val v H'∧VOK P C w0 s lab w (Builtin.append_ #[t1,t2] ty #[sv',x']) v H':=by
 unfold appendA at h
 split at h
 ·rename_i e te h1 h2
  obtain⟨u1,hte⟩:=slcI_ok hT h1
  have u2:=sliceOrStr_ok hT h2
  obtain⟨i,z,i1,i2,i3,i4,i5,i6⟩:=hT.info hte
  split at h
  ·rename_i b n c k hk
   obtain⟨b2,c2,rfl⟩:=lenA_ok hx hk
   split at h
   ·cases h
   ·rename_i news hnews
    split at h
    ·cases h
    ·rename_i hb
     simp only[Bool.and_eq_true,Nat.beq_eq]at hb
     obtain⟨⟨⟨⟨q1,q2⟩,q3⟩,q4⟩,q5⟩:=hb
     have q1':0<i.size:=by rw[i2];simpa using q1
     have q4':(n+k+1)*(i.bytes+1)<1000000000:=by rw[i3];simpa using q4
     have hzs:z.cells.size=i.size:=by rw[i2,←q2,←i5];simp
     obtain⟨news',n1,n2,n3⟩:=firstA_ok (P:=P) (m:=k) (size:=i.size) r hx (by rw[i2]) hnews
     have n2':news'.length=k*i.size:=by rw[n2,i2]
     split at h
     ·
       cases hs
       simp only at h
       split at h
       ·cases h
        refine⟨_,_,rfl,VOK.same ?_ .nils r⟩
        exact run_app_nil0 u1 u2 i1 n3
       ·rename_i hk0
        cases h
        refine⟨_,_,rfl,?_⟩
        have:=app_grow (P:=P) (ty:=ty) r q5 hn u1 u2 i1 i4 hzs q1' (n:=0) (c:=0) (b:=none) n3 n2' n1 (olds:=[]) (olds':=[]) (fun w2 _=>by simp[Builtin.firstCells]) (by simp) VL.nil (by
         rcases Nat.eq_zero_or_pos k with e0|e0
         ·exact absurd e0 (by intro e;exact hk0 (by simpa using e))
         ·omega) q4'
        rw[←i2]
        simpa using this
     · rename_i L off
       unfold appendB at h
       split at h
       ·rename_i cur e' es hH
        split at h
        ·cases h
        ·rename_i hb2
         rw[lenL_eq]at hb2
         simp only[Bool.and_eq_true,Nat.beq_eq,Nat.ble_eq]at hb2
         obtain⟨⟨rfl,p2⟩,p3⟩:=hb2
         obtain⟨j,c',hj,rfl,hcc⟩:=asSlc_rel (p:=⟨L,off,n,c⟩) rfl hs
         simp only at hj hcc
         obtain⟨cur',rest,r1,r2,r3,r4,r5⟩:=r.row hj hH
         have hcl:cur'.length=cur.length:=r3.1.symm
         split at h
         ·rename_i hf
          have hf':c=FULL:=by simpa using hf
          subst hf'
          rcases hcc with⟨hcc,_⟩|⟨_,hcn,hc0⟩
          ·exact absurd hcc (Nat.lt_irrefl _)
          split at h
          ·rename_i hes
           have hes':es=te.size:=by simpa using hes
           split at h
           ·cases h
            refine⟨_,_,rfl,VOK.same (w':=w) (run_app_room u1 u2 i1 n3 hcn ?_) ?_ r⟩
            ·have:news'=[]:=List.eq_nil_of_length_eq_zero (by rw[n2'];simp)
             rw[this];rfl
            ·exact .full L off n c' j hj hcn hc0
           ·unfold growA at h
            split at h
            ·rename_i hb3
             rw[lenL_eq]at hb3
             simp only[Bool.and_eq_true,Nat.beq_eq]at hb3
             obtain⟨rfl,hfull⟩:=hb3
             cases h
             obtain⟨hc1,hc2⟩:=hc0 rfl
             rw[appL_eq]
             refine⟨_,_,rfl,?_⟩
             have hes2:es=i.size:=by rw[hes',i2]
             by_cases hroom:n+k≤c'
             ·
               have hlen2:cur'.length=n*i.size:=by rw[hcl,←hfull,hes2]
               have hrl:k*i.size≤rest.length:=by
                have h9:cur'.length+rest.length=c'*i.size:=by rw[r2,←hc1,←r4,hes2]
                have h10:(n+k)*i.size≤c'*i.size:=Nat.mul_le_mul_right _ hroom
                rw[Nat.add_mul]at h10
                omega
               have hone:∀v∈news',v.oneCell'=true:=by
                intro v hvm
                obtain⟨q,hq⟩:=List.getElem?_of_mem hvm
                obtain⟨y,hy,hyr⟩:=n1.get' hq
                exact scal_one (List.all_eq_true.1 q3 y (List.mem_of_getElem? hy)) hyr
               have hst:=run_storeCells_at P j.bl (0+n*i.size) e news' 0 ⟨cur'++rest⟩ w r1 (by simp;omega) hone
               have hnew:((⟨cur'++rest⟩:Array Value).toList.take (0+n*i.size+0)++news'++(⟨cur'++rest⟩:Array Value).toList.drop (0+n*i.size+0+news'.length)).toArray=⟨(cur'++news')++rest.drop news'.length⟩:=by
                apply Array.ext'
                simp only[Nat.zero_add,Nat.add_zero,←hlen2]
                simp[List.drop_append]
               rw[hnew]at hst
               have hrun:=run_app_room (ty:=ty) u1 u2 i1 n3 hroom hst
               refine⟨s.put lab j,_,_,hrun,.full lab 0 _ _ _ (Sg.put_same _ _ _) hroom (fun _=>⟨hc1,hc2⟩),?_,Sg.le_put hn,fun M hM=>Sg.put_far hM⟩
               refine r.move hj p3 q5 hn hH _ (keep_setRow r.keep _ _ (r.live L j _ hj hH).1) (fun q hq=>setRow_other w _ q _ hq) ?_
               refine⟨r4,by omega,cur'++news',rest.drop news'.length,setRow_heap w j.bl _ _ e _ r1,?_,(r3.mono (Sg.le_put hn)).append (n1.mono (Sg.le_put hn))⟩
               simp only[List.length_append,List.length_drop]
               omega
             ·
               have hol:cur'.length=n*i.size:=by rw[hcl,←hfull,hes2]
               have hgr:=app_grow (P:=P) (ty:=ty) (H:=H.del L) (r.sub fun M b hM _=>by
                rw[Hp.at_del p3]at hM
                split at hM
                ·cases hM
                ·exact hM) q5 hn u1 u2 i1 i4 hzs q1' (n:=n) (c:=c') (b:=some ⟨j.bl,0,none⟩) n3 n2' n1 (olds:=cur) (olds':=cur') (fun w2 hw=>run_firstCells_some (P:=P) w2 i.size n ⟨j.bl,0,none⟩ n c' cur' hol (fun q u hu=>by
                 rw[Addr.add_mid,Nat.zero_add]
                 exact row_cell (by rw[hw];exact r1) hu)) hol r3 (by omega) q4'
               rw[hes2]
               exact hgr
            ·cases h
          ·cases h
         ·split at h
          ·cases h
          ·rename_i hcf
           have hcf':c<FULL:=by simpa using hcf
           rcases hcc with⟨_,rfl⟩|⟨hcc,_⟩
           ·split at h
            ·rename_i hroom
             have hroom':n+k≤c':=by simpa using hroom
             split at h
             · rename_i H' hst
               cases h
               obtain⟨w',s1,s2⟩:=storeA_ok (P:=P) r hj n1 hst
               refine⟨_,_,rfl,VOK.same (run_app_room u1 u2 i1 n3 hroom' (by rw[i2];exact s1)) (.slc L off _ _ j hj hcf') s2⟩
             · cases h
            ·rename_i hroom
             have hroom':¬n+k≤c':=by
               intro h9
               have:Nat.ble (n+k) c'=true:=by simpa using h9
               rw[this]at hroom;cases hroom
             cases h
             rw[appL_eq,takeL_eq,dropL_eq]
             refine⟨_,_,rfl,?_⟩
             have hvl:=(r3.drop off).take (n*te.size)
             have hol:((cur'.drop off).take (n*te.size)).length=n*i.size:=by
               rw[i2];simp;omega
             have hgr:=app_grow (P:=P) (ty:=ty) r q5 hn u1 u2 i1 i4 hzs q1' (n:=n) (c:=c') (b:=some ⟨j.bl,off,none⟩) n3 n2' n1 (fun w2 hw=>run_firstCells_some (P:=P) w2 i.size n ⟨j.bl,off,none⟩ n c' _ hol (fun q u hu=>by
               rw[Addr.add_mid]
               refine row_cell (by rw[hw];exact r1) ?_
               rw[List.getElem?_take]at hu
               split at hu
               ·simpa using hu
               ·cases hu)) hol hvl (by omega) q4'
             rw[←i2]at hgr⊢
             exact hgr
           ·omega
       ·cases h
     · cases h
  ·cases h
 ·cases h
end
end
section
open Go.RowKit
section
variable {P:Program} {T:TyT} {s:Sg} {ρ ρ':Operand→Value} {o:Oper} {C:Foot} {w0 w:World} {H:Hp}
def AOK (P:Program) (C:Foot) (w0:World) (s:Sg) (_H:Hp) (lab:Nat) (w:World) (x:Sem Next):AR→Prop
 | .val v H'=>∃s' v' w',x.run P w= .ok (.value v') w'∧VR s' v v'∧Rel C w0 s' H' w'∧Sg.le s s'∧∀L,L≠lab→s' L=s L
 | .skip H'=>∃w',x.run P w= .ok .skip w'∧Rel C w0 s H' w'
 | .call f args=>∃args':Array Value,x=callFunc f args'∧VL s args args'.toList
theorem AOK.ofV {lab:Nat} {x:Sem Value} {v:Value} {H':Hp} (h:VOK P C w0 s lab w x v H'):AOK P C w0 s H lab w (do pure (Next.value (←x))) (.val v H'):=by
 obtain⟨s',v',w',h1,h2,h3,h4,h5⟩:=h
 exact⟨s',v',w',by rw[Sem.run_bind,h1];rfl,h2,h3,h4,h5⟩
theorem map_turn (r:Rel C w0 s H w) {L:Nat} {i:Info} (hs:s L=some i) (hl:labOk L=true) {b0:EBlk} (h0:H.at L=some b0) {m:List (Value×Value×Nat)} {clk:Nat} {es:Array MapEntry} {ob:Obj} (hob:w.heap[i.bl]? =some ob)
  (hb:es.size=m.length∧∀(k:Nat) kv e,m[k]? =some kv→es[k]? =some e→e.key=kv.1∧closedV kv.1=true∧e.born=kv.2.2∧VR s kv.2.1 e.val):
  Rel C w0 s (H.add L (.map m clk)) {w with heap:=w.heap.setIfInBounds i.bl (.map es clk)}:=by
 have hlt:i.bl<w.heap.size:=(Array.getElem?_eq_some_iff.1 hob).1
 refine r.turn hs hl h0 _ ⟨r.keep.os,r.keep.tape,r.keep.output,by simpa using r.keep.size,fun x hx hn=> ?_⟩ (fun k hk=> ?_) ⟨es,?_,hb.1,hb.2⟩
 ·have hne:i.bl≠x:=by rintro rfl;exact hn ((r.live L i b0 hs h0).1 hx)
  show(w.heap.setIfInBounds i.bl (.map es clk))[x]? =_
  rw[Array.getElem?_setIfInBounds_ne hne]
  exact r.keep.block x hx hn
 ·show(w.heap.setIfInBounds i.bl (.map es clk))[k]? =_
  rw[Array.getElem?_setIfInBounds_ne (fun e=>hk e.symm)]
 ·show(w.heap.setIfInBounds i.bl (.map es clk))[i.bl]? =_
  simp[hlt]
theorem run_setMap {b:Nat} {es es':Array MapEntry} {clk clk':Nat} (h:w.heap[b]? =some (.map es clk)):(setObj b (.map es' clk')).run P w= .ok () {w with heap:=w.heap.setIfInBounds b (.map es' clk')}:=by
 simp[setObj,Sem.run,h]
theorem oMapUpdate_ok (hT:TOk P T) (r:Rel C w0 s H w) {t:Nat} {m k x m' k' x':Value} (hm:VR s m m') (hk:VR s k k') (hx:VR s x x') {a:AR} (h:oMapUpdate P T H t m k x=some a):
  ∃H' w',a= .skip H'∧(Instr.mapUpdate t m' k' x').run P w= .ok () w'∧Rel C w0 s H' w':=by
 unfold oMapUpdate at h
 split at h
 ·rename_i kt kd e z L h1
  obtain⟨u1,u2,_,_⟩:=mapI_ok hT h1
  split at h
  ·rename_i l clk u hH hc hq
   simp only[Bool.and_eq_true]at hc
   have hkk:=VR.eqV hc.1 hk
   subst hkk
   cases hm with
   |map _ i hi=>
    obtain⟨es,e1,e2,e3,e4⟩:=map_row r hi hH
    have hck:=qv_run hq w
    have hg:(getObj i.bl).run P w= .ok (.map es clk) w:=by simp[getObj,Sem.run,e1]
    split at h
    ·rename_i q1
     cases h
     obtain⟨q,hq2,hkr⟩:=keyAt_ok u2 w e3 q1
     cases q with
     |some _=>exact hkr.elim
     |none=>
      refine⟨_,_,rfl,?_,map_turn r hi hc.2 hH e1 (m:=l++ [(k',x,clk)]) (clk:=clk+1) (es:=es.push {key:=k',val:=x',born:=clk}) ⟨by simp[e2],?_⟩⟩
      ·unfold Instr.mapUpdate
       simp only[Sem.run_bind,run_underlying u1,Result.andThen_ok,hg,hck,hq2]
       exact run_setMap e1
      ·intro j kv en hj hj2
       by_cases hjl:j<l.length
       ·rw[List.getElem?_append_left hjl]at hj
        rw[Array.getElem?_push,if_neg (by omega)]at hj2
        exact e4 j kv en hj hj2
       ·rw[List.getElem?_append_right (by omega)]at hj
        have hj0:j=l.length:=by
         have:=(List.getElem?_eq_some_iff.1 hj).1
         simp at this;omega
        subst hj0
        simp at hj
        rw[Array.getElem?_push,if_pos e2.symm]at hj2
        cases hj2;cases hj
        exact⟨rfl,hc.1,rfl,hx⟩
    ·rename_i j en q1
     split at h
     ·rename_i hsb
      cases h
      obtain⟨q,hq2,hkr⟩:=keyAt_ok u2 w e3 q1
      cases q with
      |none=>exact hkr.elim
      |some q=>
       obtain⟨j',val⟩:=q
       obtain⟨rfl,_,g2,y,g3,rfl⟩:=hkr
       simp only[Nat.sub_zero]at g2 g3
       have g3':es[j']? =some y:=by simpa using g3
       obtain⟨f1,f2,f3,f4⟩:=e4 j' en y g2 g3'
       refine⟨_,_,rfl,?_,map_turn r hi hc.2 hH e1 (m:=l.set j' (k',x,en.2.2)) (clk:=clk) (es:=es.modify j' fun e=> {e with key:=k',val:=x'}) ⟨by simp[e2],?_⟩⟩
       ·unfold Instr.mapUpdate
        have hks:(Instr.keyThatStays (((es[j']?).map (·.key)).getD k') k').run P w= .ok k' w:=by
         rw[g3']
         simp only[Option.map_some,Option.getD_some,f1]
         unfold Instr.keyThatStays
         rw[if_pos hsb]
         rfl
        simp only[Sem.run_bind,run_underlying u1,Result.andThen_ok,hg,hck,hq2,hks]
        exact run_setMap e1
       ·intro jj kv en2 hj hj2
        rw[List.getElem?_set]at hj
        rw[Array.getElem?_modify]at hj2
        split at hj
        ·rename_i e9
         subst e9
         split at hj
         ·cases hj
          rw[if_pos rfl,g3']at hj2
          cases hj2
          exact⟨rfl,hc.1,f3,hx⟩
         ·cases hj
        ·rename_i e9
         rw[if_neg e9]at hj2
         exact e4 jj kv en2 hj hj2
     ·cases h
    ·cases h
  ·cases h
 ·cases h
theorem oCopy_ok (hT:TOk P T) (r:Rel C w0 s H w) {lab ty:Nat} {ts:Array Nat} {l:List Value} {args:Array Value} (hv:VL s l args.toList) {a:AR} (h:oCopy T H ts.toList l=some a):
  ∃v H',a= .val v H'∧VOK P C w0 s lab w (Builtin.copy_ ts ty args) v H':=by
 unfold oCopy at h
 split at h
 ·rename_i t1 t2 b n c x e1
  obtain⟨y',x',rfl,hy,hx⟩:=arr2 hv rfl
  have hts:ts= #[t1,t2]:=by apply Array.ext';simpa using e1
  subst hts
  split at h
  ·rename_i e te m hs hm
   obtain⟨u1,u2⟩:=slcI_ok hT hs
   obtain⟨b2,c2,rfl⟩:=lenA_ok hx hm
   obtain⟨i,z,i1,i2,i3,i4,i5,i6⟩:=hT.info u2
   split at h
   ·rename_i vs hvs
    obtain⟨vs',n1,n2,n3⟩:=firstA_ok (P:=P) (m:=Nat.min m n) (size:=i.size) r hx (by rw[i2]) hvs
    have n3':=n3 w rfl
    split at h
    ·split at h
     ·rename_i h0
      cases h
      cases hy
      refine⟨_,_,rfl,VOK.same (w':=w) (v':= .int .i64 0) ?_ (.int _ _) r⟩
      have hmin:Nat.min m 0=0:=Nat.min_zero m
      rw[hmin]at n3'
      simp[Builtin.copy_,run_underlying u1,Builtin.lenOf,sizeOf,typeInfo,i1,n3',goInt]
     ·cases h
    ·rename_i L off
     obtain⟨j,c',hj,rfl,_⟩:=asSlc_rel (p:=⟨L,off,n,c⟩) rfl hy
     split at h
     ·rename_i H' hst
      cases h
      obtain⟨w',s1,s2⟩:=storeA_ok (P:=P) r hj n1 hst
      refine⟨_,_,rfl,VOK.same (w':=w') (v':= .int .i64 ((Nat.min m n:Nat):Int)) ?_ (by rw[natV_eq];exact .int _ _) s2⟩
      simp[Builtin.copy_,run_underlying u1,Builtin.lenOf,sizeOf,typeInfo,i1,n3',s1,goInt]
     ·cases h
    ·cases h
   ·cases h
  ·cases h
 ·cases h
theorem oClear_ok (hT:TOk P T) (r:Rel C w0 s H w) {lab ty:Nat} {ts:Array Nat} {l:List Value} {args:Array Value} (hv:VL s l args.toList) {a:AR} (h:oClear T H ts.toList l=some a):
  ∃v H',a= .val v H'∧VOK P C w0 s lab w (Builtin.clear_ ts ty args) v H':=by
 unfold oClear at h
 split at h
 ·rename_i t1 b n c e1
  obtain⟨y',rfl,hy⟩:=arr1 hv rfl
  have hts:ts= #[t1]:=by apply Array.ext';simpa using e1
  subst hts
  have hundef:VR s undef (.tuple #[]):= .tuple _ _ rfl (by simp)
  split at h
  ·rename_i e te hs
   obtain⟨u1,u2,u3,u4,u5⟩:=zelI_ok hT hs
   obtain⟨i,z,i1,i2,i3,i4,i5,i6⟩:=hT.info u2
   split at h
   ·split at h
    ·cases h
     cases hy
     refine⟨_,_,rfl,VOK.same (w':=w) ?_ hundef r⟩
     simp[Builtin.clear_,run_underlying u1]
    ·cases h
   ·rename_i L off
    obtain⟨j,c',hj,rfl,_⟩:=asSlc_rel (p:=⟨L,off,n,c⟩) rfl hy
    split at h
    ·rename_i H' hst
     cases h
     have hz:(Builtin.zeroCells z.cells n).toList=zerosL te.zero (n*te.size):=by
      unfold Builtin.zeroCells
      have hzs:z.cells.size=te.size:=by rw[←u4,←i5];simp
      rw[zeros_eq _ _ (.inr (by omega)),i5,hzs]
     obtain⟨w',s1,s2⟩:=storeA_ok (P:=P) r hj (zerosL_closed u3 (n*te.size)) hst
     refine⟨_,_,rfl,VOK.same (w':=w') (v':= .tuple #[]) ?_ hundef s2⟩
     have hz1:(zeroValue e).run P w= .ok z w:=by simp[zeroValue,typeInfo,i1,i4]
     cases n with
     |zero=>
      simp only[Nat.zero_mul]at s1
      have:zerosL te.zero 0=[]:=rfl
      rw[this]at s1
      simp[storeCells]at s1
      simp[Builtin.clear_,run_underlying u1,s1]
     |succ n=>
      simp[Builtin.clear_,run_underlying u1,hz1,hz,s1]
    ·cases h
   ·cases h
  ·cases h
 ·cases h
theorem aop3_ok (hT:TOk P T) (r:Rel C w0 s H w) (hρ:∀x∈o.op.operands,VR s (ρ x) (ρ' x)) {lab:Nat} (hn:s lab=none) {a:AR} (h:aop3 P T H lab ρ o=some a):AOK P C w0 s H lab w (execOp ρ' o) a:=by
 unfold aop3 at h
 cases ho:o.op<;>rw[ho]at h<;>(try simp only at h)<;>first|(cases h;done)|skip
 case store t x y=>
  have hx:=hρ x (by rw[ho];simp[Op.operands])
  have hy:=hρ y (by rw[ho];simp[Op.operands])
  unfold oStore at h
  split at h
  ·rename_i p hp
   obtain⟨i,hi,hx'⟩:=asPtr_rel hp hx
   split at h
   ·rename_i ti hti
    split at h
    ·rename_i hl
     rw[lenL_eq]at hl
     have hl':(ρ y).cells.toList.length=ti.size:=by simpa using hl
     split at h
     ·rename_i H' hst
      cases h
      obtain⟨w',s1,s2⟩:=storeA_ok (P:=P) r hi hy.cells hst
      refine⟨w',?_,s2⟩
      have hsz:(ρ' y).cells.size=ti.size:=by rw[←hl',hy.cells.1];simp
      unfold execOp
      rw[ho]
      simp[hx',Instr.storeAt,Instr.sureAddr,storeVar,hT.rsize hti,hsz,s1]
     ·cases h
    ·cases h
   ·cases h
  ·cases h
 case mapUpdate t m k x=>
  obtain⟨H',w',rfl,q1,q2⟩:=oMapUpdate_ok hT r (hρ m (by rw[ho];simp[Op.operands])) (hρ k (by rw[ho];simp[Op.operands])) (hρ x (by rw[ho];simp[Op.operands])) h
  refine⟨w',?_,q2⟩
  unfold execOp
  rw[ho]
  simp[q1]
 case insert t m k x=>
  obtain⟨H',w',rfl,q1,q2⟩:=oMapUpdate_ok hT r (hρ m (by rw[ho];simp[Op.operands])) (hρ k (by rw[ho];simp[Op.operands])) (hρ x (by rw[ho];simp[Op.operands])) h
  refine⟨w',?_,q2⟩
  unfold execOp
  rw[ho]
  simp[q1]
 case call c=>
  unfold oCall at h
  split at h
  ·rename_i f hc
   unfold oCallV at h
   split at h
   ·rename_i g a' b' e
    cases h
    have hf:=hρ f (by rw[ho];simp[Op.operands,Call.operands,hc])
    rw[e]at hf
    have hargs:=vlmap (s:=s) (ρ:=ρ) (ρ':=ρ') (l:=c.args.toList) (fun x hx=>hρ x (by rw[ho];simp[Op.operands,Call.operands,hc];exact .inr (by simpa using hx)))
    generalize hfv:ρ' f=fv at hf
    cases hf with
    |fn _ _ a2 _ b2 ha hb h1 h2=>
     refine⟨a2++c.args.map ρ'++b2,?_,?_⟩
     ·unfold execOp
      rw[ho]
      simp only[resolve,hc,hfv,Deferred.ofValue]
      rfl
     ·rw[appL_eq,appL_eq]
      have:=(VL.ofArr ha h1).append (hargs.append (VL.ofArr hb h2))
      simpa[List.append_assoc]using this
   ·cases h
  ·rename_i hc
   obtain⟨cs,hb⟩:=builtin_run (o:=o) (ρ':=ρ') ho hc
   have ha:=args_rel ho hc hρ
   unfold oAppend at h
   split at h
   ·rename_i t1 t2 sv x e1 e2
    obtain⟨sv',x',q1,q2,q3⟩:=arr2 ha e2
    obtain⟨v,H',rfl,q⟩:=appendA_ok (P:=P) (ty:=o.type) hT r hn q2 q3 h
    have hts:c.argTypes= #[t1,t2]:=by apply Array.ext';simpa using e1
    have:=AOK.ofV (H:=H) q
    rw[hb,q1,hts]
    exact this
   ·cases h
  ·rename_i hc
   obtain⟨cs,hb⟩:=builtin_run (o:=o) (ρ':=ρ') ho hc
   obtain⟨v,H',rfl,q⟩:=oClear_ok (P:=P) (lab:=lab) (ty:=o.type) hT r (args_rel ho hc hρ) h
   have:=AOK.ofV (H:=H) q
   rw[hb]
   exact this
  ·rename_i hc
   obtain⟨cs,hb⟩:=builtin_run (o:=o) (ρ':=ρ') ho hc
   obtain⟨v,H',rfl,q⟩:=oCopy_ok (P:=P) (lab:=lab) (ty:=o.type) hT r (args_rel ho hc hρ) h
   have:=AOK.ofV (H:=H) q
   rw[hb]
   exact this
  ·cases h
theorem MK.rel {m:MK} {L:Nat} {i:Info} {s':Sg} (h:s' L=some i) (hc:∀n c,m= .s n c→c<FULL):VR s' (m.at L) (m.at i.bl):=by
 cases m with
 |p=>exact .ptr L 0 i h
 |s n c=>exact .slc L 0 n c i h (hc n c rfl)
 |mp=>exact .map L i h
theorem new_ok (r:Rel C w0 s H w) {lab:Nat} (hn:s lab=none) (hl:labOk lab=true) {b:EBlk} {m:MK} {ob:Obj} {sz es:Nat} (h2:∀(s':Sg) (i:Info) (w':World),Sg.le s s'→w'.heap[i.bl]? =some ob→i.sz=sz→i.es=es→BR s' i w' b)
  (h3:∀n c,m= .s n c→c<FULL):VR (s.put lab ⟨w.heap.size,sz,es⟩) (m.at lab) (m.at w.heap.size)∧Rel C w0 (s.put lab ⟨w.heap.size,sz,es⟩) (H.add lab b) (w.alloc ob):=
 ⟨MK.rel (Sg.put_same _ _ _) h3,r.new hn hl b ob sz es (h2 _ _ _ (Sg.le_put hn) (heap_alloc_new w ob) rfl rfl)⟩
theorem aop_ok (hT:TOk P T) (r:Rel C w0 s H w) (hρ:∀x∈o.op.operands,VR s (ρ x) (ρ' x)) {lab:Nat} (hn:s lab=none) {a:AR} (h:aop P T H lab ρ o=some a):AOK P C w0 s H lab w (execOp ρ' o) a:=by
 unfold aop at h
 split at h
 ·unfold oneO at h
  split at h
  ·rename_i v hv
   cases h
   obtain⟨v',q1,q2⟩:=aop0_ok hT hρ hv
   exact⟨s,v',w,q1 w,q2,r,Sg.le_refl s,fun _ _=>rfl⟩
  ·cases h
 ·unfold oneO at h
  split at h
  ·rename_i v hv
   cases h
   obtain⟨v',q1,q2⟩:=aop1_ok hT r hρ hv
   exact⟨s,v',w,q1,q2,r,Sg.le_refl s,fun _ _=>rfl⟩
  ·cases h
 ·unfold aopNew at h
  split at h
  ·rename_i b m hb hl
   cases h
   obtain⟨ob,sz,es,q1,q2,q3⟩:=aop2_ok hT hρ hb
   obtain⟨g1,g2⟩:=new_ok r hn hl q2 q3
   exact⟨_,_,_,q1 w,g1,g2,Sg.le_put hn,fun L hL=>Sg.put_far hL⟩
  ·cases h
 ·exact aop3_ok hT r hρ hn h
end
end
section
open Go.RowKit
def codeTop:Code→Nat
 | .region _ ops _=>topDst ops.toList
 | .seq a b=>Nat.max (codeTop a) (codeTop b)
 | .cond _ a b=>Nat.max (codeTop a) (codeTop b)
 | .block _ b=>codeTop b
 | .loop b=>codeTop b
 |_=>0
structure SR (C:Foot) (w0:World) (N:Nat) (s:Sg) (T:List Value) (H:Hp) (n:Nat) (a:Act) (w:World):Prop where
 rel:Rel C w0 s H w
 tmp:VL s T a.tmps.toList
 len:T.length=N
 dfr:a.defers=[]
 lab:∀L,n≤L→s L=none
structure Up (s s':Sg) (n n':Nat):Prop where
 le:Sg.le s s'
 low:∀L,L<n→s' L=s L
 n:n≤n'
theorem Up.refl (s:Sg) (n:Nat):Up s s n n:=⟨Sg.le_refl s,fun _ _=>rfl,Nat.le_refl n⟩
theorem Up.trans {a b c:Sg} {n m k:Nat} (h:Up a b n m) (g:Up b c m k):Up a c n k:=
 ⟨Sg.le_trans h.le g.le,fun L hL=>(g.low L (by have:=h.n;omega)).trans (h.low L hL),Nat.le_trans h.n g.n⟩
def CallOk (E:Env) (C:Foot) (w0:World) (s:Sg) (n:Nat) (f:Nat) (args':Array Value) (w:World) (v:Value) (H':Hp) (n':Nat):Prop:=
 (∃fi,E.F f=some fi)∧Calls E.P f args' w fun e w'=>∃s' v',e= .returned v'∧VR s' v v'∧Rel C w0 s' H' w'∧Up s s' n n'∧∀L,n'≤L→s' L=none
structure EOk (E:Env) (C:Foot) (w0:World):Prop where
 T:TOk E.P E.T
 mixed:E.P.follows .mixedOrders=true
 F:∀f fi,E.F f=some fi→∃fn,E.P.funcs[f]? =some fn∧fn.ntmps=fi.nt∧fn.results.toList=fi.res∧fn.body=some fi.body∧(fn.name== "runtime.NumGoroutine")=false∧codeTop fi.body≤fi.nt
 hook:∀f args H n v H' n',E.hook f args H n=some (v,H',n')→∀(s:Sg) (args':Array Value) (w:World),Rel C w0 s H w→VL s args args'.toList→(∀L,n≤L→s L=none)→CallOk E C w0 s n f args' w v H' n'
theorem run_callFunc {P:Program} {f:Nat} {fn:Func} {args:Array Value} {c:Code} (hf:P.funcs[f]? =some fn) (hb:fn.body=some c) (hn:(fn.name== "runtime.NumGoroutine")=false) (w:World):(callFunc f args).run P w= .ok (.enter f args) w:=by
 simp[callFunc,hf,hb]
 intro h
 simp[h]at hn
section
variable {E:Env} {C:Foot} {w0:World}
theorem want_ok {s:Sg} {T:List Value} {a:Act} (hv:VL s T a.tmps.toList) (ops:Array Oper) (o:Oper):Region.wanted o (yielded ops a.tmps)=wantR ops.toList (evT T) o:=by
 unfold Region.wanted wantR
 cases hg:o.guard with
 |none=>rfl
 |some g=>
  obtain⟨j,want⟩:=g
  simp only
  rw[nthO_eq]
  unfold yielded
  cases hj:ops[j]? with
  |none=>
   have:ops.toList[j]? =none:=by simpa using hj
   rw[this];simp
  |some q=>
   have:ops.toList[j]? =some q:=by simpa using hj
   rw[this]
   simp only[Option.bind_some]
   cases hd:q.dst with
   |none=>simp
   |some t=>
    simp only[Option.bind_some,evT]
    have hr:=hv.nthV t
    cases ht:a.tmps[t]? with
    |none=>
     have:a.tmps.toList.getD t undef=undef:=by
      have h9:a.tmps.toList[t]? =none:=by simpa using ht
      rw[List.getD_eq_getElem?_getD,h9];rfl
     rw[this]at hr
     generalize hx:nthV T t=x at hr
     cases x<;>first|(cases hr;done)|simp
    |some y=>
     have:a.tmps.toList.getD t undef=y:=by
      have h9:a.tmps.toList[t]? =some y:=by simpa using ht
      rw[List.getD_eq_getElem?_getD,h9];rfl
     rw[this]at hr
     generalize hx:nthV T t=x at hr
     cases hr<;>simp only<;>first|(rename_i b;cases b<;>cases want<;>rfl)|simp
theorem put_ok {s:Sg} {T:List Value} {a:Act} (hv:VL s T a.tmps.toList) {v v':Value} (hr:VR s v v') (d:Option Nat):VL s (putL T d v) (a.put d v').tmps.toList:=by
 cases d with
 |none=>exact hv
 |some d=>
  unfold putL Act.put
  simp only[setL_eq]
  have:=hv.set hr d
  simpa using this
theorem putL_len (T:List Value) (d:Option Nat) (v:Value):(putL T d v).length=T.length:=by
 cases d with
 |none=>rfl
 |some d=>unfold putL;simp[setL_eq]
theorem put_dfr (a:Act) (d:Option Nat) (v:Value):(a.put d v).defers=a.defers:=by cases d<;>rfl
theorem operands_ok {s:Sg} {T:List Value} {a:Act} (hv:VL s T a.tmps.toList) {o:Oper} (h:o.op.operands.toList.all operOk=true):∀x∈o.op.operands,VR s (evT T x) (a.eval x):=by
 intro x hx
 have:=List.all_eq_true.1 h x (by simpa using hx)
 cases x with
 |tmp t=>
  have:=hv.nthV t
  simpa[evT,Act.eval,Array.getD_eq_getD_getElem?,List.getD_eq_getElem?_getD]using this
 |const v=>exact VR.closedV this
 |global g=>simp[operOk]at this
 |func f=>exact .fn _ _ _ _ _ rfl rfl (by simp) (by simp)
theorem evAR_wp (hE:EOk E C w0) {rec:Rec} (hcall:∀f args H n v H' n',evCall E rec f args H n= .ok v H' n'→∀s (args':Array Value) w,Rel C w0 s H w→VL s args args'.toList→(∀L,n≤L→s L=none)→CallOk E C w0 s n f args' w v H' n')
  {s:Sg} {H:Hp} {lab n:Nat} {a:Act} {w:World} {o:Oper} (r:Rel C w0 s H w) (hl:∀L,n≤L→s L=none) {x:Option AR} (ha:∀y,x=some y→AOK E.P C w0 s H lab w (execOp a.eval o) y) {v:Value} {H':Hp} {n':Nat} (h:evAR E rec H n x= .ok v H' n')
  {K:Act→World→Prop} {Q:Exit→Act→World→Prop} (hK:∀s' v' w',VR s' v v'→Rel C w0 s' H' w'→Sg.le s s'→(∀L,L≠lab→L<n→s' L=s L)→(∀L,n'≤L→L≠lab→s' L=none)→n≤n'→K (a.put o.dst v') w'):o.wp E.P a w K Q:=by
 unfold evAR at h
 split at h
 ·rename_i u Hu
  cases h
  obtain⟨s',v',w',h1,h2,h3,h4,h5⟩:=ha _ rfl
  unfold Oper.wp
  rw[h1]
  exact hK s' v' w' h2 h3 h4 (fun L hL _=>h5 L hL) (fun L hL hne=>by rw[h5 L hne];exact hl L hL) (Nat.le_refl _)
 ·cases h
  obtain⟨w',h1,h3⟩:=ha _ rfl
  unfold Oper.wp
  rw[h1]
  exact hK s undef w' (.tuple _ _ rfl (by simp)) h3 (Sg.le_refl s) (fun _ _ _=>rfl) (fun L hL _=>hl L hL) (Nat.le_refl _)
 ·rename_i f args
  obtain⟨args',h1,h2⟩:=ha _ rfl
  obtain⟨⟨fi,hfi⟩,hc⟩:=hcall f args H n v H' n' h s args' w r h2 hl
  obtain⟨fn,f1,f2,f3,f4,f5,_⟩:=hE.F f fi hfi
  unfold Oper.wp
  rw[h1,run_callFunc f1 f4 f5]
  refine hc.mono ?_
  rintro e w' ⟨s',v',rfl,g1,g2,g3,g4⟩
  exact hK s' v' w' g1 g2 g3.le (fun L _ hL=>g3.low L hL) (fun L hL _=>g4 L hL) g3.n
 ·cases h
theorem evSeq_ok (hE:EOk E C w0) {rec:Rec} (hcall:∀f args H n v H' n',evCall E rec f args H n= .ok v H' n'→∀s (args':Array Value) w,Rel C w0 s H w→VL s args args'.toList→(∀L,n≤L→s L=none)→CallOk E C w0 s n f args' w v H' n')
  {N:Nat} (ops:Array Oper) {Q:Exit→Act→World→Prop}:∀(r:List Oper) (T:List Value) (H:Hp) (n:Nat) (T':List Value) (H':Hp) (n':Nat),evSeq E rec ops.toList r T H n= .nrm T' H' n'→
  ∀s a w,SR C w0 N s T H n a w→(∀s' a' w',SR C w0 N s' T' H' n' a' w'→Up s s' n n'→Q .normal a' w')→wpList E.P ops Q r a w
 | [],T,H,n,T',H',n',h,s,a,w,hs,hQ=>by
  simp only[evSeq]at h
  cases h
  exact hQ s a w hs (Up.refl s n)
 |o::r,T,H,n,T',H',n',h,s,a,w,hs,hQ=>by
  simp only[evSeq]at h
  split at h
  ·cases h
  ·rename_i hop
   unfold wpList
   rw[want_ok hs.tmp ops o]
   split at h
   ·rename_i hw
    rw[hw,if_neg (by simp)]
    have hund:VR s undef undef:= .tuple _ _ rfl (by simp)
    refine evSeq_ok hE hcall ops r _ H (Nat.succ n) T' H' n' h s _ w ⟨hs.rel,put_ok hs.tmp hund o.dst,by rw[putL_len];exact hs.len,by rw[put_dfr];exact hs.dfr,fun L hL=>hs.lab L (by omega)⟩ (fun s' a' w' h1 h2=>hQ s' a' w' h1 ⟨h2.le,fun L hL=>h2.low L (by omega),by have:=h2.n;omega⟩)
   ·rename_i hw
    rw[hw,if_pos rfl]
    split at h
    ·rename_i v H1 n1 hv
     refine .inl (evAR_wp (lab:=n) hE hcall hs.rel (fun L hL=>hs.lab L (by omega)) (fun y hy=>aop_ok hE.T hs.rel (operands_ok hs.tmp hop) (hs.lab n (Nat.le_refl _)) hy) hv ?_)
     intro s1 v1 w1 g1 g2 g3 g4 g5 g6
     refine evSeq_ok hE hcall ops r _ H1 n1 T' H' n' h s1 _ w1 ⟨g2,put_ok (hs.tmp.mono g3) g1 o.dst,by rw[putL_len];exact hs.len,by rw[put_dfr];exact hs.dfr,fun L hL=>g5 L hL (by omega)⟩ (fun s' a' w' h1 h2=>hQ s' a' w' h1 ⟨Sg.le_trans g3 h2.le,fun L hL=>(h2.low L (by omega)).trans (g4 L (by omega) (by omega)),by have:=h2.n;omega⟩)
    ·cases h
end
end
section
open Go.RowKit
theorem isTmp_eq (d:Option Nat) (t:Nat):isTmp d t=decide (d=some t):=by
 unfold isTmp
 split
 ·rename_i d
  rw[beq_dec]
  by_cases e:d=t<;>simp[e]
 ·simp
theorem srcGo_step (t:Nat):∀(l:List Oper) (i:Nat) (acc:Option Nat) (o:Oper),l[i]? =some o→srcGo t l (i+1) acc=match isTmp o.dst t with
  |true=>some 0
  |false=>match srcGo t l i acc with|some k=>some (Nat.succ k)|none=>none
 | [],i,acc,o,h=>by simp at h
 |x::r,0,acc,o,h=>by
  simp at h;subst h
  have e:∀a,srcGo t r 0 a=a:=by intro a;cases r<;>simp[srcGo]
  have e2:srcGo t (x::r) 0 acc=acc:=by simp[srcGo]
  rw[e2]
  simp only[srcGo,e]
  cases isTmp x.dst t<;>rfl
 |x::r,i+1,acc,o,h=>by
  have h':r[i]? =some o:=by simpa using h
  show srcGo t r (i+1) _=_
  rw[srcGo_step t r i _ o h']
  rfl
theorem srcOf_step (l:List Oper) (i t:Nat) (o:Oper) (h:l[i]? =some o):srcOf l (i+1) t=match isTmp o.dst t with
 |true=>some 0
 |false=>match srcOf l i t with|some k=>some (Nat.succ k)|none=>none:=srcGo_step t l i none o h
theorem srcOf_zero (l:List Oper) (t:Nat):srcOf l 0 t=none:=by unfold srcOf;cases l<;>simp[srcGo]
theorem nthV_set (T:List Value) (d:Nat) (v:Value) (t:Nat):nthV (setL T d v) t=if d=t∧d<T.length then v else nthV T t:=by
 rw[nthV_eq,nthV_eq,setL_eq]
 simp only[List.getD_eq_getElem?_getD,List.getElem?_set]
 by_cases e:d=t
 ·subst e
  by_cases h:d<T.length
  ·simp[h]
  ·simp[h]
 ·simp[e]
def Mid (l:List Oper) (T:List Value) (i:Nat) (vals Ti:List Value):Prop:=Ti.length=T.length∧∀t,nthV Ti t=match srcOf l i t with
 |some k=>nthV vals k
 |none=>nthV T t
theorem topDst_le:∀(l:List Oper) (o:Oper) (d:Nat),o∈l→o.dst=some d→d<topDst l
 | [],_,_,h,_=>by simp at h
 |x::r,o,d,h,hd=>by
  simp only[topDst]
  rcases List.mem_cons.1 h with rfl|h
  ·simp only[hd]
   exact Nat.lt_of_lt_of_le (Nat.lt_succ_self d) (Nat.le_max_left _ _)
  ·exact Nat.lt_of_lt_of_le (topDst_le r o d h hd) (Nat.le_max_right _ _)
theorem Mid.step {l:List Oper} {T vals Ti:List Value} {i:Nat} {o:Oper} (h:Mid l T i vals Ti) (ho:l[i]? =some o) (ht:topDst l≤T.length) (v:Value):Mid l T (i+1) (v::vals) (putL Ti o.dst v):=by
 refine⟨by rw[putL_len];exact h.1,fun t=> ?_⟩
 rw[srcOf_step l i t o ho,isTmp_eq]
 cases hd:o.dst with
 |none=>
  show nthV Ti t=_
  simp only[reduceCtorEq,decide_false]
  rw[h.2 t]
  cases srcOf l i t<;>simp[nthV]
 |some d=>
  have hlt:=topDst_le l o d (List.mem_of_getElem? ho) hd
  show nthV (setL Ti d v) t=_
  rw[nthV_set]
  by_cases e:d=t
  ·subst e
   rw[if_pos ⟨rfl,by rw[h.1];omega⟩]
   simp[nthV]
  ·rw[if_neg (by simp[e])]
   simp only[Option.some.injEq,e,decide_false]
   rw[h.2 t]
   cases srcOf l i t<;>simp[nthV]
theorem Mid.env {l:List Oper} {T vals Ti:List Value} {i:Nat} (h:Mid l T i vals Ti):envS l i T vals=evT Ti:=by
 funext x
 cases x with
 |tmp t=>simp only[envS,evT];rw[h.2 t];cases srcOf l i t<;>rfl
 |_=>rfl
theorem zipW_nth (vals:List Value):∀(ws:List (Option Nat)) (T:List Value) (t:Nat),nthV (zipW vals ws T) t=if t<T.length then(match ws[t]? with|some (some k)=>nthV vals k|_=>nthV T t)else undef
 | [],T,t=>by
  simp only[zipW,List.getElem?_nil]
  by_cases h:t<T.length
  ·simp[h]
  ·rw[if_neg h,nthV_eq,List.getD_eq_getElem?_getD,List.getElem?_eq_none (by omega)];rfl
 |w::ws,[],t=>by simp[zipW,nthV]
 |w::ws,a::T,0=>by cases w<;>simp[zipW,nthV]
 |w::ws,a::T,t+1=>by
  simp only[zipW,nthV]
  rw[zipW_nth vals ws T t]
  simp
theorem zipW_len (vals:List Value):∀(ws:List (Option Nat)) (T:List Value),(zipW vals ws T).length=T.length
 | [],T=>rfl
 |w::ws,[]=>rfl
 |w::ws,a::T=>by simp[zipW,zipW_len vals ws T]
theorem nthV_ext {A B:List Value} (hl:A.length=B.length) (h:∀t,t<A.length→nthV A t=nthV B t):A=B:=by
 apply List.ext_getElem hl
 intro t h1 h2
 have:=h t h1
 rw[nthV_eq,nthV_eq]at this
 simpa[List.getD_eq_getElem?_getD,h1,h2]using this
theorem srcGo_none (t:Nat):∀(l:List Oper) (i:Nat),(∀o∈l,isTmp o.dst t=false)→srcGo t l i none=none
 | [],i,_=>by simp[srcGo]
 |o::r,0,_=>by simp[srcGo]
 |o::r,i+1,h=>by
  simp only[srcGo,h o (by simp)]
  exact srcGo_none t r i fun q hq=>h q (by simp[hq])
theorem Mid.fin {l:List Oper} {T vals Ti:List Value} (h:Mid l T l.length vals Ti):zipW vals (wtab l) T=Ti:=by
 apply nthV_ext (by rw[zipW_len,h.1])
 intro t ht
 rw[zipW_len]at ht
 rw[zipW_nth,if_pos ht,h.2 t]
 unfold wtab
 rw[List.getElem?_map]
 by_cases hk:t<topDst l
 ·rw[List.getElem?_range hk]
  simp only[Option.map_some]
  cases srcOf l l.length t<;>rfl
 ·rw[List.getElem?_eq_none (by simp;omega)]
  simp only[Option.map_none]
  have:srcOf l l.length t=none:=srcGo_none t l _ fun o ho=>by
   rw[isTmp_eq]
   apply decide_eq_false
   intro e
   exact hk (topDst_le l o t ho e)
  rw[this]
theorem kind_cases (o:Op):kindOf o=0∨kindOf o=1∨kindOf o=2∨kindOf o=3:=by
 cases o<;>simp[kindOf]
 split<;>simp
theorem evSeqF_eq {E:Env} {rec:Rec} {l:List Oper} {T:List Value} (ht:topDst l≤T.length):∀(r:List Oper) (i:Nat) (vals Ti:List Value) (H:Hp) (n:Nat),(∀k,r[k]? =l[i+k]?)→Mid l T i vals Ti→evSeqF E rec l T r i vals H n=evSeq E rec l r Ti H n
 | [],i,vals,Ti,H,n,hr,hm=>by
  have hi:l.length≤i:=by
   have:=hr 0
   simpa using this
  simp only[evSeqF,evSeq]
  have hm':Mid l T l.length vals Ti:=by
   refine⟨hm.1,fun t=> ?_⟩
   have:srcOf l l.length t=srcOf l i t:=by
    unfold srcOf
    have key:∀(l:List Oper) (i:Nat) (acc:Option Nat),l.length≤i→srcGo t l i acc=srcGo t l l.length acc:=by
     intro l
     induction l with
     |nil=>intro i acc _;simp[srcGo]
     |cons x r ih=>
      intro i acc hi
      obtain⟨j,rfl⟩:∃j,i=j+1:=⟨i-1,by simp at hi;omega⟩
      simp only[srcGo,List.length_cons]
      rw[ih j _ (by simp at hi;omega)]
    exact(key l i none hi).symm
   rw[this]
   exact hm.2 t
  rw[hm'.fin]
 |o::r,i,vals,Ti,H,n,hr,hm=>by
  have ho:l[i]? =some o:=by have:=hr 0;simpa using this.symm
  have hr':∀k,r[k]? =l[i+1+k]? :=fun k=>by have:=hr (k+1);simpa[Nat.add_assoc,Nat.add_comm 1 k]using this
  have ih:∀(v:Value) (H:Hp) (n:Nat),evSeqF E rec l T r (Nat.succ i) (v::vals) H n=evSeq E rec l r (putL Ti o.dst v) H n:=fun v H n=>evSeqF_eq ht r (i+1) (v::vals) _ H n hr' (hm.step ho ht v)
  simp only[evSeqF,evSeq]
  unfold stepF oi
  rw[hm.env]
  cases hop:o.op.operands.toList.all operOk with
  |false=>rfl
  |true=>
   simp only
   have hnO:∀(x:Ov),nextO (evSeqF E rec l T r) i vals x=match x with
     | .ok v H' n'=>evSeq E rec l r (putL Ti o.dst v) H' n'
     | .bad=> .bad:=by intro x;cases x<;>simp[nextO,ih]
   cases hg:o.guard with
   |some g=>
    simp only
    unfold stepG
    rw[hnO]
    cases wantR l (evT Ti) o with
    |false=>exact ih undef H _
    |true=>rfl
   |none=>
    have hw:wantR l (evT Ti) o=true:=by unfold wantR;rw[hg]
    rw[hw]
    simp only
    have hnV:∀(x:Option Value),nxtV (evSeqF E rec l T r) i vals H n x=match evAR E rec H (Nat.succ n) (oneO x H)with
      | .ok v H' n'=>evSeq E rec l r (putL Ti o.dst v) H' n'
      | .bad=> .bad:=by intro x;cases x<;>simp[nxtV,oneO,evAR,ih]
    unfold mvOf evOp aop
    cases ho2:o.op
    case call c=>
     have hk2:kindOf (.call c)=1∨kindOf (.call c)=3:=by simp only[kindOf];split<;>simp
     rcases hk2 with e|e
     ·simp only[e,oiK];rw[hnV];rfl
     ·simp only[e,oiK];rw[hnO];rfl
    all_goals simp only[kindOf,oiK]
    all_goals first
     |(rw[hnV];rfl)
     |(rw[hnO];rfl)
     |(simp only[aop0,ho2,oneO,evAR];exact ih _ _ _)
end
end Go.Proofs.YtcbcegdidlefiaaGreat
