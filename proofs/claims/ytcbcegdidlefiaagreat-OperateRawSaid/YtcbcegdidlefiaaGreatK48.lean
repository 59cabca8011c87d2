/- The statement OperateRaw, lifted to the row's form. No condition. The row's facts of OperateRaw, one after the other. No condition. -/
import Derived.Test.YtcbcegdidlefiaaGreatK26
import Derived.Test.YtcbcegdidlefiaaGreatK27
import Derived.Test.YtcbcegdidlefiaaGreatK47
namespace Go.Proofs.YtcbcegdidlefiaaGreat
section
open Go.ChangeShapes Go.WideShapes Go.ChangeAt Go.RowKit
theorem trod_cas {H:Type} {enc:TypeId×Value→H} {W:World} {cs:Array Value} {d:DataW H} {p:List MemPlace} (h:DataW.Trod enc Tryz.prog W 0 (fun _=>true) true 32 (.agg cs) d p):∃(c:Cas) (v:CV),cs=v.cs c∧RCas W (Old W) v c∧LayLen c.lay:=by
 obtain⟨fuel,hf⟩:=h
 obtain⟨_,c,v,e,h1,h2⟩:=opens_cas fuel _ _ hf
 exact⟨c,v,Array.toList_inj.1 e,h1,h2⟩
set_option maxRecDepth 100000 in
theorem operateRaw_lifted (os:Os) (started:os.Started) (H:Type) (enc:TypeId×Value→H):
  ReturnsInHanded {} Tryz.checked os 7 .any (Rows.operateRawSpec.pre6 enc Tryz.prog Tryz.f7 Rows.operateRawRow.domain false) (Rows.operateRawSpec.post enc Tryz.prog Tryz.f7 false true false false):=by
 refine returnsInHanded_of_change (C:=Tryz.checked) rowOwn started (by kernel_rfl) Tryz.func7
  (ChangeSpec.witness6 (enc:=enc) (C:=Tryz.checked) false ⟨#[],#[.agg #[.slice none 0 0,.slice none 0 0,.slice none 0 0,.slice none 0 0,.slice none 0 0,.slice none 0 0,.slice none 0 0],.slice none 0 0],[]⟩ 8 (by kernel_rfl) (by kernel_rfl) (by kernel_rfl) (by kernel_rfl)) ?_
 intro W base args ds gs before hval0 hW hcnd _
 have hval:∀(j:Nat) t v,Tryz.f7.params[j]? =some t→args[j]? =some v→Value.okWide Tryz.prog W .any base t v:=hval0
 have hW':=hW
 obtain⟨p,q,hA0,hV,rfl,hfz,hnd⟩:=hW
 have hA:DataW.TrodAll enc Tryz.prog W 0 (fun _=>true) true Tryz.f7.params.toList args.toList ds p:=hA0
 rw[Tryz.params7]at hA hval
 obtain⟨v0,vs0,d0,ds0,p0,q0,hargs,rfl,rfl,h0,r0⟩:=trodAll_cons hA
 obtain⟨v1,vs1,d1,ds1,p1,q1,rfl,rfl,rfl,h1,r1⟩:=trodAll_cons r0
 obtain⟨rfl,rfl,rfl⟩:=trodAll_nil r1
 obtain rfl:args= #[v0,v1]:=by cases args;simp_all
 obtain⟨rfl,rfl⟩:=trodVars_none hV
 obtain⟨cs,rfl,-⟩:=okWide_struct Tryz.underlying32 (hval 0 32 v0 rfl rfl)
 obtain⟨a1,len1,cap1,rfl⟩:=okWide_slice Tryz.underlying48 (hval 1 48 v1 rfl rfl)
 have lt0:∀x∈p0,x.block<W.heap.size:=by obtain⟨m,hm⟩:=h0;exact DataW.trod_lt m _ _ _ hm
 have lt1:∀x∈p1,x.block<W.heap.size:=by obtain⟨m,hm⟩:=h1;exact DataW.trod_lt m _ _ _ hm
 obtain⟨c,v,rfl,R0,hlen⟩:=trod_cas h0
 clear hA0 hval0
 refine(OperateRaw_walk awake39_any c v a1 len1 cap1 W R0 hlen).mono fun e W' ⟨he,kk⟩=> ?_
 subst he
 have bel:Below W.heap.size W W':=kk.toBelow (Nat.le_refl _) (fun _ _ h=>h)
 exact⟨_,rfl,_,_,_,[],_,[],hW',trodAll_mk1 (shut_bool Tryz.underlying4 _),(trodAll_cons_mk (Below.trod rowLaid (by kernel_rfl) (of_decide_eq_true (by kernel_rfl)) h0 bel lt0) (trodAll_cons_mk (Below.trod rowLaid (by kernel_rfl) (of_decide_eq_true (by kernel_rfl)) h1 bel lt1) trodAll_mk0)),rfl,bel.frame _,fun h=>by cases h⟩
end
section
open Go.ChangeShapes Go.WideShapes Go.ChangeAt Go.RowKit
theorem recurses_unf (P:Program) (f:FuncId) (h:P.unfollowed f=true):P.recurses f=true:=by
 unfold Program.recurses
 rw[h];rfl
theorem inPlace_of {P:Program} {f:FuncId} {L:List FuncId} (h:P.closure f=L):P.inPlace f=L.filterMap fun g=>(P.funcs[g]?).bind fun fn=>if fn.ours||fn.body.isNone||fn.name== "runtime.NumGoroutine" then some fn.name else none:=by
 unfold Program.inPlace;rw[h]
theorem unfollowed_of {P:Program} {f g:FuncId} {L:List FuncId} (h:P.closure f=L) (hg:L.contains g=true) (h2:((P.funcs[g]?).any fun fn=>match fn.body with|some c=>c.unfollowed|none=>entryCalls fn)=true):P.unfollowed f=true:=by
 unfold Program.unfollowed
 rw[h]
 exact List.any_eq_true.2 ⟨g,by simpa using hg,h2⟩
theorem varsNamed_of {P:Program} {f:FuncId} {L:List FuncId} (h:P.closure f=L):P.varsNamed f=(((L.flatMap fun g=>((P.funcs[g]?).bind (·.body)).elim [] Code.globalsNamed).eraseDups).filterMap (fun g=>(P.globals[g]?).map (·.name))++
  L.filterMap fun g=>(P.funcs[g]?).bind fun fn=>if fn.body.isNone then entryReads.lookup fn.name else none).eraseDups:=by
 unfold Program.varsNamed;rw[h]
def orawL:List FuncId:=[7,10,33,98,184,286,287,99,100,101,185,186,34,102,35,103,94,36,95,179,181,180,105,104,106,39,37,32,58,31,97,96,182,285,386,387,388,389,390,183,11,38,107,187,288,391,188,289,392,393,290,394,13,40,108,189,268,381,382,190,191,291,292,293,294,295,109,110,192,296,297,395,396,111,193,194,112,195,196,298,397,455,474,422,464,465,452,299,398,399,57,142,251,252,374,451,472,487,488,493,494,495,489,473,453,197,41,113,117,42,44,120,114,115,198,300,400,401,199,301,145,201,63,62,200,144,261,262,302,402,403,456,404,376,377,405,457,458,475,406,407,408,409,116,202,208,317,417,462,477,303,304,410,318,203,305,411,412,460,459,476,306,413,307,204,43,118,119,205,308,309,414,310,311,415,416,461,312,313,314,315,45,46,47,121,48,122,207,206,316,123,209,210,211,319,418,320,419,420,463,421,212,321,213,125,124,214,215,322,323,216,217,218,324,423,425,426,428,424,466,478,479,490,480,481,491,492,496,482,483,484,485,325,326,427,327,429,328,49,50,128,230,129,127,223,333,334,226,221,330,331,332,336,335,430,224,225,227,220,329,337,431,380,340,436,467,341,432,434,338,433,264,342,343,339,435,228,344,229,126,219,222,51,130,231,345,346,437,347,348,438,439,468,349,350,351,352,131,14,52,132,232,53,67,65,146,149,150,265,151,133,233,353,440,441,234,354,134,235,355,442,236,238,357,358,237,356,54,55,56,135,239,137,136,138,240,242,241,359,443,360,444,361,445,469,470,486,471,243,362,363,446,364,447,448,449,365,366,367,139,244,368,247,371,450,372,373,369,245,249,370,248,246,140,141,250,17,18,23,64,66,147,263,60,143,253,254,375,255,256,378,379,454,257,258,259,260,148,68,69,70,152,266,71,72,153]
theorem orawCl:Tryz.checked.prog.closure 7=orawL:=by kernel_rfl
theorem orawUn:Tryz.checked.prog.unfollowed 7=true:=unfollowed_of (g:=302) orawCl (by kernel_rfl) (by kernel_rfl)
theorem orawJand {a b:Bool} (h1:a=true) (h2:b=true):(a&&b)=true:=by rw[h1,h2];rfl
theorem orawJ1:(Rows.operateRawRow.wf (OpenSpec.ofChange Rows.operateRawSpec))=true:=by kernel_rfl
theorem orawJ2:(laidOutB Tryz.checked.prog)=true:=by kernel_rfl
theorem orawJ3:(mapsRowed Tryz.checked.prog)=true:=by kernel_rfl
theorem orawJ4:(Tryz.f7.params.all (Tryz.checked.prog.readableRec ·))=true:=by kernel_rfl
theorem orawJ5:(namedTie Tryz.checked.prog Rows.operateRawRow.named Rows.operateRawSpec.vars)=true:=by kernel_rfl
theorem orawJ6:((Rows.operateRawRow.stops==[]))=true:=by kernel_rfl
theorem orawJ7:((Tryz.checked.prog.stops==[]))=true:=by kernel_rfl
theorem orawJ8:((Rows.operateRawRow.knobs==[]))=true:=by kernel_rfl
theorem orawJ9:((Tryz.checked.prog.stopKnobs==[]))=true:=by kernel_rfl
theorem orawJ10:((Rows.operateRawRow.inPlace==Tryz.checked.prog.inPlace 7))=true:=by rw[inPlace_of orawCl];kernel_rfl
theorem orawJ11:((Rows.operateRawRow.unfollowed==Tryz.checked.prog.unfollowed 7))=true:=by rw[orawUn];kernel_rfl
theorem orawJ12:((Rows.operateRawRow.recurses==Tryz.checked.prog.recurses 7))=true:=by rw[recurses_unf _ _ orawUn];kernel_rfl
theorem orawJ13:((Rows.operateRawRow.named==Tryz.checked.prog.varsNamed 7))=true:=by rw[varsNamed_of orawCl];kernel_rfl
theorem orawJ14:((Rows.operateRawRow.maps==(Tryz.f7.params.toList++Rows.operateRawSpec.plain.varTypes Tryz.checked.prog).any (Tryz.checked.prog.mapsRec ·)))=true:=by kernel_rfl
theorem orawJ15:((Rows.operateRawRow.ifaces==(Tryz.f7.params.toList++Rows.operateRawSpec.plain.varTypes Tryz.checked.prog).any (Tryz.checked.prog.ifacesRec ·)))=true:=by kernel_rfl
theorem orawJ16:((Rows.operateRawRow.mapsOut==Tryz.checked.prog.mapsAmong Tryz.f7.resultTypes.toList))=true:=by kernel_rfl
theorem orawJ17:((Rows.operateRawRow.loops==(Tryz.f7.params.toList++Rows.operateRawSpec.plain.varTypes Tryz.checked.prog).any (Tryz.checked.prog.loopsFrom ·)))=true:=by kernel_rfl
theorem orawJ18:((Rows.operateRawRow.wideKeys==(Tryz.f7.params.toList++Rows.operateRawSpec.plain.varTypes Tryz.checked.prog++Tryz.f7.resultTypes.toList).any (Tryz.checked.prog.wideKeysFrom ·)))=true:=by kernel_rfl
theorem orawJ19:(Rows.operateRawSpec.vars.all (Tryz.checked.prog.varReadable ·))=true:=by kernel_rfl
theorem orawJ20:(Tryz.f7.resultTypes.all (fun t=>Tryz.checked.prog.readableRec t&&decide (t<Tryz.checked.prog.types.size)))=true:=by kernel_rfl
theorem orawJ21:((Rows.operateRawRow.ifacesOut==Tryz.f7.resultTypes.toList.any (Tryz.checked.prog.ifacesRec ·)))=true:=by kernel_rfl
theorem orawJ22:((Rows.operateRawRow.loopsOut==Tryz.f7.resultTypes.toList.any (Tryz.checked.prog.loopsFrom ·)))=true:=by kernel_rfl
theorem orawJ23:((Rows.operateRawRow.plainKeys==Tryz.checked.prog.plainKeys))=true:=by kernel_rfl
theorem orawJ24:(Rows.operateRawRow.shortTexts.isNone)=true:=by kernel_rfl
theorem orawJ25:(Tryz.checked.prog.stopsHeard)=true:=by kernel_rfl
theorem orawJ26:(Tryz.checked.prog.mayEnter)=true:=by kernel_rfl
theorem orawJ27:((Rows.operateRawRow.lifted==Tryz.checked.prog.liftsFinal))=true:=by kernel_rfl
theorem orawJ28:((Tryz.checked.prog.make==some Rows.operateRawRow.make))=true:=by kernel_rfl
theorem orawJ29:((Rows.operateRawRow.kinds==(if Rows.operateRawRow.domain.isEmpty then []else Tryz.f7.params.toList.map fun t=>match Tryz.checked.prog.underlying t with|some (.int k)=>some k|_=>none)))=true:=by kernel_rfl
theorem orawJ30:((Rows.operateRawRow.pinned==Rows.operateRawRow.pinnedBy))=true:=by kernel_rfl
theorem orawJ31:((Rows.operateRawRow.veiled==(Tryz.f7.params.toList++Rows.operateRawSpec.plain.varTypes Tryz.checked.prog++Tryz.f7.resultTypes.toList).any (Tryz.checked.prog.veiledRec ·)))=true:=by kernel_rfl
theorem orawJ32:(Rows.operateRawRow.veiledFits Tryz.checked.prog Tryz.f7.params.toList (Tryz.f7.params.toList++Rows.operateRawSpec.plain.varTypes Tryz.checked.prog++Tryz.f7.resultTypes.toList))=true:=by kernel_rfl
set_option maxRecDepth 100000 in
theorem orawJ:joinedFacts Tryz.checked.prog 7 Tryz.f7 Rows.operateRawSpec Rows.operateRawRow=true:=by
 have h2:=orawJand orawJ1 orawJ2
 have h3:=orawJand h2 orawJ3
 have h4:=orawJand h3 orawJ4
 have h5:=orawJand h4 orawJ5
 have h6:=orawJand h5 orawJ6
 have h7:=orawJand h6 orawJ7
 have h8:=orawJand h7 orawJ8
 have h9:=orawJand h8 orawJ9
 have h10:=orawJand h9 orawJ10
 have h11:=orawJand h10 orawJ11
 have h12:=orawJand h11 orawJ12
 have h13:=orawJand h12 orawJ13
 have h14:=orawJand h13 orawJ14
 have h15:=orawJand h14 orawJ15
 have h16:=orawJand h15 orawJ16
 have h17:=orawJand h16 orawJ17
 have h18:=orawJand h17 orawJ18
 have h19:=orawJand h18 orawJ19
 have h20:=orawJand h19 orawJ20
 have h21:=orawJand h20 orawJ21
 have h22:=orawJand h21 orawJ22
 have h23:=orawJand h22 orawJ23
 have h24:=orawJand h23 orawJ24
 have h25:=orawJand h24 orawJ25
 have h26:=orawJand h25 orawJ26
 have h27:=orawJand h26 orawJ27
 have h28:=orawJand h27 orawJ28
 have h29:=orawJand h28 orawJ29
 have h30:=orawJand h29 orawJ30
 have h31:=orawJand h30 orawJ31
 have h32:=orawJand h31 orawJ32
 unfold joinedFacts
 exact h32
end
end Go.Proofs.YtcbcegdidlefiaaGreat
