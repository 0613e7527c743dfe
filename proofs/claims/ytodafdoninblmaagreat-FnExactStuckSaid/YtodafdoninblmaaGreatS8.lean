/-
  Lemmas, part 8.
-/
import Derived.Test.YtodafdoninblmaaGreatS7
import Derived.Test.YtodafdoninblmaaGreatRows
namespace Go.Proofs.YtodafdoninblmaaGreat
open Go Go.RowKit Eng
def Wf:Nat:=9
def Q0i:Nat:=13
def Mg:Nat:=15
def Y04:Nat:=16
def YX:Nat:=18
def Ll:Nat:=19
def Mp:Nat:=20
def Oa:Nat:=21
def MT:Nat:=24
def Ow:Nat:=30
def Y0A:Nat:=35
def W0d:Nat:=36
def L0R:Nat:=42
def X04:Nat:=46
def ZX:Nat:=47
def V04:Nat:=48
def W0r:Nat:=49
def U04:Nat:=50
def MW:Nat:=51
def VW:Nat:=53
def X0r:Nat:=54
def U0i:Nat:=55
def Qs:Nat:=56
def U0r:Nat:=57
def V0r:Nat:=58
def Q0r:Nat:=59
def UX:Nat:=60
def O0r:Nat:=62
def O0i:Nat:=63
def Ws:Nat:=64
def L0r:Nat:=65
def M0r:Nat:=66
def J0r:Nat:=67
def UP:Nat:=68
def UH:Nat:=69
def WP:Nat:=70
def QP:Nat:=71
def OP:Nat:=72
def L03:Nat:=78
def M0c:Nat:=79
def Z05:Nat:=80
def O0d:Nat:=81
def Lp:Nat:=93
def Y0i:Nat:=94
def Z0i:Nat:=95
def UE:Nat:=96
def Ms:Nat:=99
def W0A:Nat:=100
def X07:Nat:=101
def LP:Nat:=107
def M0A:Nat:=108
def J0z:Nat:=109
def Yw:Nat:=112
def Mh:Nat:=114
def M0i:Nat:=116
def VK:Nat:=117
def JW:Nat:=118
def J0c:Nat:=119
def ZD:Nat:=120
def L5:Nat:=121
def Z0r:Nat:=122
def Ml:Nat:=123
def V0i:Nat:=124
def V0A:Nat:=125
def L0c:Nat:=126
def V1:Nat:=127
def QX:Nat:=128
def YQ:Nat:=129
def QE:Nat:=130
def X0s:Nat:=131
def Z6:Nat:=133
def W0i:Nat:=134
def LT:Nat:=135
def U0A:Nat:=136
def Z0d:Nat:=137
def VH:Nat:=138
def X0c:Nat:=140
def J5:Nat:=141
def WW:Nat:=142
def LW:Nat:=143
def Qw:Nat:=144
def V0c:Nat:=145
def J0q:Nat:=146
def UK:Nat:=147
def W5:Nat:=148
def M9:Nat:=149
def O0A:Nat:=150
def X0d:Nat:=151
def Qe:Nat:=152
def QK:Nat:=153
def J4:Nat:=154
def U6:Nat:=155
def VD:Nat:=156
def JA:Nat:=157
def Y0s:Nat:=158
def V0d:Nat:=159
def XK:Nat:=161
def Mw:Nat:=178
def L4:Nat:=179
def J3:Nat:=181
def Zo:Nat:=182
def W04:Nat:=186
def VX:Nat:=187
def L0A:Nat:=188
def Za:Nat:=189
def Ln:Nat:=190
def Z0A:Nat:=191
def J03:Nat:=193
def L0q:Nat:=194
def Y05:Nat:=195
def J6:Nat:=196
def JC:Nat:=197
def Xw:Nat:=198
def W0c:Nat:=199
def Z04:Nat:=200
def Y8:Nat:=201
def Qb:Nat:=202
def Z0s:Nat:=203
def ZU:Nat:=204
def ZQ:Nat:=205
def Q0d:Nat:=206
def Zx:Nat:=207
def Q04:Nat:=208
def YD:Nat:=209
def OW:Nat:=210
def VP:Nat:=211
def Ww:Nat:=212
def UW:Nat:=213
def XD:Nat:=214
def Jn:Nat:=215
def Y0r:Nat:=216
def O0c:Nat:=217
def M04:Nat:=218
def UD:Nat:=219
def YU:Nat:=220
def U0d:Nat:=221
def WK:Nat:=222
def O04:Nat:=223
def XQ:Nat:=224
def W7:Nat:=225
def L04:Nat:=226
def QH:Nat:=228
def J04:Nat:=229
def Y0d:Nat:=230
def Jc:Nat:=231
def JP:Nat:=232
def Vw:Nat:=236
def Lg:Nat:=247
def XW:Nat:=248
def X0A:Nat:=249
def Q0A:Nat:=250
def L0i:Nat:=251
def QW:Nat:=252
def Y07:Nat:=253
def Q0c:Nat:=254
def O03:Nat:=255
def Z07:Nat:=256
def Mj:Nat:=257
def X0i:Nat:=258
def MP:Nat:=259
def JT:Nat:=260
def XH:Nat:=278
def V6:Nat:=279
def XX:Nat:=280
def U0c:Nat:=281
def M03:Nat:=282
def W03:Nat:=283
def Uw:Nat:=284
theorem Tryz.own:ownKnob Tryz.prog.godebug=none:=by kernel_rfl
theorem Tryz.laidOut:laidOutB Tryz.prog=true:=by kernel_rfl
namespace Eng
theorem UI{α:Type}(e:α->AV)(h:∀x,(e x).rdt=e x)(l:List α):rdtL (l.map e)=l.map e:=by
 rw[L2,List.map_map]
 exact List.map_congr_left fun x _=>h x
theorem Q03{α:Type}(e:α->AV)(h:∀x,Nw (e x))(l:List α):NwL (l.map e):=by
 rw[U03]
 intro a ha
 obtain⟨x,_,rfl⟩:=yY ha
 exact h x
theorem X1B{β:Type}(xs ys:List β)(hl:xs.length=ys.length)(i:Nat)(h:i<ys.length){es:List β}(he:es=xs.take i++ys.drop i) :
  es.length=ys.length/\(∀h',es[i]'h'=ys[i])/\es[i]?=some ys[i]/\es.set i (xs[i]'(by omega))=xs.take (i+1)++ys.drop (i+1):=by
 subst he
 have e1:(xs.take i).length=i:=by simp;omega
 have e2:∀h',(xs.take i++ys.drop i)[i]'h'=ys[i]:=by
  intro h'
  rw[List.getElem_append_right (by omega)]
  simp[e1]
 have hlen:(xs.take i++ys.drop i).length=ys.length:=by rw[yU,e1,List.length_drop];omega
 refine⟨hlen,e2,by rw[yA (by omega),e2],?_⟩
 rw[List.set_append_right _ _ (by omega),e1,Nat.sub_self,List.drop_eq_getElem_cons h,List.set_cons_zero,List.take_succ_eq_append_getElem (by omega),List.append_assoc]
 rfl
attribute [simp] wop.eq_38 wop.eq_40 St.hi St.lo
def ret1(r:AV)(es:List AV):AV->List (List AV)->List (Option (List AV))->List Row->Prop:=fun res bout upd new=>res=r/\bout=[]/\upd=[some es]/\new=[]
end Eng
def szr(n:Int)(c:Nat):Int:=if n<c then -1 else n-c
def w64(n:Int):Int:=IntKind.i64.wrap n
@[simp] def eI (n:Int):AV:=.int .i64 n
@[simp] theorem rdt_IS (l:List Int):rdtL (l.map eI)=l.map eI:=UI _ (fun _=>rfl) l
@[simp] theorem nw_IS (l:List Int):NwL (l.map eI):=Q03 _ (fun _=>by simp) l
@[simp] def eB (n:Int):AV:=.int .u8 n
@[simp] theorem rdt_BS (l:List Int):rdtL (l.map eB)=l.map eB:=UI _ (fun _=>rfl) l
@[simp] def eBo (b:Bool):AV:=.bool b
@[simp] theorem rdt_BoS (l:List Bool):rdtL (l.map eBo)=l.map eBo:=UI _ (fun _=>rfl) l
@[simp] theorem M20 (l:List Bool):NwL (l.map eBo):=Q03 _ (fun _=>by simp) l
@[simp] theorem noO_I (l:List Int):noOL (l.map eI):=QI _ (fun _=>by simp) l
theorem nw_I(l:List Int):NwL (l.map eI):=nw_IS l
@[simp] theorem noO_Bo (l:List Bool):noOL (l.map eBo):=QI _ (fun _=>by simp) l
theorem We(l:List Bool):NwL (l.map eBo):=M20 l
structure Vec where
 a:Int
 b:Int
 c:Int
 deriving DecidableEq,Inhabited
@[simp] def eVec (x:Vec):AV:=.agg [.int .i64 x.a,.int .i64 x.b,.int .i64 x.c]
@[simp] theorem J25 (l:List Vec):rdtL (l.map eVec)=l.map eVec:=UI _ (fun _=>rfl) l
structure Node where
 leaf:Int
 cap:Vec
 deriving DecidableEq,Inhabited
@[simp] def Q1 (x:Node):AV:=.agg [.int .i64 x.leaf,.int .i64 x.cap.a,.int .i64 x.cap.b,.int .i64 x.cap.c]
@[simp] theorem X21 (l:List Node):noOL (l.map Q1):=QI _ (fun _=>by simp) l
@[simp] theorem Q1Z (l:List Node):rdtL (l.map Q1)=l.map Q1:=UI _ (fun _=>rfl) l
@[simp] theorem Z1I (l:List Node):NwL (l.map Q1):=Q03 _ (fun _=>by simp) l
theorem Y3(l:List Node):NwL (l.map Q1):=Z1I l
structure Topo where
 parents:List Int
 nodes:List Node
 deriving DecidableEq,Inhabited
@[simp] def U3 (g:Tag)(x:Topo):AV:=.agg [.sl g 1 (x.parents.map eI),.sl g 4 (x.nodes.map Q1)]
structure Job where
 id:Int
 prio:Int
 nodes:Int
 need:Vec
 lic:Vec
 wall:Int
 level:Int
 deriving DecidableEq,Inhabited
@[simp] def eJob (x:Job):AV:=.agg [.int .i64 x.id,.int .i64 x.prio,.int .i64 x.nodes,.int .i64 x.need.a,.int .i64 x.need.b,.int .i64 x.need.c,.int .i64 x.lic.a,.int .i64 x.lic.b,.int .i64 x.lic.c,.int .i64 x.wall,.int .i64 x.level]
@[simp] theorem W26 (l:List Job):noOL (l.map eJob):=QI _ (fun _=>by simp) l
@[simp] theorem Y26 (l:List Job):rdtL (l.map eJob)=l.map eJob:=UI _ (fun _=>rfl) l
@[simp] theorem W1R (l:List Job):NwL (l.map eJob):=Q03 _ (fun _=>by simp) l
theorem Uh(l:List Job):NwL (l.map eJob):=W1R l
structure Run where
 job:Job
 t:Int
 nodes:List Int
 deriving DecidableEq,Inhabited
@[simp] def J0 (g:Tag)(x:Run):AV:=.agg [.int .i64 x.job.id,.int .i64 x.job.prio,.int .i64 x.job.nodes,.int .i64 x.job.need.a,.int .i64 x.job.need.b,.int .i64 x.job.need.c,.int .i64 x.job.lic.a,.int .i64 x.job.lic.b,.int .i64 x.job.lic.c,.int .i64 x.job.wall,.int .i64 x.job.level,.int .i64 x.t,.sl g 1 (x.nodes.map eI)]
@[simp] theorem Z26 (g:Tag)(l:List Run):rdtL (l.map (J0 g))=l.map (J0 .rd):=by
 rw[L2,List.map_map];exact List.map_congr_left fun x _=>by simp[AV.rdt,rdtL]
@[simp] theorem Zh (l:List Run):NwL (l.map (J0 .nw)):=Q03 _ (fun _=>by simp) l
@[simp] theorem M1R (l:List Run):noOL (l.map (J0 .nw)):=QI _ (fun _=>by simp) l
structure End where
 id:Int
 t:Int
 why:Int
 deriving DecidableEq,Inhabited
@[simp] def eEnd (x:End):AV:=.agg [.int .i64 x.id,.int .i64 x.t,.int .i64 x.why]
@[simp] theorem O26 (l:List End):noOL (l.map eEnd):=QI _ (fun _=>by simp) l
@[simp] theorem X26 (l:List End):rdtL (l.map eEnd)=l.map eEnd:=UI _ (fun _=>rfl) l
@[simp] theorem O1R (l:List End):NwL (l.map eEnd):=Q03 _ (fun _=>by simp) l
theorem Jw(l:List End):NwL (l.map eEnd):=O1R l
structure State where
 topo:Topo
 up:List Bool
 lic:Vec
 depth:Int
 now:Int
 queue:List Job
 runs:List Run
 ends:List End
 deriving DecidableEq,Inhabited
@[simp] def J1 (g:Tag)(x:State):AV:=.agg [.sl g 1 (x.topo.parents.map eI),.sl g 4 (x.topo.nodes.map Q1),.sl g 1 (x.up.map eBo),.int .i64 x.lic.a,.int .i64 x.lic.b,.int .i64 x.lic.c,.int .i64 x.depth,.int .i64 x.now,.sl g 11 (x.queue.map eJob),.sl g 13 (x.runs.map (J0 g)),.sl g 3 (x.ends.map eEnd)]
structure Pt where
 t:Int
 free:Vec
 deriving DecidableEq,Inhabited
@[simp] def ePt (x:Pt):AV:=.agg [.int .i64 x.t,.int .i64 x.free.a,.int .i64 x.free.b,.int .i64 x.free.c]
@[simp] theorem noO_PtS (l:List Pt):noOL (l.map ePt):=QI _ (fun _=>by simp) l
@[simp] theorem rdt_PtS (l:List Pt):rdtL (l.map ePt)=l.map ePt:=UI _ (fun _=>rfl) l
@[simp] theorem O20 (l:List Pt):NwL (l.map ePt):=Q03 _ (fun _=>by simp) l
theorem Uf(l:List Pt):NwL (l.map ePt):=O20 l
@[simp] def U1 (g:Tag)(x:List Pt):AV:=.agg [.sl g 4 (x.map ePt)]
@[simp] theorem U1Z (g:Tag)(l:List (List Pt)):rdtL (l.map (U1 g))=l.map (U1 .rd):=by
 rw[L2,List.map_map];exact List.map_congr_left fun x _=>by simp[AV.rdt,rdtL]
@[simp] theorem O6 (l:List (List Pt)):NwL (l.map (U1 .nw)):=Q03 _ (fun _=>by simp) l
@[simp] theorem Q1M (l:List (List Pt)):noOL (l.map (U1 .nw)):=QI _ (fun _=>by simp) l
structure Room where
 topo:Topo
 up:List Bool
 profs:List (List Pt)
 lics:List Pt
 deriving DecidableEq,Inhabited
@[simp] def Z8 (g:Tag)(x:Room):AV:=.agg [.sl g 1 (x.topo.parents.map eI),.sl g 4 (x.topo.nodes.map Q1),.sl g 1 (x.up.map eBo),.sl g 1 (x.profs.map (U1 g)),.sl g 4 (x.lics.map ePt)]
structure Seen where
 id:Int
 start:Int
 fin:Int
 deriving DecidableEq,Inhabited
@[simp] def WA (x:Seen):AV:=.agg [.int .i64 x.id,.int .i64 x.start,.int .i64 x.fin]
@[simp] theorem Y21 (l:List Seen):noOL (l.map WA):=QI _ (fun _=>by simp) l
@[simp] theorem V1Z (l:List Seen):rdtL (l.map WA)=l.map WA:=UI _ (fun _=>rfl) l
@[simp] theorem J1H (l:List Seen):NwL (l.map WA):=Q03 _ (fun _=>by simp) l
theorem Q16(l:List Seen):NwL (l.map WA):=J1H l
structure Held where
 id:Int
 t:Int
 nodes:List Int
 deriving DecidableEq,Inhabited
@[simp] def Jl (g:Tag)(x:Held):AV:=.agg [.int .i64 x.id,.int .i64 x.t,.sl g 1 (x.nodes.map eI)]
end Go.Proofs.YtodafdoninblmaaGreat
