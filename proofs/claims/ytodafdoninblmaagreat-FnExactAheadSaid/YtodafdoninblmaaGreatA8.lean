/-
  Lemmas, part 8.
-/
import Derived.Test.YtodafdoninblmaaGreatA7
import Derived.Test.YtodafdoninblmaaGreatRows
namespace Go.Proofs.YtodafdoninblmaaGreat
open Go Go.RowKit Eng
def Of:Nat:=10
def J0i:Nat:=13
def Mg:Nat:=15
def U04:Nat:=16
def LX:Nat:=18
def J04:Nat:=19
def Wp:Nat:=20
def Mw:Nat:=21
def QU:Nat:=24
def M0A:Nat:=37
def X0e:Nat:=38
def YD:Nat:=39
def XH:Nat:=40
def Mp:Nat:=41
def Q04:Nat:=46
def MX:Nat:=47
def W04:Nat:=48
def Y0s:Nat:=49
def O04:Nat:=50
def QX:Nat:=51
def ZX:Nat:=53
def M0r:Nat:=54
def L0i:Nat:=55
def Qs:Nat:=56
def J0r:Nat:=57
def L0r:Nat:=58
def Z0s:Nat:=59
def YY:Nat:=60
def X0s:Nat:=62
def Y0j:Nat:=63
def Ws:Nat:=64
def U0s:Nat:=65
def V0s:Nat:=66
def Q0s:Nat:=67
def WP:Nat:=68
def UH:Nat:=69
def MP:Nat:=70
def OP:Nat:=71
def LP:Nat:=72
def Y04:Nat:=78
def V0d:Nat:=79
def Q05:Nat:=80
def Y0e:Nat:=81
def Lp:Nat:=93
def W0i:Nat:=94
def Q0i:Nat:=95
def UE:Nat:=96
def Ms:Nat:=99
def Y0B:Nat:=100
def M07:Nat:=101
def ZQ:Nat:=107
def V0B:Nat:=108
def Q0A:Nat:=109
def M04:Nat:=110
def Xw:Nat:=112
def Uh:Nat:=114
def X0j:Nat:=116
def UK:Nat:=117
def OX:Nat:=118
def Q0d:Nat:=119
def LC:Nat:=120
def M5:Nat:=121
def W0r:Nat:=122
def Ol:Nat:=123
def M0i:Nat:=124
def L0A:Nat:=125
def U0d:Nat:=126
def V1:Nat:=127
def XY:Nat:=128
def VQ:Nat:=129
def QE:Nat:=130
def M0s:Nat:=131
def J5:Nat:=133
def Z0j:Nat:=134
def WU:Nat:=135
def J0A:Nat:=136
def W0d:Nat:=137
def VH:Nat:=138
def M0c:Nat:=140
def L5:Nat:=141
def VX:Nat:=142
def WX:Nat:=143
def Ww:Nat:=144
def L0c:Nat:=145
def Q0r:Nat:=146
def QK:Nat:=147
def W5:Nat:=148
def L9:Nat:=149
def X0B:Nat:=150
def M0d:Nat:=151
def We:Nat:=152
def WK:Nat:=153
def J4:Nat:=154
def U6:Nat:=155
def XD:Nat:=156
def YB:Nat:=157
def O0s:Nat:=158
def L0d:Nat:=159
def VK:Nat:=161
def Lw:Nat:=178
def L4:Nat:=179
def J3:Nat:=181
def Ln:Nat:=182
def Z05:Nat:=186
def ZY:Nat:=187
def U0B:Nat:=188
def Ya:Nat:=189
def On:Nat:=190
def W0A:Nat:=191
def X04:Nat:=193
def U0r:Nat:=194
def W05:Nat:=195
def J6:Nat:=196
def MC:Nat:=197
def Vw:Nat:=198
def Y0d:Nat:=199
def V04:Nat:=200
def Y8:Nat:=201
def Qb:Nat:=202
def W0s:Nat:=203
def MU:Nat:=204
def XQ:Nat:=205
def Z0e:Nat:=206
def Zx:Nat:=207
def L04:Nat:=208
def JC:Nat:=209
def UX:Nat:=210
def QP:Nat:=211
def Ow:Nat:=212
def YX:Nat:=213
def ZD:Nat:=214
def Mn:Nat:=215
def O0r:Nat:=216
def X0d:Nat:=217
def X05:Nat:=218
def VD:Nat:=219
def LU:Nat:=220
def J0d:Nat:=221
def OK:Nat:=222
def Y05:Nat:=223
def UQ:Nat:=224
def W7:Nat:=225
def V05:Nat:=226
def QH:Nat:=228
def U05:Nat:=229
def O0d:Nat:=230
def Yd:Nat:=231
def YQ:Nat:=232
def Uw:Nat:=236
def Lg:Nat:=247
def JW:Nat:=248
def O0A:Nat:=249
def Z0B:Nat:=250
def V0j:Nat:=251
def XX:Nat:=252
def O07:Nat:=253
def Z0d:Nat:=254
def J03:Nat:=255
def W07:Nat:=256
def Oj:Nat:=257
def O0i:Nat:=258
def JP:Nat:=259
def OU:Nat:=260
def YH:Nat:=278
def X6:Nat:=279
def JX:Nat:=280
def J0c:Nat:=281
def Z04:Nat:=282
def L03:Nat:=283
def Qw:Nat:=284
theorem Tryz.own:ownKnob Tryz.prog.godebug=none:=by kernel_rfl
theorem Tryz.laidOut:laidOutB Tryz.prog=true:=by kernel_rfl
namespace Eng
theorem UI{α:Type}(e:α->AV)(h:∀x,(e x).rdt=e x)(l:List α):rdtL (l.map e)=l.map e:=by
 rw[L2,List.map_map]
 exact List.map_congr_left fun x _=>h x
theorem M03{α:Type}(e:α->AV)(h:∀x,Nw (e x))(l:List α):NwL (l.map e):=by
 rw[O03]
 intro a ha
 obtain⟨x,_,rfl⟩:=yY ha
 exact h x
theorem M1B{β:Type}(xs ys:List β)(hl:xs.length=ys.length)(i:Nat)(h:i<ys.length){es:List β}(he:es=xs.take i++ys.drop i) :
  es.length=ys.length/\(∀h',es[i]'h'=ys[i])/\es[i]?=some ys[i]/\es.set i (xs[i]'(by omega))=xs.take (i+1)++ys.drop (i+1):=by
 subst he
 have e1:(xs.take i).length=i:=by simp;omega
 have e2:∀h',(xs.take i++ys.drop i)[i]'h'=ys[i]:=by
  intro h'
  rw[List.getElem_append_right (by omega)]
  simp[e1]
 have hlen:(xs.take i++ys.drop i).length=ys.length:=by rw[yU,e1,List.length_drop];omega
 refine⟨hlen,e2,by rw[yA (by omega),e2],?_⟩
 rw[List.set_append_right _ _ (by omega),e1,Nat.sub_self,List.drop_eq_getElem_cons h,List.set_cons_zero,List.take_succ_eq_append_getElem (by omega),List.append_assoc]
 rfl
attribute [simp] wop.eq_38 wop.eq_40 St.hi St.lo
def ret1(r:AV)(es:List AV):AV->List (List AV)->List (Option (List AV))->List Row->Prop:=fun res bout upd new=>res=r/\bout=[]/\upd=[some es]/\new=[]
end Eng
def szr(n:Int)(c:Nat):Int:=if n<c then -1 else n-c
def w64(n:Int):Int:=IntKind.i64.wrap n
@[simp] def eI (n:Int):AV:=.int .i64 n
@[simp] theorem rdt_IS (l:List Int):rdtL (l.map eI)=l.map eI:=UI _ (fun _=>rfl) l
@[simp] theorem nw_IS (l:List Int):NwL (l.map eI):=M03 _ (fun _=>by simp) l
@[simp] def eB (n:Int):AV:=.int .u8 n
@[simp] theorem rdt_BS (l:List Int):rdtL (l.map eB)=l.map eB:=UI _ (fun _=>rfl) l
@[simp] def eBo (b:Bool):AV:=.bool b
@[simp] theorem rdt_BoS (l:List Bool):rdtL (l.map eBo)=l.map eBo:=UI _ (fun _=>rfl) l
@[simp] theorem V21 (l:List Bool):NwL (l.map eBo):=M03 _ (fun _=>by simp) l
@[simp] theorem noO_I (l:List Int):noOL (l.map eI):=QI _ (fun _=>by simp) l
theorem nw_I(l:List Int):NwL (l.map eI):=nw_IS l
@[simp] theorem noO_Bo (l:List Bool):noOL (l.map eBo):=QI _ (fun _=>by simp) l
theorem Qf(l:List Bool):NwL (l.map eBo):=V21 l
structure Vec where
 a:Int
 b:Int
 c:Int
 deriving DecidableEq,Inhabited
@[simp] def eVec (x:Vec):AV:=.agg [.int .i64 x.a,.int .i64 x.b,.int .i64 x.c]
@[simp] theorem W26 (l:List Vec):rdtL (l.map eVec)=l.map eVec:=UI _ (fun _=>rfl) l
structure Node where
 leaf:Int
 cap:Vec
 deriving DecidableEq,Inhabited
@[simp] def Q1 (x:Node):AV:=.agg [.int .i64 x.leaf,.int .i64 x.cap.a,.int .i64 x.cap.b,.int .i64 x.cap.c]
@[simp] theorem M21 (l:List Node):noOL (l.map Q1):=QI _ (fun _=>by simp) l
@[simp] theorem Z20 (l:List Node):rdtL (l.map Q1)=l.map Q1:=UI _ (fun _=>rfl) l
@[simp] theorem W1I (l:List Node):NwL (l.map Q1):=M03 _ (fun _=>by simp) l
theorem V3(l:List Node):NwL (l.map Q1):=W1I l
structure Topo where
 parents:List Int
 nodes:List Node
 deriving DecidableEq,Inhabited
@[simp] def U3 (g:Tag)(x:Topo):AV:=.agg [.sl g 1 (x.parents.map eI),.sl g 4 (x.nodes.map Q1)]
structure Job where
 id:Int
 prio:Int
 nodes:Int
 need:Vec
 lic:Vec
 wall:Int
 level:Int
 deriving DecidableEq,Inhabited
@[simp] def eJob (x:Job):AV:=.agg [.int .i64 x.id,.int .i64 x.prio,.int .i64 x.nodes,.int .i64 x.need.a,.int .i64 x.need.b,.int .i64 x.need.c,.int .i64 x.lic.a,.int .i64 x.lic.b,.int .i64 x.lic.c,.int .i64 x.wall,.int .i64 x.level]
@[simp] theorem X27 (l:List Job):noOL (l.map eJob):=QI _ (fun _=>by simp) l
@[simp] theorem M26 (l:List Job):rdtL (l.map eJob)=l.map eJob:=UI _ (fun _=>rfl) l
@[simp] theorem X1S (l:List Job):NwL (l.map eJob):=M03 _ (fun _=>by simp) l
theorem Wi(l:List Job):NwL (l.map eJob):=X1S l
structure Run where
 job:Job
 t:Int
 nodes:List Int
 deriving DecidableEq,Inhabited
@[simp] def J0 (g:Tag)(x:Run):AV:=.agg [.int .i64 x.job.id,.int .i64 x.job.prio,.int .i64 x.job.nodes,.int .i64 x.job.need.a,.int .i64 x.job.need.b,.int .i64 x.job.need.c,.int .i64 x.job.lic.a,.int .i64 x.job.lic.b,.int .i64 x.job.lic.c,.int .i64 x.job.wall,.int .i64 x.job.level,.int .i64 x.t,.sl g 1 (x.nodes.map eI)]
@[simp] theorem O26 (g:Tag)(l:List Run):rdtL (l.map (J0 g))=l.map (J0 .rd):=by
 rw[L2,List.map_map];exact List.map_congr_left fun x _=>by simp[AV.rdt,rdtL]
@[simp] theorem Qi (l:List Run):NwL (l.map (J0 .nw)):=M03 _ (fun _=>by simp) l
@[simp] theorem U1S (l:List Run):noOL (l.map (J0 .nw)):=QI _ (fun _=>by simp) l
structure End where
 id:Int
 t:Int
 why:Int
 deriving DecidableEq,Inhabited
@[simp] def eEnd (x:End):AV:=.agg [.int .i64 x.id,.int .i64 x.t,.int .i64 x.why]
@[simp] theorem V27 (l:List End):noOL (l.map eEnd):=QI _ (fun _=>by simp) l
@[simp] theorem L26 (l:List End):rdtL (l.map eEnd)=l.map eEnd:=UI _ (fun _=>rfl) l
@[simp] theorem V1S (l:List End):NwL (l.map eEnd):=M03 _ (fun _=>by simp) l
theorem WD(l:List End):NwL (l.map eEnd):=V1S l
structure State where
 topo:Topo
 up:List Bool
 lic:Vec
 depth:Int
 now:Int
 queue:List Job
 runs:List Run
 ends:List End
 deriving DecidableEq,Inhabited
@[simp] def Y2 (g:Tag)(x:State):AV:=.agg [.sl g 1 (x.topo.parents.map eI),.sl g 4 (x.topo.nodes.map Q1),.sl g 1 (x.up.map eBo),.int .i64 x.lic.a,.int .i64 x.lic.b,.int .i64 x.lic.c,.int .i64 x.depth,.int .i64 x.now,.sl g 11 (x.queue.map eJob),.sl g 13 (x.runs.map (J0 g)),.sl g 3 (x.ends.map eEnd)]
structure Pt where
 t:Int
 free:Vec
 deriving DecidableEq,Inhabited
@[simp] def ePt (x:Pt):AV:=.agg [.int .i64 x.t,.int .i64 x.free.a,.int .i64 x.free.b,.int .i64 x.free.c]
@[simp] theorem noO_PtS (l:List Pt):noOL (l.map ePt):=QI _ (fun _=>by simp) l
@[simp] theorem rdt_PtS (l:List Pt):rdtL (l.map ePt)=l.map ePt:=UI _ (fun _=>rfl) l
@[simp] theorem X21 (l:List Pt):NwL (l.map ePt):=M03 _ (fun _=>by simp) l
theorem Uf(l:List Pt):NwL (l.map ePt):=X21 l
@[simp] def U1 (g:Tag)(x:List Pt):AV:=.agg [.sl g 4 (x.map ePt)]
@[simp] theorem J1Z (g:Tag)(l:List (List Pt)):rdtL (l.map (U1 g))=l.map (U1 .rd):=by
 rw[L2,List.map_map];exact List.map_congr_left fun x _=>by simp[AV.rdt,rdtL]
@[simp] theorem O6 (l:List (List Pt)):NwL (l.map (U1 .nw)):=M03 _ (fun _=>by simp) l
@[simp] theorem Y1N (l:List (List Pt)):noOL (l.map (U1 .nw)):=QI _ (fun _=>by simp) l
structure Room where
 topo:Topo
 up:List Bool
 profs:List (List Pt)
 lics:List Pt
 deriving DecidableEq,Inhabited
@[simp] def Z8 (g:Tag)(x:Room):AV:=.agg [.sl g 1 (x.topo.parents.map eI),.sl g 4 (x.topo.nodes.map Q1),.sl g 1 (x.up.map eBo),.sl g 1 (x.profs.map (U1 g)),.sl g 4 (x.lics.map ePt)]
structure Seen where
 id:Int
 start:Int
 fin:Int
 deriving DecidableEq,Inhabited
@[simp] def V9 (x:Seen):AV:=.agg [.int .i64 x.id,.int .i64 x.start,.int .i64 x.fin]
@[simp] theorem O21 (l:List Seen):noOL (l.map V9):=QI _ (fun _=>by simp) l
@[simp] theorem L1Z (l:List Seen):rdtL (l.map V9)=l.map V9:=UI _ (fun _=>rfl) l
@[simp] theorem Q1I (l:List Seen):NwL (l.map V9):=M03 _ (fun _=>by simp) l
theorem W0u(l:List Seen):NwL (l.map V9):=Q1I l
structure Held where
 id:Int
 t:Int
 nodes:List Int
 deriving DecidableEq,Inhabited
@[simp] def Ml (g:Tag)(x:Held):AV:=.agg [.int .i64 x.id,.int .i64 x.t,.sl g 1 (x.nodes.map eI)]
end Go.Proofs.YtodafdoninblmaaGreat
