/-
  Lemmas, part 8.
-/
import Derived.Test.YtodafdoninblmaaGreatV7
import Derived.Test.YtodafdoninblmaaGreatRows
namespace Go.Proofs.YtodafdoninblmaaGreat
open Go Go.RowKit Eng
def Jb:Nat:=6
def W0d:Nat:=13
def Yg:Nat:=15
def U00:Nat:=16
def MT:Nat:=18
def Qk:Nat:=19
def Mn:Nat:=20
def Za:Nat:=21
def UH:Nat:=23
def Oe:Nat:=24
def U01:Nat:=25
def Y0d:Nat:=28
def JT:Nat:=29
def Zu:Nat:=30
def Q00:Nat:=46
def OT:Nat:=47
def W00:Nat:=48
def O0l:Nat:=49
def O00:Nat:=50
def QT:Nat:=51
def X6:Nat:=52
def V0l:Nat:=54
def Q0d:Nat:=55
def Lp:Nat:=56
def Q0l:Nat:=57
def U0l:Nat:=58
def W0l:Nat:=59
def ZU:Nat:=60
def LT:Nat:=61
def M0l:Nat:=62
def M0d:Nat:=63
def Jp:Nat:=64
def J0l:Nat:=65
def L0l:Nat:=66
def Z0m:Nat:=67
def OM:Nat:=68
def VE:Nat:=69
def LM:Nat:=70
def MM:Nat:=71
def JM:Nat:=72
def X00:Nat:=78
def Y08:Nat:=79
def V01:Nat:=80
def L08:Nat:=81
def UE:Nat:=93
def J0c:Nat:=94
def ZT:Nat:=95
def Mp:Nat:=96
def Wz:Nat:=97
def MZ:Nat:=98
def Qi:Nat:=99
def X0t:Nat:=100
def WE:Nat:=101
def X1:Nat:=102
def Mf:Nat:=103
def Z6:Nat:=104
def QE:Nat:=105
def Xu:Nat:=107
def QH:Nat:=117
def WT:Nat:=118
def V08:Nat:=119
def V0d:Nat:=120
def O5:Nat:=121
def Y0l:Nat:=122
def Je:Nat:=123
def U0d:Nat:=124
def J0s:Nat:=125
def X08:Nat:=126
def Q1:Nat:=127
def L0d:Nat:=128
def VN:Nat:=129
def WB:Nat:=130
def V0m:Nat:=131
def Ln:Nat:=132
def Z4:Nat:=133
def O0d:Nat:=134
def MQ:Nat:=135
def Z0t:Nat:=136
def U08:Nat:=137
def XE:Nat:=138
def W07:Nat:=140
def W7:Nat:=141
def VT:Nat:=142
def X0d:Nat:=143
def VH:Nat:=144
def O07:Nat:=145
def Z0l:Nat:=146
def WH:Nat:=147
def Q5:Nat:=148
def Zf:Nat:=149
def V0t:Nat:=150
def Y0t:Nat:=151
def Ui:Nat:=152
def X01:Nat:=153
def M4:Nat:=154
def V6:Nat:=155
def Jz:Nat:=156
def Zy:Nat:=157
def X0m:Nat:=158
def W08:Nat:=159
def XH:Nat:=161
def Yu:Nat:=178
def O4:Nat:=179
def LZ:Nat:=180
def O3:Nat:=181
def Zm:Nat:=182
def Oz:Nat:=197
def Ot:Nat:=198
def J07:Nat:=199
def V00:Nat:=200
def J7:Nat:=201
def Vb:Nat:=202
def Y0m:Nat:=203
def JQ:Nat:=204
def XN:Nat:=205
def M08:Nat:=206
def Wu:Nat:=207
def M00:Nat:=208
def Mz:Nat:=209
def UT:Nat:=210
def WM:Nat:=211
def Jt:Nat:=212
def YT:Nat:=213
def Lz:Nat:=214
def Jl:Nat:=215
def X0l:Nat:=216
def Z08:Nat:=217
def J00:Nat:=218
def YA:Nat:=219
def ZR:Nat:=220
def O08:Nat:=221
def OH:Nat:=222
def L00:Nat:=223
def UN:Nat:=224
def X7:Nat:=225
def Z01:Nat:=226
def OE:Nat:=228
def Y01:Nat:=229
def Q08:Nat:=230
def Qc:Nat:=231
def YN:Nat:=232
def Mt:Nat:=236
def XT:Nat:=252
def J02:Nat:=253
def L07:Nat:=254
def Z00:Nat:=255
def L02:Nat:=256
def Vi:Nat:=257
def Z0d:Nat:=258
def ZN:Nat:=259
def LQ:Nat:=260
def M07:Nat:=281
def Y00:Nat:=282
def JZ:Nat:=283
def Lt:Nat:=284
theorem Tryz.own:ownKnob Tryz.prog.godebug=none:=by kernel_rfl
theorem Tryz.laidOut:laidOutB Tryz.prog=true:=by kernel_rfl
namespace Eng
theorem WO{α:Type}(e:α->AV)(h:∀x,(e x).rdt=e x)(l:List α):rdtL (l.map e)=l.map e:=by
 rw[O2,List.map_map]
 exact List.map_congr_left fun x _=>h x
theorem V07{α:Type}(e:α->AV)(h:∀x,Nw (e x))(l:List α):NwL (l.map e):=by
 rw[OZ]
 intro a ha
 obtain⟨x,_,rfl⟩:=yY ha
 exact h x
theorem M1t{β:Type}(xs ys:List β)(hl:xs.length=ys.length)(i:Nat)(h:i<ys.length){es:List β}(he:es=xs.take i++ys.drop i) :
  es.length=ys.length/\(∀h',es[i]'h'=ys[i])/\es[i]?=some ys[i]/\es.set i (xs[i]'(by omega))=xs.take (i+1)++ys.drop (i+1):=by
 subst he
 have e1:(xs.take i).length=i:=by simp;omega
 have e2:∀h',(xs.take i++ys.drop i)[i]'h'=ys[i]:=by
  intro h'
  rw[List.getElem_append_right (by omega)]
  simp[e1]
 have hlen:(xs.take i++ys.drop i).length=ys.length:=by rw[yU,e1,List.length_drop];omega
 refine⟨hlen,e2,by rw[yA (by omega),e2],?_⟩
 rw[List.set_append_right _ _ (by omega),e1,Nat.sub_self,List.drop_eq_getElem_cons h,List.set_cons_zero,List.take_succ_eq_append_getElem (by omega),List.append_assoc]
 rfl
attribute [simp] wop.eq_38 wop.eq_40 St.hi St.lo
def ret1(r:AV)(es:List AV):AV->List (List AV)->List (Option (List AV))->List Row->Prop:=fun res bout upd new=>res=r/\bout=[]/\upd=[some es]/\new=[]
end Eng
def szr(n:Int)(c:Nat):Int:=if n<c then -1 else n-c
def w64(n:Int):Int:=IntKind.i64.wrap n
@[simp] def eI (n:Int):AV:=.int .i64 n
@[simp] theorem rdt_IS (l:List Int):rdtL (l.map eI)=l.map eI:=WO _ (fun _=>rfl) l
@[simp] theorem nw_IS (l:List Int):NwL (l.map eI):=V07 _ (fun _=>by simp) l
@[simp] def eB (n:Int):AV:=.int .u8 n
@[simp] theorem rdt_BS (l:List Int):rdtL (l.map eB)=l.map eB:=WO _ (fun _=>rfl) l
@[simp] def eBo (b:Bool):AV:=.bool b
@[simp] theorem rdt_BoS (l:List Bool):rdtL (l.map eBo)=l.map eBo:=WO _ (fun _=>rfl) l
@[simp] theorem V1T (l:List Bool):NwL (l.map eBo):=V07 _ (fun _=>by simp) l
@[simp] theorem noO_I (l:List Int):noOL (l.map eI):=YY _ (fun _=>by simp) l
theorem nw_I(l:List Int):NwL (l.map eI):=nw_IS l
@[simp] theorem noO_Bo (l:List Bool):noOL (l.map eBo):=YY _ (fun _=>by simp) l
theorem OF(l:List Bool):NwL (l.map eBo):=V1T l
structure Vec where
 a:Int
 b:Int
 c:Int
 deriving DecidableEq,Inhabited
@[simp] def eVec (x:Vec):AV:=.agg [.int .i64 x.a,.int .i64 x.b,.int .i64 x.c]
@[simp] theorem M1Y (l:List Vec):rdtL (l.map eVec)=l.map eVec:=WO _ (fun _=>rfl) l
structure Node where
 leaf:Int
 cap:Vec
 deriving DecidableEq,Inhabited
@[simp] def L2 (x:Node):AV:=.agg [.int .i64 x.leaf,.int .i64 x.cap.a,.int .i64 x.cap.b,.int .i64 x.cap.c]
@[simp] theorem O1T (l:List Node):noOL (l.map L2):=YY _ (fun _=>by simp) l
@[simp] theorem V1S (l:List Node):rdtL (l.map L2)=l.map L2:=WO _ (fun _=>rfl) l
@[simp] theorem Z1B (l:List Node):NwL (l.map L2):=V07 _ (fun _=>by simp) l
theorem Y7(l:List Node):NwL (l.map L2):=Z1B l
structure Topo where
 parents:List Int
 nodes:List Node
 deriving DecidableEq,Inhabited
@[simp] def Y3 (g:Tag)(x:Topo):AV:=.agg [.sl g 1 (x.parents.map eI),.sl g 4 (x.nodes.map L2)]
structure Job where
 id:Int
 prio:Int
 nodes:Int
 need:Vec
 lic:Vec
 wall:Int
 level:Int
 deriving DecidableEq,Inhabited
@[simp] def eJob (x:Job):AV:=.agg [.int .i64 x.id,.int .i64 x.prio,.int .i64 x.nodes,.int .i64 x.need.a,.int .i64 x.need.b,.int .i64 x.need.c,.int .i64 x.lic.a,.int .i64 x.lic.b,.int .i64 x.lic.c,.int .i64 x.wall,.int .i64 x.level]
@[simp] theorem U1Z (l:List Job):noOL (l.map eJob):=YY _ (fun _=>by simp) l
@[simp] theorem J1Y (l:List Job):rdtL (l.map eJob)=l.map eJob:=WO _ (fun _=>rfl) l
@[simp] theorem M1J (l:List Job):NwL (l.map eJob):=V07 _ (fun _=>by simp) l
theorem Z0U(l:List Job):NwL (l.map eJob):=M1J l
structure Run where
 job:Job
 t:Int
 nodes:List Int
 deriving DecidableEq,Inhabited
@[simp] def L0 (g:Tag)(x:Run):AV:=.agg [.int .i64 x.job.id,.int .i64 x.job.prio,.int .i64 x.job.nodes,.int .i64 x.job.need.a,.int .i64 x.job.need.b,.int .i64 x.job.need.c,.int .i64 x.job.lic.a,.int .i64 x.job.lic.b,.int .i64 x.job.lic.c,.int .i64 x.job.wall,.int .i64 x.job.level,.int .i64 x.t,.sl g 1 (x.nodes.map eI)]
@[simp] theorem L1Y (g:Tag)(l:List Run):rdtL (l.map (L0 g))=l.map (L0 .rd):=by
 rw[O2,List.map_map];exact List.map_congr_left fun x _=>by simp[AV.rdt,rdtL]
@[simp] theorem Z0Z (l:List Run):NwL (l.map (L0 .nw)):=V07 _ (fun _=>by simp) l
@[simp] theorem Z1K (l:List Run):noOL (l.map (L0 .nw)):=YY _ (fun _=>by simp) l
@[simp] theorem J1J (l:List Run):noOL (l.map (L0 .rd)):=YY _ (fun _=>by simp) l
structure End where
 id:Int
 t:Int
 why:Int
 deriving DecidableEq,Inhabited
@[simp] def eEnd (x:End):AV:=.agg [.int .i64 x.id,.int .i64 x.t,.int .i64 x.why]
@[simp] theorem Q1Z (l:List End):noOL (l.map eEnd):=YY _ (fun _=>by simp) l
@[simp] theorem Z1Z (l:List End):rdtL (l.map eEnd)=l.map eEnd:=WO _ (fun _=>rfl) l
@[simp] theorem L1J (l:List End):NwL (l.map eEnd):=V07 _ (fun _=>by simp) l
theorem V1i(l:List End):NwL (l.map eEnd):=L1J l
structure State where
 topo:Topo
 up:List Bool
 lic:Vec
 depth:Int
 now:Int
 queue:List Job
 runs:List Run
 ends:List End
 deriving DecidableEq,Inhabited
@[simp] def Q2 (g:Tag)(x:State):AV:=.agg [.sl g 1 (x.topo.parents.map eI),.sl g 4 (x.topo.nodes.map L2),.sl g 1 (x.up.map eBo),.int .i64 x.lic.a,.int .i64 x.lic.b,.int .i64 x.lic.c,.int .i64 x.depth,.int .i64 x.now,.sl g 11 (x.queue.map eJob),.sl g 13 (x.runs.map (L0 g)),.sl g 3 (x.ends.map eEnd)]
structure Pt where
 t:Int
 free:Vec
 deriving DecidableEq,Inhabited
@[simp] def ePt (x:Pt):AV:=.agg [.int .i64 x.t,.int .i64 x.free.a,.int .i64 x.free.b,.int .i64 x.free.c]
@[simp] theorem rdt_PtS (l:List Pt):rdtL (l.map ePt)=l.map ePt:=WO _ (fun _=>rfl) l
@[simp] theorem X1T (l:List Pt):NwL (l.map ePt):=V07 _ (fun _=>by simp) l
theorem Xg(l:List Pt):NwL (l.map ePt):=X1T l
@[simp] def O1 (g:Tag)(x:List Pt):AV:=.agg [.sl g 4 (x.map ePt)]
@[simp] theorem X1S (g:Tag)(l:List (List Pt)):rdtL (l.map (O1 g))=l.map (O1 .rd):=by
 rw[O2,List.map_map];exact List.map_congr_left fun x _=>by simp[AV.rdt,rdtL]
@[simp] theorem U7 (l:List (List Pt)):NwL (l.map (O1 .nw)):=V07 _ (fun _=>by simp) l
structure Room where
 topo:Topo
 up:List Bool
 profs:List (List Pt)
 lics:List Pt
 deriving DecidableEq,Inhabited
@[simp] def Ye (g:Tag)(x:Room):AV:=.agg [.sl g 1 (x.topo.parents.map eI),.sl g 4 (x.topo.nodes.map L2),.sl g 1 (x.up.map eBo),.sl g 1 (x.profs.map (O1 g)),.sl g 4 (x.lics.map ePt)]
end Go.Proofs.YtodafdoninblmaaGreat
