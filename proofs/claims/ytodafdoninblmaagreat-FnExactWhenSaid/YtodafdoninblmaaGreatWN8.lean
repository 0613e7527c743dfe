/-
  Lemmas, part 8: the engine that steps through the code, the walks of functions, and the laws of what they compute.
-/
import Derived.Test.YtodafdoninblmaaGreatWN7
import Derived.Test.YtodafdoninblmaaGreatRows
namespace Go.Proofs.YtodafdoninblmaaGreat
open Go Go.RowKit Eng
def Zy5:Nat:=7
def Znd:Nat:=13
def ZB6:Nat:=15
def ZQa:Nat:=16
def Zod:Nat:=18
def ZVa:Nat:=19
def Zg9:Nat:=24
def Zpj:Nat:=31
def Zqj:Nat:=32
def Zig:Nat:=37
def ZRa:Nat:=46
def ZQ9:Nat:=47
def ZSa:Nat:=48
def ZYe:Nat:=49
def ZTa:Nat:=50
def ZN9:Nat:=51
def ZI9:Nat:=53
def ZUe:Nat:=54
def Zmd:Nat:=55
def ZQ4:Nat:=56
def ZWe:Nat:=57
def ZVe:Nat:=58
def ZXe:Nat:=59
def ZT9:Nat:=60
def ZZe:Nat:=62
def Zqd:Nat:=63
def ZR4:Nat:=64
def Z1f:Nat:=65
def Z0f:Nat:=66
def Z2f:Nat:=67
def ZNa:Nat:=78
def Zsc:Nat:=79
def Z1b:Nat:=80
def ZBc:Nat:=81
def Zo4:Nat:=93
def Zjd:Nat:=94
def Zid:Nat:=95
def ZQ6:Nat:=96
def ZS4:Nat:=99
def Zmg:Nat:=100
def Zqb:Nat:=101
def ZJ8:Nat:=107
def Zog:Nat:=108
def Zfg:Nat:=109
def Zs5:Nat:=112
def ZX2:Nat:=114
def Zrd:Nat:=116
def ZO7:Nat:=117
def ZP9:Nat:=118
def Zuc:Nat:=119
def Zy6:Nat:=120
def Z11:Nat:=121
def ZSe:Nat:=122
def ZH3:Nat:=123
def Zld:Nat:=124
def Zjg:Nat:=125
def Ztc:Nat:=126
def Ze:Nat:=127
def ZU9:Nat:=128
def ZM8:Nat:=129
def ZR6:Nat:=130
def Z5f:Nat:=131
def Z31:Nat:=133
def Zpd:Nat:=134
def Zh9:Nat:=135
def Zkg:Nat:=136
def Zvc:Nat:=137
def Zmc:Nat:=140
def Z21:Nat:=141
def ZL9:Nat:=142
def ZO9:Nat:=143
def Zw5:Nat:=144
def Znc:Nat:=145
def ZRe:Nat:=146
def ZP7:Nat:=147
def ZZ:Nat:=148
def ZJ1:Nat:=149
def Zng:Nat:=150
def Zxc:Nat:=151
def Zy2:Nat:=152
def ZQ7:Nat:=153
def ZS:Nat:=154
def Z81:Nat:=155
def ZC6:Nat:=156
def Ze6:Nat:=157
def Z4f:Nat:=158
def Zyc:Nat:=159
def ZN7:Nat:=161
def Zz5:Nat:=178
def ZR:Nat:=179
def ZG:Nat:=181
def Z54:Nat:=182
def ZWa:Nat:=186
def ZS9:Nat:=187
def Zpg:Nat:=188
def ZM1:Nat:=189
def Z34:Nat:=190
def Zgg:Nat:=191
def ZOa:Nat:=193
def ZQe:Nat:=194
def Z2b:Nat:=195
def Ze1:Nat:=196
def Zx6:Nat:=197
def Zt5:Nat:=198
def Zqc:Nat:=199
def ZPa:Nat:=200
def Zr1:Nat:=201
def Z22:Nat:=202
def Z3f:Nat:=203
def Zj9:Nat:=204
def ZL8:Nat:=205
def ZAc:Nat:=206
def ZB5:Nat:=207
def ZUa:Nat:=208
def Zz6:Nat:=209
def ZM9:Nat:=210
def ZH8:Nat:=211
def Zx5:Nat:=212
def ZJ9:Nat:=213
def ZA6:Nat:=214
def Z44:Nat:=215
def ZTe:Nat:=216
def Zrc:Nat:=217
def ZYa:Nat:=218
def ZD6:Nat:=219
def Zk9:Nat:=220
def Zzc:Nat:=221
def ZR7:Nat:=222
def ZXa:Nat:=223
def ZN8:Nat:=224
def Zl1:Nat:=225
def ZZa:Nat:=226
def Zl7:Nat:=228
def Z0b:Nat:=229
def Zwc:Nat:=230
def Zh2:Nat:=231
def ZK8:Nat:=232
def Zu5:Nat:=236
def ZS2:Nat:=247
def ZH9:Nat:=248
def Zhg:Nat:=249
def Zlg:Nat:=250
def Zsd:Nat:=251
def ZK9:Nat:=252
def Zpb:Nat:=253
def Zpc:Nat:=254
def ZLa:Nat:=255
def Zob:Nat:=256
def Zl3:Nat:=257
def Zkd:Nat:=258
def ZI8:Nat:=259
def Zi9:Nat:=260
def Zk7:Nat:=278
def Z61:Nat:=279
def ZR9:Nat:=280
def Zoc:Nat:=281
def ZMa:Nat:=282
def ZKa:Nat:=283
def Zv5:Nat:=284
theorem Tryz.own:ownKnob Tryz.prog.godebug=none:=by kernel_rfl
theorem Tryz.laidOut:laidOutB Tryz.prog=true:=by kernel_rfl
namespace Eng
theorem Zt7{α:Type}(e:α->AV)(h:∀x,(e x).rdt=e x)(l:List α):rdtL (l.map e)=l.map e:=by
 rw[Zs,List.map_map]
 exact List.map_congr_left fun x _=>h x
theorem ZJa{α:Type}(e:α->AV)(h:∀x,Nw (e x))(l:List α):NwL (l.map e):=by
 rw[ZIa]
 intro a ha
 obtain⟨x,_,rfl⟩:=yY ha
 exact h x
attribute [simp] wop.eq_38 wop.eq_40 St.hi St.lo
end Eng
def szr(n:Int)(c:Nat):Int:=if n<c then -1 else n-c
def w64(n:Int):Int:=IntKind.i64.wrap n
@[simp] def eI (n:Int):AV:=.int .i64 n
@[simp] theorem rdt_IS (l:List Int):rdtL (l.map eI)=l.map eI:=Zt7 _ (fun _=>rfl) l
@[simp] theorem nw_IS (l:List Int):NwL (l.map eI):=ZJa _ (fun _=>by simp) l
@[simp] def eB (n:Int):AV:=.int .u8 n
@[simp] theorem rdt_BS (l:List Int):rdtL (l.map eB)=l.map eB:=Zt7 _ (fun _=>rfl) l
@[simp] def eBo (b:Bool):AV:=.bool b
@[simp] theorem rdt_BoS (l:List Bool):rdtL (l.map eBo)=l.map eBo:=Zt7 _ (fun _=>rfl) l
@[simp] theorem Zzv (l:List Bool):NwL (l.map eBo):=ZJa _ (fun _=>by simp) l
@[simp] theorem noO_I (l:List Int):noOL (l.map eI):=Zu7 _ (fun _=>by simp) l
theorem nw_I(l:List Int):NwL (l.map eI):=nw_IS l
@[simp] theorem noO_Bo (l:List Bool):noOL (l.map eBo):=Zu7 _ (fun _=>by simp) l
theorem ZH2(l:List Bool):NwL (l.map eBo):=Zzv l
structure Vec where
 a:Int
 b:Int
 c:Int
 deriving DecidableEq,Inhabited
@[simp] def eVec (x:Vec):AV:=.agg [.int .i64 x.a,.int .i64 x.b,.int .i64 x.c]
@[simp] theorem Zhw (l:List Vec):rdtL (l.map eVec)=l.map eVec:=Zt7 _ (fun _=>rfl) l
structure Node where
 leaf:Int
 cap:Vec
 deriving DecidableEq,Inhabited
@[simp] def Zf (x:Node):AV:=.agg [.int .i64 x.leaf,.int .i64 x.cap.a,.int .i64 x.cap.b,.int .i64 x.cap.c]
@[simp] theorem ZEv (l:List Node):noOL (l.map Zf):=Zu7 _ (fun _=>by simp) l
@[simp] theorem Zov (l:List Node):rdtL (l.map Zf)=l.map Zf:=Zt7 _ (fun _=>rfl) l
@[simp] theorem Zss (l:List Node):NwL (l.map Zf):=ZJa _ (fun _=>by simp) l
theorem Zx(l:List Node):NwL (l.map Zf):=Zss l
structure Topo where
 parents:List Int
 nodes:List Node
 deriving DecidableEq,Inhabited
@[simp] def Zy (g:Tag)(x:Topo):AV:=.agg [.sl g 1 (x.parents.map eI),.sl g 4 (x.nodes.map Zf)]
structure Job where
 id:Int
 prio:Int
 nodes:Int
 need:Vec
 lic:Vec
 wall:Int
 level:Int
 deriving DecidableEq,Inhabited
@[simp] def eJob (x:Job):AV:=.agg [.int .i64 x.id,.int .i64 x.prio,.int .i64 x.nodes,.int .i64 x.need.a,.int .i64 x.need.b,.int .i64 x.need.c,.int .i64 x.lic.a,.int .i64 x.lic.b,.int .i64 x.lic.c,.int .i64 x.wall,.int .i64 x.level]
@[simp] theorem Zlw (l:List Job):noOL (l.map eJob):=Zu7 _ (fun _=>by simp) l
@[simp] theorem Zjw (l:List Job):rdtL (l.map eJob)=l.map eJob:=Zt7 _ (fun _=>rfl) l
@[simp] theorem Z5u (l:List Job):NwL (l.map eJob):=ZJa _ (fun _=>by simp) l
theorem Z93(l:List Job):NwL (l.map eJob):=Z5u l
structure Run where
 job:Job
 t:Int
 nodes:List Int
 deriving DecidableEq,Inhabited
@[simp] def Za (g:Tag)(x:Run):AV:=.agg [.int .i64 x.job.id,.int .i64 x.job.prio,.int .i64 x.job.nodes,.int .i64 x.job.need.a,.int .i64 x.job.need.b,.int .i64 x.job.need.c,.int .i64 x.job.lic.a,.int .i64 x.job.lic.b,.int .i64 x.job.lic.c,.int .i64 x.job.wall,.int .i64 x.job.level,.int .i64 x.t,.sl g 1 (x.nodes.map eI)]
@[simp] theorem Ziw (g:Tag)(l:List Run):rdtL (l.map (Za g))=l.map (Za .rd):=by
 rw[Zs,List.map_map];exact List.map_congr_left fun x _=>by simp[AV.rdt,rdtL]
@[simp] theorem Z83 (l:List Run):NwL (l.map (Za .nw)):=ZJa _ (fun _=>by simp) l
@[simp] theorem Z7u (l:List Run):noOL (l.map (Za .nw)):=Zu7 _ (fun _=>by simp) l
structure End where
 id:Int
 t:Int
 why:Int
 deriving DecidableEq,Inhabited
@[simp] def eEnd (x:End):AV:=.agg [.int .i64 x.id,.int .i64 x.t,.int .i64 x.why]
@[simp] theorem Zmw (l:List End):noOL (l.map eEnd):=Zu7 _ (fun _=>by simp) l
@[simp] theorem Zkw (l:List End):rdtL (l.map eEnd)=l.map eEnd:=Zt7 _ (fun _=>rfl) l
@[simp] theorem Z6u (l:List End):NwL (l.map eEnd):=ZJa _ (fun _=>by simp) l
theorem ZG6(l:List End):NwL (l.map eEnd):=Z6u l
structure State where
 topo:Topo
 up:List Bool
 lic:Vec
 depth:Int
 now:Int
 queue:List Job
 runs:List Run
 ends:List End
 deriving DecidableEq,Inhabited
@[simp] def Zn (g:Tag)(x:State):AV:=.agg [.sl g 1 (x.topo.parents.map eI),.sl g 4 (x.topo.nodes.map Zf),.sl g 1 (x.up.map eBo),.int .i64 x.lic.a,.int .i64 x.lic.b,.int .i64 x.lic.c,.int .i64 x.depth,.int .i64 x.now,.sl g 11 (x.queue.map eJob),.sl g 13 (x.runs.map (Za g)),.sl g 3 (x.ends.map eEnd)]
structure Pt where
 t:Int
 free:Vec
 deriving DecidableEq,Inhabited
@[simp] def ePt (x:Pt):AV:=.agg [.int .i64 x.t,.int .i64 x.free.a,.int .i64 x.free.b,.int .i64 x.free.c]
@[simp] theorem noO_PtS (l:List Pt):noOL (l.map ePt):=Zu7 _ (fun _=>by simp) l
@[simp] theorem rdt_PtS (l:List Pt):rdtL (l.map ePt)=l.map ePt:=Zt7 _ (fun _=>rfl) l
@[simp] theorem Zyv (l:List Pt):NwL (l.map ePt):=ZJa _ (fun _=>by simp) l
theorem ZG2(l:List Pt):NwL (l.map ePt):=Zyv l
@[simp] def Zg (g:Tag)(x:List Pt):AV:=.agg [.sl g 4 (x.map ePt)]
@[simp] theorem Znv (g:Tag)(l:List (List Pt)):rdtL (l.map (Zg g))=l.map (Zg .rd):=by
 rw[Zs,List.map_map];exact List.map_congr_left fun x _=>by simp[AV.rdt,rdtL]
@[simp] theorem Zb1 (l:List (List Pt)):NwL (l.map (Zg .nw)):=ZJa _ (fun _=>by simp) l
@[simp] theorem Zdt (l:List (List Pt)):noOL (l.map (Zg .nw)):=Zu7 _ (fun _=>by simp) l
structure Room where
 topo:Topo
 up:List Bool
 profs:List (List Pt)
 lics:List Pt
 deriving DecidableEq,Inhabited
@[simp] def Zq1 (g:Tag)(x:Room):AV:=.agg [.sl g 1 (x.topo.parents.map eI),.sl g 4 (x.topo.nodes.map Zf),.sl g 1 (x.up.map eBo),.sl g 1 (x.profs.map (Zg g)),.sl g 4 (x.lics.map ePt)]
structure Seen where
 id:Int
 start:Int
 fin:Int
 deriving DecidableEq,Inhabited
@[simp] def ZG3 (x:Seen):AV:=.agg [.int .i64 x.id,.int .i64 x.start,.int .i64 x.fin]
@[simp] theorem ZDv (l:List Seen):noOL (l.map ZG3):=Zu7 _ (fun _=>by simp) l
@[simp] theorem Zmv (l:List Seen):rdtL (l.map ZG3)=l.map ZG3:=Zt7 _ (fun _=>rfl) l
@[simp] theorem Zrs (l:List Seen):NwL (l.map ZG3):=ZJa _ (fun _=>by simp) l
theorem ZPh(l:List Seen):NwL (l.map ZG3):=Zrs l
structure Held where
 id:Int
 t:Int
 nodes:List Int
 deriving DecidableEq,Inhabited
@[simp] def ZI3 (g:Tag)(x:Held):AV:=.agg [.int .i64 x.id,.int .i64 x.t,.sl g 1 (x.nodes.map eI)]
end Go.Proofs.YtodafdoninblmaaGreat
