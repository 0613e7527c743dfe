/-
  Lemmas, part 8: the engine that steps through the code, the walks of functions, and the laws of what they compute.
-/
import Derived.Test.YtodafdoninblmaaGreatMS7
import Derived.Test.YtodafdoninblmaaGreatRows
namespace Go.Proofs.YtodafdoninblmaaGreat
open Go Go.RowKit Eng
def ZV2:Nat:=8
def Zvd:Nat:=13
def ZF6:Nat:=15
def ZWa:Nat:=16
def Zwd:Nat:=18
def Z1b:Nat:=19
def Zj9:Nat:=24
def Zxc:Nat:=33
def ZIc:Nat:=34
def Zmg:Nat:=37
def ZXa:Nat:=46
def ZT9:Nat:=47
def ZYa:Nat:=48
def Z1f:Nat:=49
def ZZa:Nat:=50
def ZQ9:Nat:=51
def ZL9:Nat:=53
def ZXe:Nat:=54
def Zud:Nat:=55
def ZS4:Nat:=56
def ZZe:Nat:=57
def ZYe:Nat:=58
def Z0f:Nat:=59
def ZW9:Nat:=60
def Z2f:Nat:=62
def Zyd:Nat:=63
def ZT4:Nat:=64
def Z4f:Nat:=65
def Z3f:Nat:=66
def Z5f:Nat:=67
def ZTa:Nat:=78
def Zzc:Nat:=79
def Z7b:Nat:=80
def ZJc:Nat:=81
def Zq4:Nat:=93
def Zrd:Nat:=94
def Zqd:Nat:=95
def ZU6:Nat:=96
def ZU4:Nat:=99
def Zqg:Nat:=100
def Zwb:Nat:=101
def ZM8:Nat:=107
def Zsg:Nat:=108
def Zjg:Nat:=109
def Zv5:Nat:=112
def ZZ2:Nat:=114
def Zzd:Nat:=116
def ZR7:Nat:=117
def ZS9:Nat:=118
def ZBc:Nat:=119
def ZC6:Nat:=120
def Z11:Nat:=121
def ZVe:Nat:=122
def ZK3:Nat:=123
def Ztd:Nat:=124
def Zng:Nat:=125
def ZAc:Nat:=126
def Ze:Nat:=127
def ZX9:Nat:=128
def ZP8:Nat:=129
def ZV6:Nat:=130
def Z8f:Nat:=131
def Z31:Nat:=133
def Zxd:Nat:=134
def Zk9:Nat:=135
def Zog:Nat:=136
def ZCc:Nat:=137
def Zsc:Nat:=140
def Z21:Nat:=141
def ZO9:Nat:=142
def ZR9:Nat:=143
def Zz5:Nat:=144
def Ztc:Nat:=145
def ZUe:Nat:=146
def ZS7:Nat:=147
def ZZ:Nat:=148
def ZJ1:Nat:=149
def Zrg:Nat:=150
def ZEc:Nat:=151
def Zy2:Nat:=152
def ZT7:Nat:=153
def ZS:Nat:=154
def Z81:Nat:=155
def ZG6:Nat:=156
def Zi6:Nat:=157
def Z7f:Nat:=158
def ZFc:Nat:=159
def ZQ7:Nat:=161
def ZB5:Nat:=178
def ZR:Nat:=179
def ZG:Nat:=181
def Z84:Nat:=182
def Z2b:Nat:=186
def ZV9:Nat:=187
def Ztg:Nat:=188
def ZM1:Nat:=189
def Z64:Nat:=190
def Zkg:Nat:=191
def ZUa:Nat:=193
def ZTe:Nat:=194
def Z8b:Nat:=195
def Ze1:Nat:=196
def ZB6:Nat:=197
def Zw5:Nat:=198
def Zwc:Nat:=199
def ZVa:Nat:=200
def Zr1:Nat:=201
def Z12:Nat:=202
def Z6f:Nat:=203
def Zm9:Nat:=204
def ZO8:Nat:=205
def ZHc:Nat:=206
def ZD5:Nat:=207
def Z0b:Nat:=208
def ZD6:Nat:=209
def ZP9:Nat:=210
def ZK8:Nat:=211
def ZA5:Nat:=212
def ZM9:Nat:=213
def ZE6:Nat:=214
def Z74:Nat:=215
def ZWe:Nat:=216
def Zyc:Nat:=217
def Z4b:Nat:=218
def ZH6:Nat:=219
def Zn9:Nat:=220
def ZGc:Nat:=221
def ZU7:Nat:=222
def Z3b:Nat:=223
def ZQ8:Nat:=224
def Zl1:Nat:=225
def Z5b:Nat:=226
def Zp7:Nat:=228
def Z6b:Nat:=229
def ZDc:Nat:=230
def Zh2:Nat:=231
def ZN8:Nat:=232
def Zx5:Nat:=236
def ZT2:Nat:=247
def ZK9:Nat:=248
def Zlg:Nat:=249
def Zpg:Nat:=250
def ZAd:Nat:=251
def ZN9:Nat:=252
def Zvb:Nat:=253
def Zvc:Nat:=254
def ZRa:Nat:=255
def Zub:Nat:=256
def Zo3:Nat:=257
def Zsd:Nat:=258
def ZL8:Nat:=259
def Zl9:Nat:=260
def Zo7:Nat:=278
def Z61:Nat:=279
def ZU9:Nat:=280
def Zuc:Nat:=281
def ZSa:Nat:=282
def ZQa:Nat:=283
def Zy5:Nat:=284
theorem Tryz.own:ownKnob Tryz.prog.godebug=none:=by kernel_rfl
theorem Tryz.laidOut:laidOutB Tryz.prog=true:=by kernel_rfl
namespace Eng
theorem Zw7{α:Type}(e:α->AV)(h:∀x,(e x).rdt=e x)(l:List α):rdtL (l.map e)=l.map e:=by
 rw[Zs,List.map_map]
 exact List.map_congr_left fun x _=>h x
theorem ZPa{α:Type}(e:α->AV)(h:∀x,Nw (e x))(l:List α):NwL (l.map e):=by
 rw[ZOa]
 intro a ha
 obtain⟨x,_,rfl⟩:=yY ha
 exact h x
attribute [simp] wop.eq_38 wop.eq_40 St.hi St.lo
end Eng
def szr(n:Int)(c:Nat):Int:=if n<c then -1 else n-c
def w64(n:Int):Int:=IntKind.i64.wrap n
@[simp] def eI (n:Int):AV:=.int .i64 n
@[simp] theorem rdt_IS (l:List Int):rdtL (l.map eI)=l.map eI:=Zw7 _ (fun _=>rfl) l
@[simp] theorem nw_IS (l:List Int):NwL (l.map eI):=ZPa _ (fun _=>by simp) l
@[simp] def eB (n:Int):AV:=.int .u8 n
@[simp] theorem rdt_BS (l:List Int):rdtL (l.map eB)=l.map eB:=Zw7 _ (fun _=>rfl) l
@[simp] def eBo (b:Bool):AV:=.bool b
@[simp] theorem rdt_BoS (l:List Bool):rdtL (l.map eBo)=l.map eBo:=Zw7 _ (fun _=>rfl) l
@[simp] theorem Zyv (l:List Bool):NwL (l.map eBo):=ZPa _ (fun _=>by simp) l
@[simp] theorem noO_I (l:List Int):noOL (l.map eI):=Zx7 _ (fun _=>by simp) l
theorem nw_I(l:List Int):NwL (l.map eI):=nw_IS l
@[simp] theorem noO_Bo (l:List Bool):noOL (l.map eBo):=Zx7 _ (fun _=>by simp) l
theorem ZI2(l:List Bool):NwL (l.map eBo):=Zyv l
structure Vec where
 a:Int
 b:Int
 c:Int
 deriving DecidableEq,Inhabited
@[simp] def eVec (x:Vec):AV:=.agg [.int .i64 x.a,.int .i64 x.b,.int .i64 x.c]
@[simp] theorem Zgw (l:List Vec):rdtL (l.map eVec)=l.map eVec:=Zw7 _ (fun _=>rfl) l
structure Node where
 leaf:Int
 cap:Vec
 deriving DecidableEq,Inhabited
@[simp] def Zf (x:Node):AV:=.agg [.int .i64 x.leaf,.int .i64 x.cap.a,.int .i64 x.cap.b,.int .i64 x.cap.c]
@[simp] theorem ZDv (l:List Node):noOL (l.map Zf):=Zx7 _ (fun _=>by simp) l
@[simp] theorem Znv (l:List Node):rdtL (l.map Zf)=l.map Zf:=Zw7 _ (fun _=>rfl) l
@[simp] theorem Zts (l:List Node):NwL (l.map Zf):=ZPa _ (fun _=>by simp) l
theorem Zx(l:List Node):NwL (l.map Zf):=Zts l
structure Topo where
 parents:List Int
 nodes:List Node
 deriving DecidableEq,Inhabited
@[simp] def Zy (g:Tag)(x:Topo):AV:=.agg [.sl g 1 (x.parents.map eI),.sl g 4 (x.nodes.map Zf)]
structure Job where
 id:Int
 prio:Int
 nodes:Int
 need:Vec
 lic:Vec
 wall:Int
 level:Int
 deriving DecidableEq,Inhabited
@[simp] def eJob (x:Job):AV:=.agg [.int .i64 x.id,.int .i64 x.prio,.int .i64 x.nodes,.int .i64 x.need.a,.int .i64 x.need.b,.int .i64 x.need.c,.int .i64 x.lic.a,.int .i64 x.lic.b,.int .i64 x.lic.c,.int .i64 x.wall,.int .i64 x.level]
@[simp] theorem Zkw (l:List Job):noOL (l.map eJob):=Zx7 _ (fun _=>by simp) l
@[simp] theorem Ziw (l:List Job):rdtL (l.map eJob)=l.map eJob:=Zw7 _ (fun _=>rfl) l
@[simp] theorem Z6u (l:List Job):NwL (l.map eJob):=ZPa _ (fun _=>by simp) l
theorem Zc3(l:List Job):NwL (l.map eJob):=Z6u l
structure Run where
 job:Job
 t:Int
 nodes:List Int
 deriving DecidableEq,Inhabited
@[simp] def Za (g:Tag)(x:Run):AV:=.agg [.int .i64 x.job.id,.int .i64 x.job.prio,.int .i64 x.job.nodes,.int .i64 x.job.need.a,.int .i64 x.job.need.b,.int .i64 x.job.need.c,.int .i64 x.job.lic.a,.int .i64 x.job.lic.b,.int .i64 x.job.lic.c,.int .i64 x.job.wall,.int .i64 x.job.level,.int .i64 x.t,.sl g 1 (x.nodes.map eI)]
@[simp] theorem Zhw (g:Tag)(l:List Run):rdtL (l.map (Za g))=l.map (Za .rd):=by
 rw[Zs,List.map_map];exact List.map_congr_left fun x _=>by simp[AV.rdt,rdtL]
@[simp] theorem Zb3 (l:List Run):NwL (l.map (Za .nw)):=ZPa _ (fun _=>by simp) l
@[simp] theorem Z8u (l:List Run):noOL (l.map (Za .nw)):=Zx7 _ (fun _=>by simp) l
structure End where
 id:Int
 t:Int
 why:Int
 deriving DecidableEq,Inhabited
@[simp] def eEnd (x:End):AV:=.agg [.int .i64 x.id,.int .i64 x.t,.int .i64 x.why]
@[simp] theorem Zlw (l:List End):noOL (l.map eEnd):=Zx7 _ (fun _=>by simp) l
@[simp] theorem Zjw (l:List End):rdtL (l.map eEnd)=l.map eEnd:=Zw7 _ (fun _=>rfl) l
@[simp] theorem Z7u (l:List End):NwL (l.map eEnd):=ZPa _ (fun _=>by simp) l
theorem ZK6(l:List End):NwL (l.map eEnd):=Z7u l
structure State where
 topo:Topo
 up:List Bool
 lic:Vec
 depth:Int
 now:Int
 queue:List Job
 runs:List Run
 ends:List End
 deriving DecidableEq,Inhabited
@[simp] def Zn (g:Tag)(x:State):AV:=.agg [.sl g 1 (x.topo.parents.map eI),.sl g 4 (x.topo.nodes.map Zf),.sl g 1 (x.up.map eBo),.int .i64 x.lic.a,.int .i64 x.lic.b,.int .i64 x.lic.c,.int .i64 x.depth,.int .i64 x.now,.sl g 11 (x.queue.map eJob),.sl g 13 (x.runs.map (Za g)),.sl g 3 (x.ends.map eEnd)]
structure Pt where
 t:Int
 free:Vec
 deriving DecidableEq,Inhabited
@[simp] def ePt (x:Pt):AV:=.agg [.int .i64 x.t,.int .i64 x.free.a,.int .i64 x.free.b,.int .i64 x.free.c]
@[simp] theorem noO_PtS (l:List Pt):noOL (l.map ePt):=Zx7 _ (fun _=>by simp) l
@[simp] theorem rdt_PtS (l:List Pt):rdtL (l.map ePt)=l.map ePt:=Zw7 _ (fun _=>rfl) l
@[simp] theorem Zxv (l:List Pt):NwL (l.map ePt):=ZPa _ (fun _=>by simp) l
theorem ZH2(l:List Pt):NwL (l.map ePt):=Zxv l
@[simp] def Zg (g:Tag)(x:List Pt):AV:=.agg [.sl g 4 (x.map ePt)]
@[simp] theorem Zmv (g:Tag)(l:List (List Pt)):rdtL (l.map (Zg g))=l.map (Zg .rd):=by
 rw[Zs,List.map_map];exact List.map_congr_left fun x _=>by simp[AV.rdt,rdtL]
@[simp] theorem Zb1 (l:List (List Pt)):NwL (l.map (Zg .nw)):=ZPa _ (fun _=>by simp) l
@[simp] theorem Zet (l:List (List Pt)):noOL (l.map (Zg .nw)):=Zx7 _ (fun _=>by simp) l
structure Room where
 topo:Topo
 up:List Bool
 profs:List (List Pt)
 lics:List Pt
 deriving DecidableEq,Inhabited
@[simp] def Zq1 (g:Tag)(x:Room):AV:=.agg [.sl g 1 (x.topo.parents.map eI),.sl g 4 (x.topo.nodes.map Zf),.sl g 1 (x.up.map eBo),.sl g 1 (x.profs.map (Zg g)),.sl g 4 (x.lics.map ePt)]
structure Seen where
 id:Int
 start:Int
 fin:Int
 deriving DecidableEq,Inhabited
@[simp] def ZJ3 (x:Seen):AV:=.agg [.int .i64 x.id,.int .i64 x.start,.int .i64 x.fin]
@[simp] theorem ZCv (l:List Seen):noOL (l.map ZJ3):=Zx7 _ (fun _=>by simp) l
@[simp] theorem Zlv (l:List Seen):rdtL (l.map ZJ3)=l.map ZJ3:=Zw7 _ (fun _=>rfl) l
@[simp] theorem Zss (l:List Seen):NwL (l.map ZJ3):=ZPa _ (fun _=>by simp) l
theorem ZXh(l:List Seen):NwL (l.map ZJ3):=Zss l
structure Held where
 id:Int
 t:Int
 nodes:List Int
 deriving DecidableEq,Inhabited
@[simp] def ZL3 (g:Tag)(x:Held):AV:=.agg [.int .i64 x.id,.int .i64 x.t,.sl g 1 (x.nodes.map eI)]
end Go.Proofs.YtodafdoninblmaaGreat
