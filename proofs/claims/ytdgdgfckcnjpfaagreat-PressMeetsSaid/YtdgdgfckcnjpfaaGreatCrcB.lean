/- The table of sums is made: the closure's walk. -/
import Derived.Test.YtdgdgfckcnjpfaaGreatProg
import Derived.Test.YtdgdgfckcnjpfaaGreatAbs6
namespace Go.Proofs.YtdgdgfckcnjpfaaGreat.Crc
open Go Go.RowKit Go.Proofs.YtdgdgfckcnjpfaaGreat.Abs
set_option maxRecDepth 100000
open Z
def tabL:List Int:=[0,1996959894,3993919788,2567524794,124634137,1886057615,3915621685,2657392035,249268274,2044508324,3772115230,2547177864,162941995,2125561021,3887607047,2428444049,498536548,1789927666,4089016648,2227061214,450548861,1843258603,4107580753,2211677639,325883990,1684777152,4251122042,2321926636,335633487,1661365465,4195302755,2366115317,997073096,1281953886,3579855332,2724688242,1006888145,1258607687,3524101629,2768942443,901097722,1119000684,3686517206,2898065728,853044451,1172266101,3705015759,2882616665,651767980,1373503546,3369554304,3218104598,565507253,1454621731,3485111705,3099436303,671266974,1594198024,3322730930,2970347812,795835527,1483230225,3244367275,3060149565,1994146192,31158534,2563907772,4023717930,1907459465,112637215,2680153253,3904427059,2013776290,251722036,2517215374,3775830040,2137656763,141376813,2439277719,3865271297,1802195444,476864866,2238001368,4066508878,1812370925,453092731,2181625025,4111451223,1706088902,314042704,2344532202,4240017532,1658658271,366619977,2362670323,4224994405,1303535960,984961486,2747007092,3569037538,1256170817,1037604311,2765210733,3554079995,1131014506,879679996,2909243462,3663771856,1141124467,855842277,2852801631,3708648649,1342533948,654459306,3188396048,3373015174,1466479909,544179635,3110523913,3462522015,1591671054,702138776,2966460450,3352799412,1504918807,783551873,3082640443,3233442989,3988292384,2596254646,62317068,1957810842,3939845945,2647816111,81470997,1943803523,3814918930,2489596804,225274430,2053790376,3826175755,2466906013,167816743,2097651377,4027552580,2265490386,503444072,1762050814,4150417245,2154129355,426522225,1852507879,4275313526,2312317920,282753626,1742555852,4189708143,2394877945,397917763,1622183637,3604390888,2714866558,953729732,1340076626,3518719985,2797360999,1068828381,1219638859,3624741850,2936675148,906185462,1090812512,3747672003,2825379669,829329135,1181335161,3412177804,3160834842,628085408,1382605366,3423369109,3138078467,570562233,1426400815,3317316542,2998733608,733239954,1555261956,3268935591,3050360625,752459403,1541320221,2607071920,3965973030,1969922972,40735498,2617837225,3943577151,1913087877,83908371,2512341634,3803740692,2075208622,213261112,2463272603,3855990285,2094854071,198958881,2262029012,4057260610,1759359992,534414190,2176718541,4139329115,1873836001,414664567,2282248934,4279200368,1711684554,285281116,2405801727,4167216745,1634467795,376229701,2685067896,3608007406,1308918612,956543938,2808555105,3495958263,1231636301,1047427035,2932959818,3654703836,1088359270,936918000,2847714899,3736837829,1202900863,817233897,3183342108,3401237130,1404277552,615818150,3134207493,3453421203,1423857449,601450431,3009837614,3294710456,1567103746,711928724,3020668471,3272380065,1510334235,755167117]
def mkC (a b:Int) (l:List Int):List PV:=nW a:: .d (.int .i32 b)::nW 0::l.map nW
def b67:AC:=(AC.seq (AC.reg [{ dst:=some 4,guard:=none,n:=100,op:=AOp.bin (BinOp.lss) (BT.int) (Opd.t 3) (Opd.c (PV.d (D.int (IntKind.i64) 256))) }]) (AC.seq (AC.cond (Opd.t 4) (AC.skip) (AC.exit 0)) (AC.seq (AC.block 1 (AC.seq (AC.reg [{ dst:=some 5,guard:=none,n:=200,op:=AOp.mov (Opd.t 3) },{ dst:=some 1,guard:=none,n:=201,op:=AOp.mov (Opd.t 5) }]) (AC.seq (AC.reg [{ dst:=some 6,guard:=none,n:=300,op:=AOp.mov (Opd.t 1) },{ dst:=some 7,guard:=none,n:=301,op:=AOp.convI (IntKind.u32) (Opd.t 6) },{ dst:=some 2,guard:=none,n:=302,op:=AOp.mov (Opd.t 7) }]) (AC.seq (AC.seq (AC.reg [{ dst:=some 8,guard:=none,n:=400,op:=AOp.mov (Opd.c (PV.d (D.int (IntKind.i64) 0))) }]) (AC.block 2 (AC.loop (AC.seq (AC.reg [{ dst:=some 9,guard:=none,n:=500,op:=AOp.bin (BinOp.lss) (BT.int) (Opd.t 8) (Opd.c (PV.d (D.int (IntKind.i64) 8))) }]) (AC.seq (AC.cond (Opd.t 9) (AC.skip) (AC.exit 2)) (AC.seq (AC.block 3 (AC.reg [{ dst:=some 10,guard:=none,n:=600,op:=AOp.mov (Opd.t 2) },{ dst:=some 11,guard:=none,n:=601,op:=AOp.bin (BinOp.shr) (BT.int) (Opd.t 10) (Opd.c (PV.d (D.int (IntKind.u64) 1))) },{ dst:=some 12,guard:=none,n:=602,op:=AOp.mov (Opd.t 2) },{ dst:=some 13,guard:=none,n:=603,op:=AOp.bin (BinOp.and) (BT.int) (Opd.t 12) (Opd.c (PV.d (D.int (IntKind.u32) 1))) },{ dst:=some 14,guard:=none,n:=604,op:=AOp.un (UnOp.neg) (Opd.t 13) },{ dst:=some 15,guard:=none,n:=605,op:=AOp.bin (BinOp.and) (BT.int) (Opd.c (PV.d (D.int (IntKind.u32) 3988292384))) (Opd.t 14) },{ dst:=some 16,guard:=none,n:=606,op:=AOp.bin (BinOp.xor) (BT.int) (Opd.t 11) (Opd.t 15) },{ dst:=some 2,guard:=none,n:=607,op:=AOp.mov (Opd.t 16) }])) (AC.reg [{ dst:=some 17,guard:=none,n:=700,op:=AOp.bin (BinOp.add) (BT.int) (Opd.t 8) (Opd.c (PV.d (D.int (IntKind.i64) 1))) },{ dst:=some 8,guard:=none,n:=701,op:=AOp.mov (Opd.t 17) }]))))))) (AC.reg [{ dst:=some 18,guard:=none,n:=800,op:=AOp.load false 1 (Opd.t 0) },{ dst:=some 19,guard:=none,n:=801,op:=AOp.mov (Opd.t 1) },{ dst:=some 20,guard:=none,n:=802,op:=AOp.mov (Opd.t 2) },{ dst:=some 21,guard:=none,n:=803,op:=AOp.nilck (Opd.t 18) },{ dst:=some 22,guard:=none,n:=804,op:=AOp.fieldA 3 (Opd.t 21) },{ dst:=some 23,guard:=none,n:=805,op:=AOp.idxAr 1 256 (Opd.t 22) (Opd.t 19) },{ dst:=none,guard:=none,n:=806,op:=AOp.store 1 (Opd.t 23) (Opd.t 20) }]))))) (AC.reg [{ dst:=some 24,guard:=none,n:=900,op:=AOp.bin (BinOp.add) (BT.int) (Opd.t 3) (Opd.c (PV.d (D.int (IntKind.i64) 1))) },{ dst:=some 3,guard:=none,n:=901,op:=AOp.mov (Opd.t 24) }]))))
def c67:AC:=AC.seq (AC.reg [{ dst:=some 3,guard:=none,n:=0,op:=AOp.mov (Opd.c (PV.d (D.int (IntKind.i64) 0))) }]) (AC.block 0 (AC.loop b67))
theorem fn67:fnA Tryz.prog 209=some (25,[],c67):=by kernel_rfl
def stT (i:Nat) (l:List Int):St:=⟨[(0, .ptr (.up (.s 1)) 0),(3,nI i)],[(.up (.s 0),mkC 0 1 l),(.up (.s 1),[.ptr (.up (.s 0)) 0])]⟩
def tabN (i:Nat):List Int:=tabL.take i++List.replicate (256-i) 0
theorem rounds67_0:(List.range 8).map (fun i=>advF 253 [.l b67, .b 0] .norm (stT (0+i) (tabN (0+i))) (stT (0+i+1) (tabN (0+i+1))))=(List.range 8).map (fun i=>some ([.l b67, .b 0], .norm,stT (0+i+1) (tabN (0+i+1)))):=by kernel_rfl
theorem rounds67_1:(List.range 8).map (fun i=>advF 253 [.l b67, .b 0] .norm (stT (8+i) (tabN (8+i))) (stT (8+i+1) (tabN (8+i+1))))=(List.range 8).map (fun i=>some ([.l b67, .b 0], .norm,stT (8+i+1) (tabN (8+i+1)))):=by kernel_rfl
theorem rounds67_2:(List.range 8).map (fun i=>advF 253 [.l b67, .b 0] .norm (stT (16+i) (tabN (16+i))) (stT (16+i+1) (tabN (16+i+1))))=(List.range 8).map (fun i=>some ([.l b67, .b 0], .norm,stT (16+i+1) (tabN (16+i+1)))):=by kernel_rfl
theorem rounds67_3:(List.range 8).map (fun i=>advF 253 [.l b67, .b 0] .norm (stT (24+i) (tabN (24+i))) (stT (24+i+1) (tabN (24+i+1))))=(List.range 8).map (fun i=>some ([.l b67, .b 0], .norm,stT (24+i+1) (tabN (24+i+1)))):=by kernel_rfl
theorem rounds67_4:(List.range 8).map (fun i=>advF 253 [.l b67, .b 0] .norm (stT (32+i) (tabN (32+i))) (stT (32+i+1) (tabN (32+i+1))))=(List.range 8).map (fun i=>some ([.l b67, .b 0], .norm,stT (32+i+1) (tabN (32+i+1)))):=by kernel_rfl
theorem rounds67_5:(List.range 8).map (fun i=>advF 253 [.l b67, .b 0] .norm (stT (40+i) (tabN (40+i))) (stT (40+i+1) (tabN (40+i+1))))=(List.range 8).map (fun i=>some ([.l b67, .b 0], .norm,stT (40+i+1) (tabN (40+i+1)))):=by kernel_rfl
theorem rounds67_6:(List.range 8).map (fun i=>advF 253 [.l b67, .b 0] .norm (stT (48+i) (tabN (48+i))) (stT (48+i+1) (tabN (48+i+1))))=(List.range 8).map (fun i=>some ([.l b67, .b 0], .norm,stT (48+i+1) (tabN (48+i+1)))):=by kernel_rfl
theorem rounds67_7:(List.range 8).map (fun i=>advF 253 [.l b67, .b 0] .norm (stT (56+i) (tabN (56+i))) (stT (56+i+1) (tabN (56+i+1))))=(List.range 8).map (fun i=>some ([.l b67, .b 0], .norm,stT (56+i+1) (tabN (56+i+1)))):=by kernel_rfl
theorem rounds67_8:(List.range 8).map (fun i=>advF 253 [.l b67, .b 0] .norm (stT (64+i) (tabN (64+i))) (stT (64+i+1) (tabN (64+i+1))))=(List.range 8).map (fun i=>some ([.l b67, .b 0], .norm,stT (64+i+1) (tabN (64+i+1)))):=by kernel_rfl
theorem rounds67_9:(List.range 8).map (fun i=>advF 253 [.l b67, .b 0] .norm (stT (72+i) (tabN (72+i))) (stT (72+i+1) (tabN (72+i+1))))=(List.range 8).map (fun i=>some ([.l b67, .b 0], .norm,stT (72+i+1) (tabN (72+i+1)))):=by kernel_rfl
theorem rounds67_10:(List.range 8).map (fun i=>advF 253 [.l b67, .b 0] .norm (stT (80+i) (tabN (80+i))) (stT (80+i+1) (tabN (80+i+1))))=(List.range 8).map (fun i=>some ([.l b67, .b 0], .norm,stT (80+i+1) (tabN (80+i+1)))):=by kernel_rfl
theorem rounds67_11:(List.range 8).map (fun i=>advF 253 [.l b67, .b 0] .norm (stT (88+i) (tabN (88+i))) (stT (88+i+1) (tabN (88+i+1))))=(List.range 8).map (fun i=>some ([.l b67, .b 0], .norm,stT (88+i+1) (tabN (88+i+1)))):=by kernel_rfl
theorem rounds67_12:(List.range 8).map (fun i=>advF 253 [.l b67, .b 0] .norm (stT (96+i) (tabN (96+i))) (stT (96+i+1) (tabN (96+i+1))))=(List.range 8).map (fun i=>some ([.l b67, .b 0], .norm,stT (96+i+1) (tabN (96+i+1)))):=by kernel_rfl
theorem rounds67_13:(List.range 8).map (fun i=>advF 253 [.l b67, .b 0] .norm (stT (104+i) (tabN (104+i))) (stT (104+i+1) (tabN (104+i+1))))=(List.range 8).map (fun i=>some ([.l b67, .b 0], .norm,stT (104+i+1) (tabN (104+i+1)))):=by kernel_rfl
theorem rounds67_14:(List.range 8).map (fun i=>advF 253 [.l b67, .b 0] .norm (stT (112+i) (tabN (112+i))) (stT (112+i+1) (tabN (112+i+1))))=(List.range 8).map (fun i=>some ([.l b67, .b 0], .norm,stT (112+i+1) (tabN (112+i+1)))):=by kernel_rfl
theorem rounds67_15:(List.range 8).map (fun i=>advF 253 [.l b67, .b 0] .norm (stT (120+i) (tabN (120+i))) (stT (120+i+1) (tabN (120+i+1))))=(List.range 8).map (fun i=>some ([.l b67, .b 0], .norm,stT (120+i+1) (tabN (120+i+1)))):=by kernel_rfl
theorem rounds67_16:(List.range 8).map (fun i=>advF 253 [.l b67, .b 0] .norm (stT (128+i) (tabN (128+i))) (stT (128+i+1) (tabN (128+i+1))))=(List.range 8).map (fun i=>some ([.l b67, .b 0], .norm,stT (128+i+1) (tabN (128+i+1)))):=by kernel_rfl
theorem rounds67_17:(List.range 8).map (fun i=>advF 253 [.l b67, .b 0] .norm (stT (136+i) (tabN (136+i))) (stT (136+i+1) (tabN (136+i+1))))=(List.range 8).map (fun i=>some ([.l b67, .b 0], .norm,stT (136+i+1) (tabN (136+i+1)))):=by kernel_rfl
theorem rounds67_18:(List.range 8).map (fun i=>advF 253 [.l b67, .b 0] .norm (stT (144+i) (tabN (144+i))) (stT (144+i+1) (tabN (144+i+1))))=(List.range 8).map (fun i=>some ([.l b67, .b 0], .norm,stT (144+i+1) (tabN (144+i+1)))):=by kernel_rfl
theorem rounds67_19:(List.range 8).map (fun i=>advF 253 [.l b67, .b 0] .norm (stT (152+i) (tabN (152+i))) (stT (152+i+1) (tabN (152+i+1))))=(List.range 8).map (fun i=>some ([.l b67, .b 0], .norm,stT (152+i+1) (tabN (152+i+1)))):=by kernel_rfl
theorem rounds67_20:(List.range 8).map (fun i=>advF 253 [.l b67, .b 0] .norm (stT (160+i) (tabN (160+i))) (stT (160+i+1) (tabN (160+i+1))))=(List.range 8).map (fun i=>some ([.l b67, .b 0], .norm,stT (160+i+1) (tabN (160+i+1)))):=by kernel_rfl
theorem rounds67_21:(List.range 8).map (fun i=>advF 253 [.l b67, .b 0] .norm (stT (168+i) (tabN (168+i))) (stT (168+i+1) (tabN (168+i+1))))=(List.range 8).map (fun i=>some ([.l b67, .b 0], .norm,stT (168+i+1) (tabN (168+i+1)))):=by kernel_rfl
theorem rounds67_22:(List.range 8).map (fun i=>advF 253 [.l b67, .b 0] .norm (stT (176+i) (tabN (176+i))) (stT (176+i+1) (tabN (176+i+1))))=(List.range 8).map (fun i=>some ([.l b67, .b 0], .norm,stT (176+i+1) (tabN (176+i+1)))):=by kernel_rfl
theorem rounds67_23:(List.range 8).map (fun i=>advF 253 [.l b67, .b 0] .norm (stT (184+i) (tabN (184+i))) (stT (184+i+1) (tabN (184+i+1))))=(List.range 8).map (fun i=>some ([.l b67, .b 0], .norm,stT (184+i+1) (tabN (184+i+1)))):=by kernel_rfl
theorem rounds67_24:(List.range 8).map (fun i=>advF 253 [.l b67, .b 0] .norm (stT (192+i) (tabN (192+i))) (stT (192+i+1) (tabN (192+i+1))))=(List.range 8).map (fun i=>some ([.l b67, .b 0], .norm,stT (192+i+1) (tabN (192+i+1)))):=by kernel_rfl
theorem rounds67_25:(List.range 8).map (fun i=>advF 253 [.l b67, .b 0] .norm (stT (200+i) (tabN (200+i))) (stT (200+i+1) (tabN (200+i+1))))=(List.range 8).map (fun i=>some ([.l b67, .b 0], .norm,stT (200+i+1) (tabN (200+i+1)))):=by kernel_rfl
theorem rounds67_26:(List.range 8).map (fun i=>advF 253 [.l b67, .b 0] .norm (stT (208+i) (tabN (208+i))) (stT (208+i+1) (tabN (208+i+1))))=(List.range 8).map (fun i=>some ([.l b67, .b 0], .norm,stT (208+i+1) (tabN (208+i+1)))):=by kernel_rfl
theorem rounds67_27:(List.range 8).map (fun i=>advF 253 [.l b67, .b 0] .norm (stT (216+i) (tabN (216+i))) (stT (216+i+1) (tabN (216+i+1))))=(List.range 8).map (fun i=>some ([.l b67, .b 0], .norm,stT (216+i+1) (tabN (216+i+1)))):=by kernel_rfl
theorem rounds67_28:(List.range 8).map (fun i=>advF 253 [.l b67, .b 0] .norm (stT (224+i) (tabN (224+i))) (stT (224+i+1) (tabN (224+i+1))))=(List.range 8).map (fun i=>some ([.l b67, .b 0], .norm,stT (224+i+1) (tabN (224+i+1)))):=by kernel_rfl
theorem rounds67_29:(List.range 8).map (fun i=>advF 253 [.l b67, .b 0] .norm (stT (232+i) (tabN (232+i))) (stT (232+i+1) (tabN (232+i+1))))=(List.range 8).map (fun i=>some ([.l b67, .b 0], .norm,stT (232+i+1) (tabN (232+i+1)))):=by kernel_rfl
theorem rounds67_30:(List.range 8).map (fun i=>advF 253 [.l b67, .b 0] .norm (stT (240+i) (tabN (240+i))) (stT (240+i+1) (tabN (240+i+1))))=(List.range 8).map (fun i=>some ([.l b67, .b 0], .norm,stT (240+i+1) (tabN (240+i+1)))):=by kernel_rfl
theorem rounds67_31:(List.range 8).map (fun i=>advF 253 [.l b67, .b 0] .norm (stT (248+i) (tabN (248+i))) (stT (248+i+1) (tabN (248+i+1))))=(List.range 8).map (fun i=>some ([.l b67, .b 0], .norm,stT (248+i+1) (tabN (248+i+1)))):=by kernel_rfl
theorem chunk67 {a:Nat} (hr:(List.range 8).map (fun i=>advF 253 [.l b67, .b 0] .norm (stT (a+i) (tabN (a+i))) (stT (a+i+1) (tabN (a+i+1))))=(List.range 8).map (fun i=>some ([.l b67, .b 0], .norm,stT (a+i+1) (tabN (a+i+1)))))
  {i:Nat} (h1:a≤i) (h2:i<a+8):advF 253 [.l b67, .b 0] .norm (stT i (tabN i)) (stT (i+1) (tabN (i+1)))=some ([.l b67, .b 0], .norm,stT (i+1) (tabN (i+1))):=by
 have:=List.map_eq_map_iff.1 hr (i-a) (List.mem_range.2 (by omega))
 rwa [show a+(i-a)=i by omega] at this
theorem round67 {i:Nat} (h:i<256):advF 253 [.l b67, .b 0] .norm (stT i (tabN i)) (stT (i+1) (tabN (i+1)))=some ([.l b67, .b 0], .norm,stT (i+1) (tabN (i+1))):=by
 by_cases h0:i<8
 ·exact chunk67 rounds67_0 (by omega) (by omega)
 by_cases h1:i<16
 ·exact chunk67 rounds67_1 (by omega) (by omega)
 by_cases h2:i<24
 ·exact chunk67 rounds67_2 (by omega) (by omega)
 by_cases h3:i<32
 ·exact chunk67 rounds67_3 (by omega) (by omega)
 by_cases h4:i<40
 ·exact chunk67 rounds67_4 (by omega) (by omega)
 by_cases h5:i<48
 ·exact chunk67 rounds67_5 (by omega) (by omega)
 by_cases h6:i<56
 ·exact chunk67 rounds67_6 (by omega) (by omega)
 by_cases h7:i<64
 ·exact chunk67 rounds67_7 (by omega) (by omega)
 by_cases h8:i<72
 ·exact chunk67 rounds67_8 (by omega) (by omega)
 by_cases h9:i<80
 ·exact chunk67 rounds67_9 (by omega) (by omega)
 by_cases h10:i<88
 ·exact chunk67 rounds67_10 (by omega) (by omega)
 by_cases h11:i<96
 ·exact chunk67 rounds67_11 (by omega) (by omega)
 by_cases h12:i<104
 ·exact chunk67 rounds67_12 (by omega) (by omega)
 by_cases h13:i<112
 ·exact chunk67 rounds67_13 (by omega) (by omega)
 by_cases h14:i<120
 ·exact chunk67 rounds67_14 (by omega) (by omega)
 by_cases h15:i<128
 ·exact chunk67 rounds67_15 (by omega) (by omega)
 by_cases h16:i<136
 ·exact chunk67 rounds67_16 (by omega) (by omega)
 by_cases h17:i<144
 ·exact chunk67 rounds67_17 (by omega) (by omega)
 by_cases h18:i<152
 ·exact chunk67 rounds67_18 (by omega) (by omega)
 by_cases h19:i<160
 ·exact chunk67 rounds67_19 (by omega) (by omega)
 by_cases h20:i<168
 ·exact chunk67 rounds67_20 (by omega) (by omega)
 by_cases h21:i<176
 ·exact chunk67 rounds67_21 (by omega) (by omega)
 by_cases h22:i<184
 ·exact chunk67 rounds67_22 (by omega) (by omega)
 by_cases h23:i<192
 ·exact chunk67 rounds67_23 (by omega) (by omega)
 by_cases h24:i<200
 ·exact chunk67 rounds67_24 (by omega) (by omega)
 by_cases h25:i<208
 ·exact chunk67 rounds67_25 (by omega) (by omega)
 by_cases h26:i<216
 ·exact chunk67 rounds67_26 (by omega) (by omega)
 by_cases h27:i<224
 ·exact chunk67 rounds67_27 (by omega) (by omega)
 by_cases h28:i<232
 ·exact chunk67 rounds67_28 (by omega) (by omega)
 by_cases h29:i<240
 ·exact chunk67 rounds67_29 (by omega) (by omega)
 by_cases h30:i<248
 ·exact chunk67 rounds67_30 (by omega) (by omega)
 exact chunk67 rounds67_31 (by omega) (by omega)
theorem go67 {N:Nat} {P:Program} {Q:Kd→St→Prop} (h:go P N Q [.l b67, .b 0] .norm (stT 256 (tabN 256))):∀j≤256,go P N Q [.l b67, .b 0] .norm (stT (256-j) (tabN (256-j)))
 | 0,_=>h
 | j+1,hj=>by
  have:=go67 h j (by omega)
  rw [show 256-j=256-(j+1)+1 by omega] at this
  exact zLi (round67 (by omega)) this
theorem closure67:EvG Tryz.prog 209 [.ptr (.up (.s 1)) 0] [(.up (.s 0),mkC 0 1 (List.replicate 256 0)),(.up (.s 1),[.ptr (.up (.s 0)) 0])] (.tup []) [(.up (.s 0),mkC 0 1 tabL),(.up (.s 1),[.ptr (.up (.s 0)) 0])]:=by
 refine zRZ fn67 (Nat.le_of_ble_eq_true rfl) ?_
 refine zLi (show advF 6 [.c c67] .norm _ (stT 0 (tabN 0))=some ([.l b67, .b 0], .norm,stT 0 (tabN 0)) by kernel_rfl) ?_
 refine go67 ?_ 256 (Nat.le_refl _)
 have h:Ok (some ()) fun v=>go Tryz.prog 25 (Fnl [] (.tup []) [(.up (.s 0),mkC 0 1 tabL),(.up (.s 1),[.ptr (.up (.s 0)) 0])]) [.l b67, .b 0] .norm (stT 256 (tabN 256)):=by
  refine Avk 11 [] .norm (stT 256 (tabN 256)) ?_
  exact zZg (enR:=fun _=> .tup []) (bx':=fun _=>_)
 exact h () rfl
end Go.Proofs.YtdgdgfckcnjpfaaGreat.Crc
