/- A part of the same claim: what its first file says. -/
import Derived.Test.YtennhpoemdaghaaGreatDoorDowns1
set_option linter.unusedVariables false
set_option linter.unusedSimpArgs false
section
namespace Go.Proofs
open Go.Shelf
def Tryz.lays162_ren : Go.Shelf.Ren:=⟨fun | 162 => 149 | 232 => 171 | 227 => 172 | 234 => 174 | 236 => 176 | 228 => 194 | 271 => 196 | 151 => 195 | 120 => 210 | 197 => 185 | 152 => 209 | 260 => 202 | 137 => 150 | 119 => 219 | 224 => 204 | 225 => 203 | 217 => 181 | 266 => 200 | n => n,fun | 9 => 9 | 4 => 4 | 3 => 3 | 5 => 5 | 117 => 184 | 116 => 183 | 0 => 0 | 124 => 187 | 21 => 21 | 105 => 191 | 46 => 121 | 119 => 216 | 139 => 219 | 138 => 218 | n => n,fun | 3 => 3 | 4 => 4 | n => n⟩
def Tryz.lays106_ren : Go.Shelf.Ren:=⟨fun | 106 => 55 | 213 => 91 | 265 => 133 | n => n,fun | 9 => 9 | 3 => 3 | n => n,fun | n => n⟩
theorem Tryz.lays106 : Go.Proofs.Lays.n106 Tryz.prog Tryz.lays106_ren:={
 mixed:=by kernel_rfl
 f106:=Tryz.func55.trans (congrArg some q9_)
 f213:=Tryz.func91.trans (congrArg some q9_)
 f265:=Tryz.func133.trans (congrArg some q9_)
 t3:=Tryz.underlying3
 a3:=Tryz.isAgg3
 z3:=Tryz.sizeOf3
 v3:=Tryz.zeroValue3
 t9:=Tryz.underlying9
 a9:=Tryz.isAgg9
 z9:=Tryz.sizeOf9
 v9:=Tryz.zeroValue9 }
open Go.RowKit in
theorem Tryz.strings_Compare (a b : ByteArray) (w : World) :
  Calls Tryz.prog 55 #[.string a,.string b] w fun e w' => e = .returned (.int .i64 (Lib.compareBytes a.data.toList b.data.toList)) ∧ w' = w:=Any.strings_Compare Tryz.lays106 a b w
def Tryz.lays103_ren : Go.Shelf.Ren:=⟨fun | 103 => 111 | 210 => 148 | 206 => 180 | n => n,fun | 9 => 9 | 4 => 4 | 24 => 138 | 3 => 3 | n => n,fun | n => n⟩
theorem Tryz.lays103 : Go.Proofs.Lays.n103 Tryz.prog Tryz.lays103_ren:={
 mixed:=by kernel_rfl
 f103:=Tryz.func111.trans (congrArg some q9_)
 f206:=Tryz.func180.trans (congrArg some q9_)
 f210:=Tryz.func148.trans (congrArg some q9_)
 t3:=Tryz.underlying3
 a3:=Tryz.isAgg3
 z3:=Tryz.sizeOf3
 v3:=Tryz.zeroValue3
 t4:=Tryz.underlying4
 a4:=Tryz.isAgg4
 z4:=Tryz.sizeOf4
 v4:=Tryz.zeroValue4
 t9:=Tryz.underlying9
 a9:=Tryz.isAgg9
 z9:=Tryz.sizeOf9
 v9:=Tryz.zeroValue9
 t24:=Tryz.underlying138
 a24:=Tryz.isAgg138
 z24:=Tryz.sizeOf138
 v24:=Tryz.zeroValue138 }
open Go.RowKit in
theorem Tryz.strings_CutPrefix (s p : ByteArray) (w : World) :
  Calls Tryz.prog 111 #[.string s,.string p] w fun e w' => e = .returned (.tuple #[.string ⟨(Lib.trimPrefix s.data.toList p.data.toList).toArray⟩,.bool (Lib.hasPrefix s.data.toList p.data.toList)]) ∧ w' = w:=Any.strings_CutPrefix Tryz.lays103 s p w
def Tryz.laysM171_ren : Go.Shelf.Ren:=⟨fun | 171 => 144 | 243 => 177 | 246 => 197 | 283 => 211 | 284 => 212 | 285 => 213 | 286 => 214 | 129 => 132 | 317 => 220 | 318 => 221 | 319 => 222 | 320 => 223 | 337 => 224 | 338 => 225 | n => n,fun | 3 => 3 | 9 => 9 | 2 => 2 | 4 => 4 | 171 => 210 | 0 => 0 | 53 => 157 | 37 => 105 | 5 => 5 | 173 => 212 | 212 => 225 | 51 => 155 | 20 => 20 | 213 => 226 | 46 => 121 | 232 => 227 | 233 => 228 | n => n,fun | 17 => 5 | 18 => 6 | 19 => 7 | n => n⟩
theorem Tryz.laysM171 : Go.Proofs.LaysM.n171 Tryz.prog Tryz.laysM171_ren:={
 mixed:=by kernel_rfl
 f129:=Tryz.func132.trans (congrArg some q9_)
 f171:=Tryz.func144.trans (congrArg some q9_)
 f243:=Tryz.func177.trans (congrArg some q9_)
 f246:=Tryz.func197.trans (congrArg some q9_)
 f283:=Tryz.func211.trans (congrArg some q9_)
 f284:=Tryz.func212.trans (congrArg some q9_)
 f285:=Tryz.func213.trans (congrArg some q9_)
 f286:=Tryz.func214.trans (congrArg some q9_)
 f317:=Tryz.func220.trans (congrArg some q9_)
 f318:=Tryz.func221.trans (congrArg some q9_)
 f319:=Tryz.func222.trans (congrArg some q9_)
 f320:=Tryz.func223.trans (congrArg some q9_)
 f337:=Tryz.func224.trans (congrArg some q9_)
 f338:=Tryz.func225.trans (congrArg some q9_)
 t0:=Tryz.underlying0
 a0:=Tryz.isAgg0
 z0:=Tryz.sizeOf0
 v0:=Tryz.zeroValue0
 t2:=Tryz.underlying2
 a2:=Tryz.isAgg2
 z2:=Tryz.sizeOf2
 v2:=Tryz.zeroValue2
 t3:=Tryz.underlying3
 a3:=Tryz.isAgg3
 z3:=Tryz.sizeOf3
 v3:=Tryz.zeroValue3
 t4:=Tryz.underlying4
 a4:=Tryz.isAgg4
 z4:=Tryz.sizeOf4
 v4:=Tryz.zeroValue4
 t5:=Tryz.underlying5
 a5:=Tryz.isAgg5
 z5:=Tryz.sizeOf5
 v5:=Tryz.zeroValue5
 t9:=Tryz.underlying9
 a9:=Tryz.isAgg9
 z9:=Tryz.sizeOf9
 v9:=Tryz.zeroValue9
 t20:=Tryz.underlying20
 a20:=Tryz.isAgg20
 z20:=Tryz.sizeOf20
 v20:=Tryz.zeroValue20
 t37:=Tryz.underlying105
 a37:=Tryz.isAgg105
 z37:=Tryz.sizeOf105
 v37:=Tryz.zeroValue105
 t46:=Tryz.underlying121
 a46:=Tryz.isAgg121
 z46:=Tryz.sizeOf121
 v46:=Tryz.zeroValue121
 t51:=Tryz.underlying155
 a51:=Tryz.isAgg155
 z51:=Tryz.sizeOf155
 v51:=Tryz.zeroValue155
 t53:=Tryz.underlying157
 a53:=Tryz.isAgg157
 z53:=Tryz.sizeOf157
 v53:=Tryz.zeroValue157
 t171:=Tryz.underlying210
 a171:=Tryz.isAgg210
 z171:=Tryz.sizeOf210
 v171:=Tryz.zeroValue210
 t173:=Tryz.underlying212
 a173:=Tryz.isAgg212
 z173:=Tryz.sizeOf212
 v173:=Tryz.zeroValue212
 t212:=Tryz.underlying225
 a212:=Tryz.isAgg225
 z212:=Tryz.sizeOf225
 v212:=Tryz.zeroValue225
 t213:=Tryz.underlying226
 a213:=Tryz.isAgg226
 z213:=Tryz.sizeOf226
 t232:=Tryz.underlying227
 a232:=Tryz.isAgg227
 z232:=Tryz.sizeOf227
 v232:=Tryz.zeroValue227
 t233:=Tryz.underlying228
 a233:=Tryz.isAgg228
 z233:=Tryz.sizeOf228
 v233:=Tryz.zeroValue228
 g17:=by kernel_rfl
 g18:=by kernel_rfl
 g19:=by kernel_rfl
 i0:=by kernel_rfl
 i2:=by kernel_rfl
 i3:=by kernel_rfl
 i4:=by kernel_rfl
 i5:=by kernel_rfl
 i9:=by kernel_rfl
 i20:=by kernel_rfl
 i37:=by kernel_rfl
 i46:=by kernel_rfl
 i51:=by kernel_rfl
 i53:=by kernel_rfl
 i171:=by kernel_rfl
 i173:=by kernel_rfl
 i212:=by kernel_rfl
 i232:=by kernel_rfl
 i233:=by kernel_rfl
 m17:=by kernel_rfl
 m18:=by kernel_rfl
 m19:=by kernel_rfl }
open Go.RowKit Go.Sort Go.Lib in
theorem Tryz.strconv_Itoa (n : Int) (h0 : -9223372036854775808 ≤ n) (h1 : n ≤ 9223372036854775807) (w : World) (htab : Lib.TabIs Tryz.prog w "internal/strconv.uint64pow10" .u64 Lib.pow10Tab) :
  Calls Tryz.prog 144 #[.int .i64 n] w fun e w' => e = .returned (.string ⟨(Lib.itoa n).toArray⟩) ∧ ∃ k os,w' = grow (w.drewN k) os:=Any.strconv_Itoa Tryz.laysM171 n h0 h1 w htab
def Tryz.laysC172_ren : Go.Shelf.Ren:=⟨fun | 172 => 139 | 244 => 166 | 245 => 167 | 247 => 188 | 279 => 189 | 280 => 190 | 281 => 191 | 282 => 192 | 287 => 206 | 316 => 207 | 171 => 144 | 205 => 208 | 321 => 217 | 322 => 218 | 243 => 177 | 246 => 197 | 283 => 211 | 284 => 212 | 285 => 213 | 286 => 214 | 129 => 132 | 317 => 220 | 318 => 221 | 319 => 222 | 320 => 223 | 337 => 224 | 338 => 225 | n => n,fun | 9 => 9 | 3 => 3 | 75 => 111 | 76 => 112 | 4 => 4 | 5 => 5 | 167 => 193 | 37 => 105 | 0 => 0 | 85 => 194 | 2 => 2 | 168 => 196 | 53 => 157 | 175 => 204 | 46 => 121 | 210 => 207 | 127 => 142 | 145 => 223 | 143 => 221 | 21 => 21 | 171 => 210 | 173 => 212 | 212 => 225 | 51 => 155 | 20 => 20 | 213 => 226 | 232 => 227 | 233 => 228 | 80 => 114 | n => n,fun | 15 => 1 | 16 => 2 | 17 => 5 | 18 => 6 | 19 => 7 | n => n⟩
theorem Tryz.laysC172 : Go.Proofs.LaysC.n172 Tryz.prog Tryz.laysC172_ren:={
 mixed:=by kernel_rfl
 f129:=Tryz.func132.trans (congrArg some q9_)
 f171:=Tryz.func144.trans (congrArg some q9_)
 f172:=Tryz.func139.trans (congrArg some q9_)
 f205:=Tryz.func208.trans (congrArg some q9_)
 f243:=Tryz.func177.trans (congrArg some q9_)
 f244:=Tryz.func166.trans (congrArg some q9_)
 f245:=Tryz.func167.trans (congrArg some q9_)
 f246:=Tryz.func197.trans (congrArg some q9_)
 f247:=Tryz.func188.trans (congrArg some q9_)
 f279:=Tryz.func189.trans (congrArg some q9_)
 f280:=Tryz.func190.trans (congrArg some q9_)
 f281:=Tryz.func191.trans (congrArg some q9_)
 f282:=Tryz.func192.trans (congrArg some q9_)
 f283:=Tryz.func211.trans (congrArg some q9_)
 f284:=Tryz.func212.trans (congrArg some q9_)
 f285:=Tryz.func213.trans (congrArg some q9_)
 f286:=Tryz.func214.trans (congrArg some q9_)
 f287:=Tryz.func206.trans (congrArg some q9_)
 f316:=Tryz.func207.trans (congrArg some q9_)
 f317:=Tryz.func220.trans (congrArg some q9_)
 f318:=Tryz.func221.trans (congrArg some q9_)
 f319:=Tryz.func222.trans (congrArg some q9_)
 f320:=Tryz.func223.trans (congrArg some q9_)
 f321:=Tryz.func217.trans (congrArg some q9_)
 f322:=Tryz.func218.trans (congrArg some q9_)
 f337:=Tryz.func224.trans (congrArg some q9_)
 f338:=Tryz.func225.trans (congrArg some q9_)
 t0:=Tryz.underlying0
 a0:=Tryz.isAgg0
 z0:=Tryz.sizeOf0
 v0:=Tryz.zeroValue0
 t2:=Tryz.underlying2
 a2:=Tryz.isAgg2
 z2:=Tryz.sizeOf2
 v2:=Tryz.zeroValue2
 t3:=Tryz.underlying3
 a3:=Tryz.isAgg3
 z3:=Tryz.sizeOf3
 v3:=Tryz.zeroValue3
 t4:=Tryz.underlying4
 a4:=Tryz.isAgg4
 z4:=Tryz.sizeOf4
 v4:=Tryz.zeroValue4
 t5:=Tryz.underlying5
 a5:=Tryz.isAgg5
 z5:=Tryz.sizeOf5
 v5:=Tryz.zeroValue5
 t9:=Tryz.underlying9
 a9:=Tryz.isAgg9
 z9:=Tryz.sizeOf9
 v9:=Tryz.zeroValue9
 t20:=Tryz.underlying20
 a20:=Tryz.isAgg20
 z20:=Tryz.sizeOf20
 v20:=Tryz.zeroValue20
 t21:=Tryz.underlying21
 a21:=Tryz.isAgg21
 z21:=Tryz.sizeOf21
 v21:=Tryz.zeroValue21
 t37:=Tryz.underlying105
 a37:=Tryz.isAgg105
 z37:=Tryz.sizeOf105
 v37:=Tryz.zeroValue105
 t46:=Tryz.underlying121
 a46:=Tryz.isAgg121
 z46:=Tryz.sizeOf121
 v46:=Tryz.zeroValue121
 t51:=Tryz.underlying155
 a51:=Tryz.isAgg155
 z51:=Tryz.sizeOf155
 v51:=Tryz.zeroValue155
 t53:=Tryz.underlying157
 a53:=Tryz.isAgg157
 z53:=Tryz.sizeOf157
 v53:=Tryz.zeroValue157
 t75:=Tryz.underlying111
 a75:=Tryz.isAgg111
 z75:=Tryz.sizeOf111
 v75:=Tryz.zeroValue111
 t76:=Tryz.underlying112
 a76:=Tryz.isAgg112
 z76:=Tryz.sizeOf112
 v76:=Tryz.zeroValue112
 t85:=Tryz.underlying194
 a85:=Tryz.isAgg194
 z85:=Tryz.sizeOf194
 v85:=Tryz.zeroValue194
 t127:=Tryz.underlying142
 a127:=Tryz.isAgg142
 z127:=Tryz.sizeOf142
 v127:=Tryz.zeroValue142
 t143:=Tryz.underlying221
 a143:=Tryz.isAgg221
 z143:=Tryz.sizeOf221
 v143:=Tryz.zeroValue221
 t145:=Tryz.underlying223
 a145:=Tryz.isAgg223
 z145:=Tryz.sizeOf223
 v145:=Tryz.zeroValue223
 t167:=Tryz.underlying193
 a167:=Tryz.isAgg193
 z167:=Tryz.sizeOf193
 v167:=Tryz.zeroValue193
 t168:=Tryz.underlying196
 a168:=Tryz.isAgg196
 z168:=Tryz.sizeOf196
 v168:=Tryz.zeroValue196
 t171:=Tryz.underlying210
 a171:=Tryz.isAgg210
 z171:=Tryz.sizeOf210
 v171:=Tryz.zeroValue210
 t173:=Tryz.underlying212
 a173:=Tryz.isAgg212
 z173:=Tryz.sizeOf212
 v173:=Tryz.zeroValue212
 t175:=Tryz.underlying204
 a175:=Tryz.isAgg204
 z175:=Tryz.sizeOf204
 v175:=Tryz.zeroValue204
 t210:=Tryz.underlying207
 a210:=Tryz.isAgg207
 z210:=Tryz.sizeOf207
 v210:=Tryz.zeroValue207
 t212:=Tryz.underlying225
 a212:=Tryz.isAgg225
 z212:=Tryz.sizeOf225
 v212:=Tryz.zeroValue225
 t213:=Tryz.underlying226
 a213:=Tryz.isAgg226
 z213:=Tryz.sizeOf226
 t232:=Tryz.underlying227
 a232:=Tryz.isAgg227
 z232:=Tryz.sizeOf227
 v232:=Tryz.zeroValue227
 t233:=Tryz.underlying228
 a233:=Tryz.isAgg228
 z233:=Tryz.sizeOf228
 v233:=Tryz.zeroValue228
 g15:=by kernel_rfl
 g16:=by kernel_rfl
 g17:=by kernel_rfl
 g18:=by kernel_rfl
 g19:=by kernel_rfl
 t80:=Tryz.underlying114
 a80:=Tryz.isAgg114
 z80:=Tryz.sizeOf114
 v80:=Tryz.zeroValue114
 i0:=by kernel_rfl
 i2:=by kernel_rfl
 i3:=by kernel_rfl
 i4:=by kernel_rfl
 i5:=by kernel_rfl
 i9:=by kernel_rfl
 i20:=by kernel_rfl
 i21:=by kernel_rfl
 i37:=by kernel_rfl
 i46:=by kernel_rfl
 i51:=by kernel_rfl
 i53:=by kernel_rfl
 i75:=by kernel_rfl
 i76:=by kernel_rfl
 i80:=by kernel_rfl
 i85:=by kernel_rfl
 i127:=by kernel_rfl
 i143:=by kernel_rfl
 i145:=by kernel_rfl
 i167:=by kernel_rfl
 i168:=by kernel_rfl
 i171:=by kernel_rfl
 i173:=by kernel_rfl
 i175:=by kernel_rfl
 i210:=by kernel_rfl
 i212:=by kernel_rfl
 i232:=by kernel_rfl
 i233:=by kernel_rfl
 m15:=by kernel_rfl
 m16:=by kernel_rfl
 m17:=by kernel_rfl
 m18:=by kernel_rfl
 m19:=by kernel_rfl
 c0:=by kernel_rfl
 c2:=by kernel_rfl
 c3:=by kernel_rfl
 c4:=by kernel_rfl
 c5:=by kernel_rfl
 c9:=by kernel_rfl
 c20:=by kernel_rfl
 c21:=by kernel_rfl
 c37:=by kernel_rfl
 c46:=by kernel_rfl
 c51:=by kernel_rfl
 c53:=by kernel_rfl
 c75:=by kernel_rfl
 c76:=by kernel_rfl
 c80:=by kernel_rfl
 c85:=by kernel_rfl
 c127:=by kernel_rfl
 c143:=by kernel_rfl
 c145:=by kernel_rfl
 c167:=by kernel_rfl
 c168:=by kernel_rfl
 c171:=by kernel_rfl
 c173:=by kernel_rfl
 c175:=by kernel_rfl
 c210:=by kernel_rfl
 c212:=by kernel_rfl
 c213:=by kernel_rfl
 c232:=by kernel_rfl
 c233:=by kernel_rfl }
open Go.RowKit in
theorem Tryz.strconv_Atoi_ok (s : ByteArray) (hmax : s.size ≤ 9223372036854775806) (v : Int) (h : Lib.atoiAll s.data.toList = .ok v) (w : World) :
  Calls Tryz.prog 139 #[.string s] w fun e w' => e = .returned (.tuple #[.int .i64 v,.nilIface]) ∧ (w' = w ∨ ∃ t,w' = Lib.bytesWorld w 5 t):=Any.strconv_Atoi_ok Tryz.laysC172 s hmax v h w
open Go.RowKit in
theorem Tryz.strconv_Atoi_range (s : ByteArray) (hlim : s.size ≤ 281474976710656) (h : Lib.atoiAll s.data.toList = .range) (ev : Value) (w : World) (hv : w.cell? ⟨2,0,none⟩ = some ev) (hev : ev = .nilIface ∨ ∃ te pe,ev = .iface te pe) :
  Calls Tryz.prog 139 #[.string s] w fun e w' => ∃ N,e = .returned (.tuple #[.int .i64 (Lib.atoiSat s.data.toList),.iface 196 (.pointer (some ⟨N,0,none⟩))]) ∧ w.heap.size ≤ N ∧ w'.heap[N]? = some (.cells #[.string ⟨#[65,116,111,105]⟩,.string s,ev] 207 (0,0)) ∧ Below w.heap.size w w':=Any.strconv_Atoi_range Tryz.laysC172 s hlim h ev w hv hev
def Tryz.lays143_ren : Go.Shelf.Ren:=⟨fun | 143 => 163 | 219 => 187 | 217 => 181 | 225 => 203 | 224 => 204 | 267 => 205 | 266 => 200 | 314 => 216 | n => n,fun | 9 => 9 | 3 => 3 | 4 => 4 | 5 => 5 | 46 => 121 | 146 => 214 | 51 => 155 | n => n,fun | 1 => 0 | n => n⟩
theorem Tryz.lays143 : Go.Proofs.Lays.n143 Tryz.prog Tryz.lays143_ren:={
 mixed:=by kernel_rfl
 f143:=Tryz.func163.trans (congrArg some q9_)
 f217:=Tryz.func181.trans (congrArg some q9_)
 f219:=Tryz.func187.trans (congrArg some q9_)
 f224:=Tryz.func204.trans (congrArg some q9_)
 f225:=Tryz.func203.trans (congrArg some q9_)
 f266:=Tryz.func200.trans (congrArg some q9_)
 f267:=Tryz.func205.trans (congrArg some q9_)
 f314:=Tryz.func216.trans (congrArg some q9_)
 t3:=Tryz.underlying3
 a3:=Tryz.isAgg3
 z3:=Tryz.sizeOf3
 v3:=Tryz.zeroValue3
 t4:=Tryz.underlying4
 a4:=Tryz.isAgg4
 z4:=Tryz.sizeOf4
 v4:=Tryz.zeroValue4
 t5:=Tryz.underlying5
 a5:=Tryz.isAgg5
 z5:=Tryz.sizeOf5
 v5:=Tryz.zeroValue5
 t9:=Tryz.underlying9
 a9:=Tryz.isAgg9
 z9:=Tryz.sizeOf9
 v9:=Tryz.zeroValue9
 t46:=Tryz.underlying121
 a46:=Tryz.isAgg121
 z46:=Tryz.sizeOf121
 v46:=Tryz.zeroValue121
 t51:=Tryz.underlying155
 a51:=Tryz.isAgg155
 z51:=Tryz.sizeOf155
 v51:=Tryz.zeroValue155
 t146:=Tryz.underlying214
 a146:=Tryz.isAgg214
 z146:=Tryz.sizeOf214
 v146:=Tryz.zeroValue214
 g1:=by kernel_rfl }
open Go.RowKit Go.Lib in
theorem Tryz.strings_Index_one (s : ByteArray) (c : UInt8) (w : World) :
  Calls Tryz.prog 163 #[.string s,.string ⟨#[c]⟩] w fun e w' => e = .returned (.int .i64 (Lib.indexByte s.data.toList c)) ∧ w' = w:=Any.strings_Index_one Tryz.lays143 s c w
def Tryz.lays148_ren : Go.Shelf.Ren:=⟨fun | 148 => 179 | 222 => 198 | 223 => 199 | 269 => 215 | n => n,fun | 9 => 9 | 3 => 3 | 4 => 4 | 5 => 5 | 146 => 214 | 51 => 155 | 46 => 121 | n => n,fun | n => n⟩
theorem Tryz.lays148 : Go.Proofs.Lays.n148 Tryz.prog Tryz.lays148_ren:={
 mixed:=by kernel_rfl
 f148:=Tryz.func179.trans (congrArg some q9_)
 f222:=Tryz.func198.trans (congrArg some q9_)
 f223:=Tryz.func199.trans (congrArg some q9_)
 f269:=Tryz.func215.trans (congrArg some q9_)
 t3:=Tryz.underlying3
 a3:=Tryz.isAgg3
 z3:=Tryz.sizeOf3
 v3:=Tryz.zeroValue3
 t4:=Tryz.underlying4
 a4:=Tryz.isAgg4
 z4:=Tryz.sizeOf4
 v4:=Tryz.zeroValue4
 t5:=Tryz.underlying5
 a5:=Tryz.isAgg5
 z5:=Tryz.sizeOf5
 v5:=Tryz.zeroValue5
 t9:=Tryz.underlying9
 a9:=Tryz.isAgg9
 z9:=Tryz.sizeOf9
 v9:=Tryz.zeroValue9
 t46:=Tryz.underlying121
 a46:=Tryz.isAgg121
 z46:=Tryz.sizeOf121
 v46:=Tryz.zeroValue121
 t51:=Tryz.underlying155
 a51:=Tryz.isAgg155
 z51:=Tryz.sizeOf155
 v51:=Tryz.zeroValue155
 t146:=Tryz.underlying214
 a146:=Tryz.isAgg214
 z146:=Tryz.sizeOf214
 v146:=Tryz.zeroValue214 }
open Go.RowKit Go.Lib in
theorem Tryz.strings_LastIndex (s sub : ByteArray) (hs : s.size < 4611686018427387904) (w : World) :
  Calls Tryz.prog 179 #[.string s,.string sub] w fun e w' => e = .returned (.int .i64 (Lib.lastIndex s.data.toList sub.data.toList)) ∧ w' = w:=Any.strings_LastIndex Tryz.lays148 s sub hs w
def Tryz.lays146_ren : Go.Shelf.Ren:=⟨fun | 146 => 100 | 221 => 136 | 268 => 161 | 138 => 162 | 143 => 163 | 195 => 184 | 197 => 185 | 218 => 186 | 219 => 187 | 260 => 202 | 217 => 181 | 225 => 203 | 224 => 204 | 267 => 205 | 266 => 200 | 314 => 216 | n => n,fun | 9 => 9 | 31 => 98 | 3 => 3 | 4 => 4 | 0 => 0 | 105 => 191 | 21 => 21 | 5 => 5 | 46 => 121 | 119 => 216 | 139 => 219 | 138 => 218 | 146 => 214 | 51 => 155 | n => n,fun | 1 => 0 | 3 => 3 | 4 => 4 | n => n⟩
theorem Tryz.lays146 : Go.Proofs.Lays.n146 Tryz.prog Tryz.lays146_ren:={
 mixed:=by kernel_rfl
 f138:=Tryz.func162.trans (congrArg some q9_)
 f143:=Tryz.func163.trans (congrArg some q9_)
 f146:=Tryz.func100.trans (congrArg some q9_)
 f195:=Tryz.func184.trans (congrArg some q9_)
 f197:=Tryz.func185.trans (congrArg some q9_)
 f217:=Tryz.func181.trans (congrArg some q9_)
 f218:=Tryz.func186.trans (congrArg some q9_)
 f219:=Tryz.func187.trans (congrArg some q9_)
 f221:=Tryz.func136.trans (congrArg some q9_)
 f224:=Tryz.func204.trans (congrArg some q9_)
 f225:=Tryz.func203.trans (congrArg some q9_)
 f260:=Tryz.func202.trans (congrArg some q9_)
 f266:=Tryz.func200.trans (congrArg some q9_)
 f267:=Tryz.func205.trans (congrArg some q9_)
 f268:=Tryz.func161.trans (congrArg some q9_)
 f314:=Tryz.func216.trans (congrArg some q9_)
 t0:=Tryz.underlying0
 a0:=Tryz.isAgg0
 z0:=Tryz.sizeOf0
 v0:=Tryz.zeroValue0
 t3:=Tryz.underlying3
 a3:=Tryz.isAgg3
 z3:=Tryz.sizeOf3
 v3:=Tryz.zeroValue3
 t4:=Tryz.underlying4
 a4:=Tryz.isAgg4
 z4:=Tryz.sizeOf4
 v4:=Tryz.zeroValue4
 t5:=Tryz.underlying5
 a5:=Tryz.isAgg5
 z5:=Tryz.sizeOf5
 v5:=Tryz.zeroValue5
 t9:=Tryz.underlying9
 a9:=Tryz.isAgg9
 z9:=Tryz.sizeOf9
 v9:=Tryz.zeroValue9
 t21:=Tryz.underlying21
 a21:=Tryz.isAgg21
 z21:=Tryz.sizeOf21
 v21:=Tryz.zeroValue21
 t31:=Tryz.underlying98
 a31:=Tryz.isAgg98
 z31:=Tryz.sizeOf98
 v31:=Tryz.zeroValue98
 t46:=Tryz.underlying121
 a46:=Tryz.isAgg121
 z46:=Tryz.sizeOf121
 v46:=Tryz.zeroValue121
 t51:=Tryz.underlying155
 a51:=Tryz.isAgg155
 z51:=Tryz.sizeOf155
 v51:=Tryz.zeroValue155
 t105:=Tryz.underlying191
 a105:=Tryz.isAgg191
 z105:=Tryz.sizeOf191
 v105:=Tryz.zeroValue191
 t119:=Tryz.underlying216
 a119:=Tryz.isAgg216
 z119:=Tryz.sizeOf216
 t138:=Tryz.underlying218
 a138:=Tryz.isAgg218
 z138:=Tryz.sizeOf218
 v138:=Tryz.zeroValue218
 t139:=Tryz.underlying219
 a139:=Tryz.isAgg219
 z139:=Tryz.sizeOf219
 v139:=Tryz.zeroValue219
 t146:=Tryz.underlying214
 a146:=Tryz.isAgg214
 z146:=Tryz.sizeOf214
 v146:=Tryz.zeroValue214
 g1:=by kernel_rfl
 g3:=by kernel_rfl
 g4:=by kernel_rfl }
open Go.RowKit Go.Lib in
theorem Tryz.strings_Split (s sep : ByteArray) (m : Int) (w : World) (hs : s.size < 4294967281) (hm : w.cell? ⟨0,0,none⟩ = some (.int .i64 m)) (h1 : 1 ≤ sep.size) :
  Calls Tryz.prog 100 #[.string s,.string sep] w fun e w' =>
   e = .returned (.slice (some ⟨w.heap.size,0,none⟩) (Lib.countB s sep + 1) (Lib.countB s sep + 1)) ∧ w' = w.alloc (.cells ((Lib.splitB sep 0 (Lib.countB s sep) s).map Value.string).toArray 9):=Any.strings_Split Tryz.lays146 q9_ s sep m w hs hm h1
def Tryz.lays160_ren : Go.Shelf.Ren:=⟨fun | 160 => 143 | 232 => 171 | 231 => 170 | 227 => 172 | 234 => 174 | 233 => 173 | 236 => 176 | 235 => 175 | 228 => 194 | 271 => 196 | 151 => 195 | 197 => 185 | 120 => 210 | 152 => 209 | 260 => 202 | 137 => 150 | 119 => 219 | 224 => 204 | 225 => 203 | 217 => 181 | 266 => 200 | n => n,fun | 9 => 9 | 4 => 4 | 3 => 3 | 5 => 5 | 117 => 184 | 116 => 183 | 0 => 0 | 124 => 187 | 21 => 21 | 105 => 191 | 46 => 121 | 119 => 216 | 139 => 219 | 138 => 218 | n => n,fun | 3 => 3 | 4 => 4 | n => n⟩
theorem Tryz.lays160 : Go.Proofs.Lays.n160 Tryz.prog Tryz.lays160_ren:={
 mixed:=by kernel_rfl
 f119:=Tryz.func219.trans (congrArg some q9_)
 f120:=Tryz.func210.trans (congrArg some q9_)
 f137:=Tryz.func150.trans (congrArg some q9_)
 f151:=Tryz.func195.trans (congrArg some q9_)
 f152:=Tryz.func209.trans (congrArg some q9_)
 f160:=Tryz.func143.trans (congrArg some q9_)
 f197:=Tryz.func185.trans (congrArg some q9_)
 f217:=Tryz.func181.trans (congrArg some q9_)
 f224:=Tryz.func204.trans (congrArg some q9_)
 f225:=Tryz.func203.trans (congrArg some q9_)
 f227:=Tryz.func172.trans (congrArg some q9_)
 f228:=Tryz.func194.trans (congrArg some q9_)
 f231:=Tryz.func170.trans (congrArg some q9_)
 f232:=Tryz.func171.trans (congrArg some q9_)
 f233:=Tryz.func173.trans (congrArg some q9_)
 f234:=Tryz.func174.trans (congrArg some q9_)
 f235:=Tryz.func175.trans (congrArg some q9_)
 f236:=Tryz.func176.trans (congrArg some q9_)
 f260:=Tryz.func202.trans (congrArg some q9_)
 f266:=Tryz.func200.trans (congrArg some q9_)
 f271:=Tryz.func196.trans (congrArg some q9_)
 t0:=Tryz.underlying0
 a0:=Tryz.isAgg0
 z0:=Tryz.sizeOf0
 v0:=Tryz.zeroValue0
 t3:=Tryz.underlying3
 a3:=Tryz.isAgg3
 z3:=Tryz.sizeOf3
 v3:=Tryz.zeroValue3
 t4:=Tryz.underlying4
 a4:=Tryz.isAgg4
 z4:=Tryz.sizeOf4
 v4:=Tryz.zeroValue4
 t5:=Tryz.underlying5
 a5:=Tryz.isAgg5
 z5:=Tryz.sizeOf5
 v5:=Tryz.zeroValue5
 t9:=Tryz.underlying9
 a9:=Tryz.isAgg9
 z9:=Tryz.sizeOf9
 v9:=Tryz.zeroValue9
 t21:=Tryz.underlying21
 a21:=Tryz.isAgg21
 z21:=Tryz.sizeOf21
 v21:=Tryz.zeroValue21
 t46:=Tryz.underlying121
 a46:=Tryz.isAgg121
 z46:=Tryz.sizeOf121
 v46:=Tryz.zeroValue121
 t105:=Tryz.underlying191
 a105:=Tryz.isAgg191
 z105:=Tryz.sizeOf191
 v105:=Tryz.zeroValue191
 t116:=Tryz.underlying183
 a116:=Tryz.isAgg183
 z116:=Tryz.sizeOf183
 t117:=Tryz.underlying184
 a117:=Tryz.isAgg184
 z117:=Tryz.sizeOf184
 v117:=Tryz.zeroValue184
 t119:=Tryz.underlying216
 a119:=Tryz.isAgg216
 z119:=Tryz.sizeOf216
 t124:=Tryz.underlying187
 a124:=Tryz.isAgg187
 z124:=Tryz.sizeOf187
 v124:=Tryz.zeroValue187
 t138:=Tryz.underlying218
 a138:=Tryz.isAgg218
 z138:=Tryz.sizeOf218
 v138:=Tryz.zeroValue218
 t139:=Tryz.underlying219
 a139:=Tryz.isAgg219
 z139:=Tryz.sizeOf219
 v139:=Tryz.zeroValue219
 g3:=by kernel_rfl
 g4:=by kernel_rfl }
end Go.Proofs
end
section
namespace Go.Proofs.YtennhpoemdaghaaGreatDoor
open Go Go.RowKit Go.Shelf
attribute [local go_sem] Oper.semAt_some
def strAt (w : World) (B : Nat) : Nat:=match w.cell? ⟨B,0,none⟩ with
 | some (.string t) => t.size
 | _ => 0
theorem strAt_eq {w : World} {B : Nat} {t : ByteArray} (h : w.cell? ⟨B,0,none⟩ = some (.string t)) : strAt w B = t.size:=by
 unfold strAt;rw [h]
set_option maxRecDepth 100000 in
set_option maxHeartbeats 2000000 in
theorem splitSeq1_in (n : Nat) (hn : 1 ≤ n) (l B0 B1 B2 n₀ : Nat) (s : ByteArray) (c : UInt8) (hs : s.size ≤ 4611686018427387904) (h01 : B0 ≠ B1) (h02 : B0 ≠ B2) (hb0 : B0 < n₀) (hb1 : B1 < n₀) (hb2 : B2 < n₀)
  (J Jx : List ByteArray → World → Prop) (hJS : ∀ p A v,J p A → J p (A.setCell ⟨B0,0,none⟩ v))
  (hY : ∀ pre x W1,J pre W1 → pre ++ [x] <+: splitS c s → YieldAt Fence.wide (n - 1) Tryz.prog l #[.string x] W1 fun e W' =>
   (e = .returned (.bool true) ∧ J (pre ++ [x]) W' ∧ Below n₀ W1 W') ∨ (e = .returned (.bool false) ∧ Jx (pre ++ [x]) W'))
  (W : World) (hc0 : W.cell? ⟨B0,0,none⟩ = some (.string s)) (hf0 : W.frozen? ⟨B0,0,none⟩ = false) (hc1 : W.cell? ⟨B1,0,none⟩ = some (.string ⟨#[c]⟩)) (hc2 : W.cell? ⟨B2,0,none⟩ = some (.int .i64 0)) (h0 : J [] W) :
  CallsIn Fence.wide n Tryz.prog 193 #[.func (.yield l) #[] #[],.pointer (some ⟨B1,0,none⟩),.pointer (some ⟨B0,0,none⟩),.pointer (some ⟨B2,0,none⟩)] W fun e W' => (∃ v,e = .returned v) ∧
   ((∃ ys,ys = splitS c s ∧ J ys W') ∨ (∃ pre,pre <+: splitS c s ∧ Jx pre W')):=by
 have h163 : Fence.wide.fn 163:=trivial
 have hI:=fun (x : ByteArray) (w : World) => (callsIn_wide (n:=n - 1)).2 (Tryz.strings_Index_one x c w)
 have hfl : Fence.wide.fn 193:=trivial
 refine callsIn_of_wp Tryz.func193 rfl hfl ?_ rfl
 simp only [Tryz.ntmps193,List.size_toArray,List.length_cons,List.length_nil,Nat.reduceAdd,Nat.reduceSub,Array.replicate_succ,Array.replicate_zero,List.push_toArray,List.append_toArray,List.nil_append,List.cons_append]
 gi_wp2
 gi_loopw [7,8] (fun _ _ wr => ∃ (pre : List ByteArray) (t : ByteArray),wr.cell? ⟨B0,0,none⟩ = some (.string t) ∧ wr.frozen? ⟨B0,0,none⟩ = false ∧ wr.cell? ⟨B1,0,none⟩ = some (.string ⟨#[c]⟩) ∧ wr.cell? ⟨B2,0,none⟩ = some (.int .i64 0) ∧ t.size ≤ 4611686018427387904 ∧ pre ++ splitS c t = splitS c s ∧ J pre wr)
  (fun _ _ wr => strAt wr B0)
 case atStart => exact ⟨[],s,hc0,hf0,hc1,hc2,hs,rfl,h0⟩
 case round =>
  obtain ⟨pre,t,hc0',hf0',hc1',hc2',hts,hpt,hJ⟩:=hrel
  have hPT : Lib.Kept (pre ++ splitS c t = splitS c s):=hpt
  have hge:=Lib.indexByte_ge t.data.toList c
  by_cases hneg : Lib.indexByte t.data.toList c = -1
  ·have hsp : Lib.Kept (splitS c t = [t]):=splitS_none c t hneg
   obtain ⟨fn,tmps,assign,body,hy,hR⟩:=hY pre t wr hJ (by rw [← hpt,splitS_none c t hneg];exact List.prefix_refl _)
   clear hpt
   have HN : Lib.Kept (Lib.indexByte t.data.toList c = -1):=hneg
   clear hneg hge
   gi_wp2_with (gi_at_call 163;refine (hI t _).mono ?_;rintro e w' ⟨rfl,rfl⟩;rw [show Lib.indexByte t.data.toList c = -1 from HN])
   have hall : Lib.Kept (pre ++ [t] = splitS c s):=by
    have e : splitS c t = [t]:=hsp
    have e2 : pre ++ splitS c t = splitS c s:=hPT
    rw [e] at e2;exact e2
   clear hsp hPT
   refine hR.mono ?_
   rintro e W3 (⟨rfl,hJ3,_⟩ | ⟨rfl,hJx3⟩)
   ·gi_wp2
    go_end0
    exact ⟨⟨_,rfl⟩,.inl ⟨_,hall,hJ3⟩⟩
   ·gi_wp2
    go_end0
    have e2 : pre ++ [t] = splitS c s:=hall
    exact ⟨⟨_,rfl⟩,.inr ⟨_,e2 ▸ List.prefix_refl _,hJx3⟩⟩
  ·obtain ⟨i,hi⟩ : ∃ i : Nat,Lib.indexByte t.data.toList c = i:=⟨(Lib.indexByte t.data.toList c).toNat,by omega⟩
   have hil:=indexByte_lt c _ i hi
   have hz : t.data.toList.length = t.size:=rfl
   rw [hz] at hil
   have hsp : Lib.Kept (splitS c t = t.extract 0 i :: splitS c (t.extract (i + 1) t.size)):=splitS_some c t i hi
   obtain ⟨fn,tmps,assign,body,hy,hR⟩:=hY pre (t.extract 0 i) wr hJ (by rw [← hpt,splitS_some c t i hi];exact ⟨splitS c (t.extract (i + 1) t.size),by simp⟩)
   clear hpt
   have HI : Lib.Kept (Lib.indexByte t.data.toList c = i):=hi
   clear hi hz hneg hge
   have hin : ¬ ((i : Int) < 0):=by omega
   have hil' : i ≤ t.size:=by omega
   gi_wp2_with (gi_at_call 163;refine (hI t _).mono ?_;rintro e w' ⟨rfl,rfl⟩;rw [show Lib.indexByte t.data.toList c = i from HI])
   have hall : Lib.Kept (pre ++ [t.extract 0 i] ++ splitS c (t.extract (i + 1) t.size) = splitS c s):=by
    have e : splitS c t = t.extract 0 i :: splitS c (t.extract (i + 1) t.size):=hsp
    have e2 : pre ++ splitS c t = splitS c s:=hPT
    rw [e] at e2
    show _ = _
    rw [← e2];simp
   clear hsp hPT
   refine hR.mono ?_
   rintro e W3 (⟨rfl,hJ3,hk3⟩ | ⟨rfl,hJx3⟩)
   ·have d0:=(hk3.cell (p:=⟨B0,0,none⟩) hb0).trans hc0'
    have df:=(hk3.frozen (p:=⟨B0,0,none⟩) hb0).trans hf0'
    have d1:=(hk3.cell (p:=⟨B1,0,none⟩) hb1).trans hc1'
    have d2:=(hk3.cell (p:=⟨B2,0,none⟩) hb2).trans hc2'
    have hm0:=strAt_eq hc0'
    clear hc0' hf0' hc1' hc2' hk3
    gi_wp2
    go_roundw
    case rel => exact ⟨pre ++ [t.extract 0 i],t.extract (i + 1) t.size,World.cell?_setCell_same' _ _ _ (by rw [d0];rfl),by rw [World.frozen?_setCell];exact df,by rw [World.cell?_setCell_other _ _ _ _ (fun e => h01 (congrArg Addr.block e))];exact d1,by rw [World.cell?_setCell_other _ _ _ _ (fun e => h02 (congrArg Addr.block e))];exact d2,by simp;omega,hall,hJS _ _ _ hJ3⟩
    case measure =>
     rw [strAt_eq (World.cell?_setCell_same' _ _ _ (by rw [d0];rfl)),hm0]
     simp;omega
   ·gi_wp2
    refine bodyPost_ret (results_none rfl _ _ _) rfl ?_
    have e2 : pre ++ [t.extract 0 i] ++ splitS c (t.extract (i + 1) t.size) = splitS c s:=hall
    exact ⟨⟨_,rfl⟩,.inr ⟨_,⟨_,e2⟩,hJx3⟩⟩
def seqWorld (w : World) (s sep : ByteArray) : World:=((w.alloc (.cells #[.string s] 9)).alloc (.cells #[.string sep] 9)).alloc (.cells #[.int .i64 0] 3)
set_option maxHeartbeats 400000 in
theorem SplitSeq_calls (s sep : ByteArray) (w : World) : Calls Tryz.prog 141 #[.string s,.string sep] w fun e w' =>
  e = .returned (.func (.func 193) #[] #[.pointer (some ⟨w.heap.size + 1,0,none⟩),.pointer (some ⟨w.heap.size,0,none⟩),.pointer (some ⟨w.heap.size + 1 + 1,0,none⟩)]) ∧ w' = seqWorld w s sep:=by
 go_enter Tryz.func141,Tryz.ntmps141
 go_wp2
 go_ret
 exact ⟨rfl,rfl⟩
end Go.Proofs.YtennhpoemdaghaaGreatDoor
end
section
namespace Go.Proofs.YtennhpoemdaghaaGreatDoor.P
open Go Go.RowKit Go.Shelf Go.Proofs.YtennhpoemdaghaaGreatDoorW.PrintWords
attribute [local go_sem] Oper.semAt_some
def pathB (l : List UInt8) : Bool:=decide (l.length ≤ 60) && (splitL 47 l).all partB
def files_Path.f (a0 : ByteArray) : Option Bool:=some (pathB a0.data.toList)
set_option maxRecDepth 100000 in
set_option maxHeartbeats 2000000 in
theorem files_Path_long (s : ByteArray) (w : World) (h : 60 < s.size) : Calls Tryz.prog 103 #[.string s] w fun e w' => e = .returned (.bool false) ∧ Below w.heap.size w w':=by
 have h' : (60 : Int) < (s.size : Int):=by omega
 go_enter Tryz.func103,Tryz.ntmps103
 go_wp2
 refine bodyPost_ret (v:=.bool false) ?_ rfl ⟨rfl,?_⟩
 ·simp [results,Tryz.results103,go_sem]
 ·exact ((Below.refl _ w).alloc (Nat.le_refl _) _)
set_option maxRecDepth 100000 in
set_option maxHeartbeats 2000000 in
theorem files_Path_in (s : ByteArray) (w : World) (h : s.size ≤ 60) : CallsIn Fence.wide 5 Tryz.prog 103 #[.string s] w fun e w' => e = .returned (.bool ((splitS 47 s).all (fun p => partB p.data.toList))) ∧ Below w.heap.size w w':=by
 have h' : ¬ (60 : Int) < (s.size : Int):=by omega
 have hfl : Fence.wide.fn 103:=trivial
 have hfs : Fence.wide.fn 193:=trivial
 refine callsIn_of_wp_marks Tryz.func103 rfl hfl ?_ rfl
 simp only [Tryz.ntmps103,List.size_toArray,List.length_cons,List.length_nil,Nat.reduceAdd,Nat.reduceSub,Array.replicate_succ,Array.replicate_zero,List.push_toArray,List.append_toArray,List.nil_append,List.cons_append]
 gi_wp2_with (refine ⟨trivial,?_⟩;gi_at_call 141;refine (callsIn_wide.2 (SplitSeq_calls s _ _)).mono ?_;rintro e w' ⟨rfl,rfl⟩)
 obtain ⟨W0,hW0⟩ : ∃ W0,seqWorld (w.alloc (.cells #[.bool false] 4)) s ⟨#[47]⟩ = W0:=⟨_,rfl⟩
 have hz0 : W0.heap.size = w.heap.size + 4:=by rw [← hW0];simp [seqWorld]
 have hB0 : Below w.heap.size w W0:=by
  rw [← hW0]
  exact (((((Below.refl _ w).alloc (Nat.le_refl _) _).alloc q25_ _).alloc q46_ _).alloc q46_ _)
 have hcR : W0.cell? ⟨w.heap.size,0,none⟩ = some (.bool false):=by rw [← hW0];simp [seqWorld,go_sem]
 have hfR : W0.frozen? ⟨w.heap.size,0,none⟩ = false:=by rw [← hW0];simp [seqWorld,go_sem]
 have hc0 : W0.cell? ⟨w.heap.size + 1,0,none⟩ = some (.string s):=by rw [← hW0];simp [seqWorld,go_sem]
 have hf0 : W0.frozen? ⟨w.heap.size + 1,0,none⟩ = false:=by rw [← hW0];simp [seqWorld,go_sem]
 have hc1 : W0.cell? ⟨w.heap.size + 1 + 1,0,none⟩ = some (.string ⟨#[47]⟩):=by rw [← hW0];simp [seqWorld,go_sem]
 have hc2 : W0.cell? ⟨w.heap.size + 1 + 1 + 1,0,none⟩ = some (.int .i64 0):=by rw [← hW0];simp [seqWorld,go_sem]
 rw [hW0]
 refine rangeFunc_state (P:=Tryz.prog) rfl q5_ (gf:=193) (lb:=#[.pointer (some ⟨w.heap.size + 1 + 1,0,none⟩),.pointer (some ⟨w.heap.size + 1,0,none⟩),.pointer (some ⟨w.heap.size + 1 + 1 + 1,0,none⟩)]) rfl hfs (enters_of Tryz.func193 q9_ rfl)
  (encs:=fun x : ByteArray => #[.string x]) (B:=w.heap.size + 1) (n₀:=w.heap.size + 4) (S:=fun ys => ys = splitS 47 s) (Sp:=fun pre => pre <+: splitS 47 s) (Ok:=fun pre x => pre ++ [x] <+: splitS 47 s) ?seq q5_ q5_ (fun _ => rfl)
  (fun pre W => (pre.all (fun p => partB p.data.toList) = true ∧ W.cell? ⟨w.heap.size,0,none⟩ = some (.bool false) ∧ W.frozen? ⟨w.heap.size,0,none⟩ = false) ∧ Below w.heap.size w W)
  (fun pre W => (pre.all (fun p => partB p.data.toList) = false ∧ W.cell? ⟨w.heap.size,0,none⟩ = some (.bool false)) ∧ Below w.heap.size w W)
  (OwnFrom.and (Own.from (fun s A B row hs hg hr => ⟨hs.1,cell_kept hs.2.1 hg hr,(frozen_kept hs.2.1 hg hr).trans hs.2.2⟩) _) (ownFrom_below (Nat.le_refl _) q5_))
  (OwnFrom.and (Own.from (fun s A B row hs hg hr => ⟨hs.1,cell_kept hs.2 hg hr⟩) _) (ownFrom_below (Nat.le_refl _) q5_))
  (fun p A v hs => ⟨⟨hs.1.1,by rw [World.cell?_setCell_other _ _ _ _ q25_];exact hs.1.2.1,by rw [World.frozen?_setCell];exact hs.1.2.2⟩,hs.2.setCell (p:=⟨w.heap.size + 1,0,none⟩) q25_ v⟩)
  ⟨⟨rfl,hcR,hfR⟩,hB0⟩
  (fun x => { tmps:=#[.string s,undef,.pointer (some ⟨w.heap.size,0,none⟩),.string x,.string s,.int .i64 s.size,.bool false,.string s,.func (.func 193) #[] #[.pointer (some ⟨w.heap.size + 1 + 1,0,none⟩),.pointer (some ⟨w.heap.size + 1,0,none⟩),.pointer (some ⟨w.heap.size + 1 + 1 + 1,0,none⟩)],.string x,undef,undef,undef],defers:=[] }) ?assign ?body ?done ?stop
 case seq =>
  intro l J Jx W hb hJA hJS hY h0
  exact splitSeq1_in 4 q5_ l (w.heap.size + 1) (w.heap.size + 1 + 1) (w.heap.size + 1 + 1 + 1) (w.heap.size + 4) s 47 q5_ q5_ q5_ q5_ q5_ q5_ J Jx hJS hY W ((hb.cell (p:=⟨w.heap.size + 1,0,none⟩) q46_).trans hc0) ((hb.frozen (p:=⟨w.heap.size + 1,0,none⟩) q46_).trans hf0) ((hb.cell (p:=⟨w.heap.size + 1 + 1,0,none⟩) q46_).trans hc1) ((hb.cell (p:=⟨w.heap.size + 1 + 1 + 1,0,none⟩) q46_).trans hc2) h0
 case assign =>
  intro l x W K hK
  gi_wp2
  exact hK
 case body =>
  rintro l pre x W ⟨⟨hp,hcr,hfr⟩,hB⟩ hok
  have hxs : x.size ≤ 60:=Nat.le_trans (splitS_size 47 s x (hok.subset q25_)) h
  cases hx : partB x.data.toList with
  | true =>
   have hf:=part_f x q5_ (x.size + 1) q5_
   rw [hx] at hf
   have HX:=Lib.hid hx
   clear hx
   gi_wp2_with (refine ⟨trivial,?_⟩;gi_at_call 142;refine (CallsIn.inRound l (callsIn_wide.2 (files_part.calls (x.size + 1) x true _ hf))).mono ?_;rintro e w' ⟨rfl,⟨m,rfl⟩⟩)
   exact ⟨⟨Nat.le_refl _,fun _ _ h _ => h⟩,pw_below_drewN (Below.refl _ _) _,⟨by rw [List.all_append,hp];simp [HX.out],hcr,hfr⟩,pw_below_drewN hB _⟩
  | false =>
   have hf:=part_f x q5_ (x.size + 1) q5_
   rw [hx] at hf
   have HX:=Lib.hid hx
   clear hx
   gi_wp2_with (refine ⟨trivial,?_⟩;gi_at_call 142;refine (CallsIn.inRound l (callsIn_wide.2 (files_part.calls (x.size + 1) x false _ hf))).mono ?_;rintro e w' ⟨rfl,⟨m,rfl⟩⟩)
   exact ⟨KeepsOthers.trans (B:=W.drewN m) ⟨Nat.le_refl _,fun _ _ h _ => h⟩ (KeepsOthers.setCell _ _ _),⟨by rw [List.all_append,hp];simp [HX.out],World.cell?_setCell_same' _ _ _ (by rw [show (W.drewN m).cell? ⟨w.heap.size,0,none⟩ = W.cell? ⟨w.heap.size,0,none⟩ from rfl,hcr];rfl)⟩,(pw_below_drewN hB m).setCell (p:=⟨w.heap.size,0,none⟩) q25_ _⟩
 case done =>
  rintro D ys W hD rfl ⟨⟨hp,hcr,hfr⟩,hB⟩ hK
  gi_wp2
  have hK':=(KeepsOthers.setCell W ⟨w.heap.size,0,none⟩ (.bool true)).same D _ hK rfl
  refine ⟨by simp,.inl ⟨_,_,rfl,run_takeDeferred hK',?_⟩⟩
  have hc5:=cell_kept (World.cell?_setCell_same' W ⟨w.heap.size,0,none⟩ (.bool true) (by rw [hcr];rfl)) (grownBy_putObj' _ D (.deferred none)) (fun r e => by cases e;exact ⟨_,hK',rfl⟩)
  refine ⟨.bool true,?_,by rw [hp],(hB.setCell (p:=⟨w.heap.size,0,none⟩) q25_ _).trans (belowK_b (w:=w) (Nat.le_refl _) _ D _ _ q5_ hK' rfl rfl)⟩
  simp [results,Tryz.f103,go_sem,hc5]
 case stop =>
  rintro D pre W hD hpre ⟨⟨hp,hcr⟩,hB⟩ hK
  gi_wp2
  refine ⟨by simp,.inl ⟨_,_,rfl,run_takeDeferred hK,?_⟩⟩
  have hc5:=cell_kept hcr (grownBy_putObj' _ D (.deferred none)) (fun r e => by cases e;exact ⟨_,hK,rfl⟩)
  have hall : (splitS 47 s).all (fun p => partB p.data.toList) = false:=by
   obtain ⟨rest,hr⟩:=hpre
   rw [← hr,List.all_append,hp];rfl
  refine ⟨.bool false,?_,by rw [hall],hB.trans (belowK_b (w:=w) (Nat.le_refl _) W D _ _ q5_ hK rfl rfl)⟩
  simp [results,Tryz.f103,go_sem,hc5]
theorem files_Path.calls (a0 : ByteArray) (r : Bool) (w : World) (h : files_Path.f a0 = some r) :
  Calls Tryz.prog 103 #[.string a0] w fun e w' => e = .returned (.bool r) ∧ Below w.heap.size w w':=by
 obtain rfl:=Option.some.inj h
 have hz : a0.data.toList.length = a0.size:=rfl
 by_cases hs : a0.size ≤ 60
 ·have e : pathB a0.data.toList = (splitS 47 a0).all (fun p => partB p.data.toList):=by
   unfold pathB splitS
   rw [List.all_map,hz,decide_eq_true hs]
   rfl
  rw [e]
  exact callsIn_wide.1 (files_Path_in a0 w hs)
 ·have e : pathB a0.data.toList = false:=by unfold pathB;rw [hz,decide_eq_false hs];rfl
  rw [e]
  exact files_Path_long a0 w q5_
end Go.Proofs.YtennhpoemdaghaaGreatDoor.P
end
section
namespace Go.Proofs.YtennhpoemdaghaaGreatDoor.P
open Go Go.RowKit Go.Proofs.YtennhpoemdaghaaGreatDoorW.PrintWords
def glue (p : List UInt8) : List (List UInt8) → List (List UInt8)
 | [] => [p]
 | h :: t => (p ++ h) :: t
theorem glue_nil {l : List (List UInt8)} (h : l ≠ []) : glue [] l = l:=by
 cases l with
 | nil => exact absurd rfl h
 | cons a t => rfl
theorem extract_bytes (s : ByteArray) (a b : Nat) : s.extract a b = bytesB ((s.data.toList.take b).drop a):=by
 rw [← data_extract]
 rfl
theorem refSplit_gen (s : ByteArray) (c : UInt8) (hs : s.size ≤ 4294967296) : ∀ (d i from_ : Nat) (out : List ByteArray) (k : Nat),from_ ≤ i → i ≤ s.size → s.size - i = d → d + 1 < k → out.length + d < 8796093022000 →
  Rf05_Split.l0 k s (c.toNat : Int) out (from_ : Int) (i : Int) = some (out ++ (glue ((s.data.toList.take i).drop from_) (splitL c (s.data.toList.drop i))).map bytesB):=by
 intro d
 induction d with
 | zero =>
  intro i from_ out k h1 h2 h3 hk ho
  obtain ⟨k,rfl⟩ : ∃ m,k = m + 2:=⟨k - 2,by omega⟩
  have hi : i = s.size:=by omega
  subst hi
  have hw : wrap64 ((s.size : Int) + 1) = (s.size : Int) + 1:=by unfold wrap64;omega
  rw [Rf05_Split.l0,if_pos (Int.le_refl _),if_pos rfl,if_pos q5_,if_pos q5_,if_pos q5_,hw,Rf05_Split.l0,if_neg q5_]
  have hz : s.data.toList.length = s.size:=rfl
  have hd : s.data.toList.drop s.size = []:=List.drop_eq_nil_of_le q5_
  rw [hd,Int.toNat_natCast,Int.toNat_natCast,extract_bytes]
  simp [splitL,glue]
 | succ d ih =>
  intro i from_ out k h1 h2 h3 hk ho
  obtain ⟨k,rfl⟩ : ∃ m,k = m + 1:=⟨k - 1,by omega⟩
  have hi : i < s.size:=by omega
  have hz : s.data.toList.length = s.size:=rfl
  have hw : wrap64 ((i : Int) + 1) = ((i + 1 : Nat) : Int):=by unfold wrap64;omega
  rw [Rf05_Split.l0,if_pos q5_,if_neg q5_,if_pos q5_,if_pos q5_,bt_byteAt s i hi,hw]
  have hb : s.data.toList[i]'q5_ = byteAt s i:=by simp [byteAt,hz,hi]
  have hdr : s.data.toList.drop i = byteAt s i :: s.data.toList.drop (i + 1):=by rw [List.drop_eq_getElem_cons q5_,hb]
  by_cases hc : byteAt s i = c
  ·rw [if_pos (by rw [hc]),if_pos q5_,if_pos q5_,if_pos q5_]
   rw [ih (i + 1) (i + 1) _ k (Nat.le_refl _) q5_ q5_ q5_ (by rw [List.length_append,List.length_singleton];omega)]
   rw [hdr,splitL,if_pos hc]
   have e0 : (s.data.toList.take (i + 1)).drop (i + 1) = []:=List.drop_eq_nil_of_le (by rw [List.length_take];omega)
   rw [e0,glue_nil (splitL_ne _ _),Int.toNat_natCast,Int.toNat_natCast,extract_bytes]
   simp [glue]
  ·have hne : ¬ (((byteAt s i).toNat : Int) = (c.toNat : Int)):=fun e => hc (UInt8.toNat_inj.1 q5_)
   rw [if_neg hne,ih (i + 1) from_ out k q5_ q5_ q5_ q5_ q5_,hdr,splitL,if_neg hc]
   have e1 : (s.data.toList.take (i + 1)).drop from_ = (s.data.toList.take i).drop from_ ++ [byteAt s i]:=by
    rw [List.take_succ_eq_append_getElem q5_,hb,List.drop_append_of_le_length q46_]
   rw [e1]
   have hsn:=splitL_ne c (s.data.toList.drop (i + 1))
   cases hsp : splitL c (s.data.toList.drop (i + 1)) with
   | nil => exact absurd hsp hsn
   | cons a t => simp [glue]
theorem refSplit_f (s : ByteArray) (c : UInt8) (hs : s.size ≤ 4294967296) (k : Nat) (hk : s.size + 1 < k) : Rf05_Split.f k s (c.toNat : Int) = some (splitS c s):=by
 have h:=refSplit_gen s c hs s.size 0 0 [] k (Nat.le_refl _) (Nat.zero_le _) rfl hk q46_
 rw [List.take_zero,List.drop_nil,List.drop_zero,glue_nil (splitL_ne _ _),List.nil_append] at h
 exact h
theorem plainB_int (b : UInt8) : plainB b = decide ((97 ≤ (b.toNat : Int) ∧ (b.toNat : Int) ≤ 122) ∨ (65 ≤ (b.toNat : Int) ∧ (b.toNat : Int) ≤ 90) ∨ (48 ≤ (b.toNat : Int) ∧ (b.toNat : Int) ≤ 57) ∨ (b.toNat : Int) = 45 ∨ (b.toNat : Int) = 95 ∨ (b.toNat : Int) = 46) :=
 all_bytes (p:=fun b => plainB b = decide ((97 ≤ (b.toNat : Int) ∧ (b.toNat : Int) ≤ 122) ∨ (65 ≤ (b.toNat : Int) ∧ (b.toNat : Int) ≤ 90) ∨ (48 ≤ (b.toNat : Int) ∧ (b.toNat : Int) ≤ 57) ∨ (b.toNat : Int) = 45 ∨ (b.toNat : Int) = 95 ∨ (b.toNat : Int) = 46)) q56_ b
theorem refpart_f (s : ByteArray) (hs : s.size ≤ 140737488355328) (k : Nat) (hk : s.size < k) : Rf05_part.f k s = some (partB s.data.toList):=by
 unfold Rf05_part.f
 have h:=scan_gen (fun k i => Rf05_part.l0 k s i) s plainB (!(s.data.toList == []) && !(s.data.toList == [46]) && !(s.data.toList == [46,46])) false (fun k i => by
  show Rf05_part.l0 (k + 1) s (i : Int) = _
  simp only [Rf05_part.l0]
  by_cases h : i < s.size
  ·rw [if_pos q5_,if_pos q5_,if_pos h,bt_byteAt s i h,wrap_succ i s.size h hs,plainB_int]
   generalize Rf05_part.l0 k s ((i + 1 : Nat) : Int) = g
   generalize ((byteAt s i).toNat : Int) = n
   simp only [decide_eq_true_eq]
   repeat' split
   all_goals first | rfl | (exfalso;omega)
  ·rw [if_neg q5_,if_neg h,toList_eq]
   by_cases h0 : s.data.toList = []
   ·simp [h0]
   ·rw [if_neg h0]
    by_cases h1 : s.data.toList = [46]
    ·simp [h1]
    ·rw [if_neg h1]
     have e0 : (s.data.toList == []) = false:=by simpa using h0
     have e1 : (s.data.toList == [46]) = false:=by simpa using h1
     simp only [e0,e1];simp [bne]) (s.size - 0) k 0 rfl q5_
 rw [show ((0 : Nat) : Int) = 0 from rfl] at h
 simp only [List.drop_zero] at h
 rw [h]
 unfold partB
 cases s.data.toList.all plainB <;> simp
theorem refPath_gen (l : List ByteArray) (hl : l.length ≤ 4294967296) (hs : ∀ p ∈ l,p.size ≤ 4294967296) : ∀ (d i k : Nat),i ≤ l.length → l.length - i = d → (∀ p ∈ l,p.size + d + 1 < k) → d < k →
  Rf05_Path.l0 k l (i : Int) = some ((l.drop i).all fun p => partB p.data.toList):=by
 intro d
 induction d with
 | zero =>
  intro i k hi hd hk hk2
  obtain ⟨k,rfl⟩ : ∃ m,k = m + 1:=⟨k - 1,by omega⟩
  rw [Rf05_Path.l0,if_neg q5_,List.drop_eq_nil_of_le q5_]
  rfl
 | succ d ih =>
  intro i k hi hd hk hk2
  obtain ⟨k,rfl⟩ : ∃ m,k = m + 1:=⟨k - 1,by omega⟩
  have h : i < l.length:=by omega
  have hr : rdOf ByteArray.empty l (i : Int) = l[i]:=by simp [rdOf,h]
  have hw : wrap64 ((i : Int) + 1) = ((i + 1 : Nat) : Int):=by unfold wrap64;omega
  have hm : l[i] ∈ l:=List.getElem_mem h
  have hki:=hk _ hm
  have hsi:=hs _ hm
  rw [Rf05_Path.l0,if_pos q5_,if_pos q5_,hr,refpart_f _ q5_ k q5_,Option.bind_some,hw,List.drop_eq_getElem_cons h,List.all_cons]
  cases hp : partB l[i].data.toList with
  | true =>
   rw [if_pos rfl,ih (i + 1) k q5_ q5_ (fun p hp => by have:=hk p hp;omega) q5_]
   simp
  | false => rfl
theorem refPath_f (s : ByteArray) (k : Nat) (hk : 130 < k) : Rf05_Path.f k s = some (pathB s.data.toList):=by
 unfold Rf05_Path.f pathB
 have hz : s.data.toList.length = s.size:=rfl
 rw [hz]
 by_cases h : s.size ≤ 60
 ·rw [if_neg q5_]
  have hsp:=refSplit_f s 47 q5_ k q5_
  rw [show ((47 : UInt8).toNat : Int) = 47 from rfl] at hsp
  have hlen : (splitS 47 s).length ≤ s.size + 1:=by unfold splitS;rw [List.length_map];exact splitL_length _ _
  have hsz : ∀ p ∈ splitS 47 s,p.size ≤ s.size:=splitS_size 47 s
  have hg:=refPath_gen (splitS 47 s) q5_ (fun p hp => by have:=hsz p hp;omega) (splitS 47 s).length 0 k (Nat.zero_le _) rfl (fun p hp => by have:=hsz p hp;omega) q5_
  rw [show ((0 : Nat) : Int) = 0 from rfl,List.drop_zero] at hg
  rw [hsp,Option.bind_some,hg,decide_eq_true h,Bool.true_and]
  unfold splitS
  rw [List.all_map]
  rfl
 ·rw [if_pos q5_,decide_eq_false h]
  rfl
end Go.Proofs.YtennhpoemdaghaaGreatDoor.P
end
section
namespace Go.Proofs.YtennhpoemdaghaaGreatDoor.P
open Go Go.RowKit Go.Shelf Go.Proofs.YtennhpoemdaghaaGreatDoorW.PrintWords
attribute [local go_sem] Oper.semAt_some
set_option maxRecDepth 100000 in
set_option maxHeartbeats 2000000 in
theorem ver_words_in (s : ByteArray) (w : World) (h : s.size ≤ 60) (g : Nat) (q : List UInt8 → Bool) (hg : ∀ (x : ByteArray) (W : World),x.size ≤ 60 → Calls Tryz.prog g #[.string x] W fun e w' => e = .returned (.bool (q x.data.toList)) ∧ Drawn0 W w') (eg : ∀ args w,(callFunc g args).run Tryz.prog w = .ok (.enter g args) w) : CallsIn Fence.wide 5 Tryz.prog 108 #[.string s,.func (.func g) #[] #[]] w fun e w' => e = .returned (.bool ((splitS 46 s).all (fun p => wordsB p.data.toList && q p.data.toList))) ∧ Below w.heap.size w w':=by
 have hfl : Fence.wide.fn 108:=trivial
 have hfs : Fence.wide.fn 193:=trivial
 refine callsIn_of_wp_marks Tryz.func108 rfl hfl ?_ rfl
 simp only [Tryz.ntmps108,List.size_toArray,List.length_cons,List.length_nil,Nat.reduceAdd,Nat.reduceSub,Array.replicate_succ,Array.replicate_zero,List.push_toArray,List.append_toArray,List.nil_append,List.cons_append]
 gi_wp2_with (refine ⟨trivial,?_⟩;gi_at_call 141;refine (callsIn_wide.2 (SplitSeq_calls s _ _)).mono ?_;rintro e w' ⟨rfl,rfl⟩)
 obtain ⟨W0,hW0⟩ : ∃ W0,seqWorld ((w.alloc (.cells #[.func (.func g) #[] #[]] 102)).alloc (.cells #[.bool false] 4)) s ⟨#[46]⟩ = W0:=⟨_,rfl⟩
 have hz0 : W0.heap.size = w.heap.size + 5:=by rw [← hW0];simp [seqWorld]
 have hB0 : Below w.heap.size w W0:=by
  rw [← hW0]
  exact ((((((Below.refl _ w).alloc (Nat.le_refl _) _).alloc q25_ _).alloc (by simp [World.size_alloc];try omega) _).alloc (by simp [World.size_alloc];try omega) _).alloc (by simp [World.size_alloc];try omega) _)
 have hcR : W0.cell? ⟨w.heap.size + 1,0,none⟩ = some (.bool false):=by rw [← hW0];simp [seqWorld,go_sem]
 have hcM : W0.cell? ⟨w.heap.size,0,none⟩ = some (.func (.func g) #[] #[]):=by rw [← hW0];simp [seqWorld,go_sem]
 have hfR : W0.frozen? ⟨w.heap.size + 1,0,none⟩ = false:=by rw [← hW0];simp [seqWorld,go_sem]
 have hc0 : W0.cell? ⟨w.heap.size + 1 + 1,0,none⟩ = some (.string s):=by rw [← hW0];simp [seqWorld,go_sem]
 have hf0 : W0.frozen? ⟨w.heap.size + 1 + 1,0,none⟩ = false:=by rw [← hW0];simp [seqWorld,go_sem]
 have hc1 : W0.cell? ⟨w.heap.size + 1 + 1 + 1,0,none⟩ = some (.string ⟨#[46]⟩):=by rw [← hW0];simp [seqWorld,go_sem]
 have hc2 : W0.cell? ⟨w.heap.size + 1 + 1 + 1 + 1,0,none⟩ = some (.int .i64 0):=by rw [← hW0];simp [seqWorld,go_sem]
 rw [hW0]
 refine rangeFunc_state (P:=Tryz.prog) rfl q5_ (gf:=193) (lb:=#[.pointer (some ⟨w.heap.size + 1 + 1 + 1,0,none⟩),.pointer (some ⟨w.heap.size + 1 + 1,0,none⟩),.pointer (some ⟨w.heap.size + 1 + 1 + 1 + 1,0,none⟩)]) rfl hfs (enters_of Tryz.func193 q9_ rfl)
  (encs:=fun x : ByteArray => #[.string x]) (B:=w.heap.size + 1 + 1) (n₀:=w.heap.size + 5) (S:=fun ys => ys = splitS 46 s) (Sp:=fun pre => pre <+: splitS 46 s) (Ok:=fun pre x => pre ++ [x] <+: splitS 46 s) ?seq q5_ q5_ (fun _ => rfl)
  (fun pre W => (pre.all (fun p => wordsB p.data.toList && q p.data.toList) = true ∧ W.cell? ⟨w.heap.size + 1,0,none⟩ = some (.bool false) ∧ W.frozen? ⟨w.heap.size + 1,0,none⟩ = false ∧ W.cell? ⟨w.heap.size,0,none⟩ = some (.func (.func g) #[] #[])) ∧ Below w.heap.size w W)
  (fun pre W => (pre.all (fun p => wordsB p.data.toList && q p.data.toList) = false ∧ W.cell? ⟨w.heap.size + 1,0,none⟩ = some (.bool false)) ∧ Below w.heap.size w W)
  (OwnFrom.and (Own.from (fun s A B row hs hg hr => ⟨hs.1,cell_kept hs.2.1 hg hr,(frozen_kept hs.2.1 hg hr).trans hs.2.2.1,cell_kept hs.2.2.2 hg hr⟩) _) (ownFrom_below (Nat.le_refl _) q5_))
  (OwnFrom.and (Own.from (fun s A B row hs hg hr => ⟨hs.1,cell_kept hs.2 hg hr⟩) _) (ownFrom_below (Nat.le_refl _) q5_))
  (fun p A v hs => ⟨⟨hs.1.1,by rw [World.cell?_setCell_other _ _ _ _ q25_];exact hs.1.2.1,by rw [World.frozen?_setCell];exact hs.1.2.2.1,by rw [World.cell?_setCell_other _ _ _ _ q25_];exact hs.1.2.2.2⟩,hs.2.setCell (p:=⟨w.heap.size + 1 + 1,0,none⟩) (Nat.le_trans (Nat.le_succ _) (Nat.le_succ _)) v⟩)
  ⟨⟨rfl,hcR,hfR,hcM⟩,hB0⟩
  (fun x => { tmps:=#[.string s,.func (.func g) #[] #[],undef,.pointer (some ⟨w.heap.size,0,none⟩),.pointer (some ⟨w.heap.size + 1,0,none⟩),.string x,.string s,.func (.func 193) #[] #[.pointer (some ⟨w.heap.size + 1 + 1 + 1,0,none⟩),.pointer (some ⟨w.heap.size + 1 + 1,0,none⟩),.pointer (some ⟨w.heap.size + 1 + 1 + 1 + 1,0,none⟩)],.string x,undef,undef,undef,undef,undef,undef,undef,undef,undef],defers:=[] }) ?assign ?body ?done ?stop
 case seq =>
  intro l J Jx W hb hJA hJS hY h0
  exact splitSeq1_in 4 q5_ l (w.heap.size + 1 + 1) (w.heap.size + 1 + 1 + 1) (w.heap.size + 1 + 1 + 1 + 1) (w.heap.size + 5) s 46 q5_ q5_ q5_ q5_ q5_ q5_ J Jx hJS hY W ((hb.cell (p:=⟨w.heap.size + 1 + 1,0,none⟩) q46_).trans hc0) ((hb.frozen (p:=⟨w.heap.size + 1 + 1,0,none⟩) q46_).trans hf0) ((hb.cell (p:=⟨w.heap.size + 1 + 1 + 1,0,none⟩) q46_).trans hc1) ((hb.cell (p:=⟨w.heap.size + 1 + 1 + 1 + 1,0,none⟩) q46_).trans hc2) h0
 case assign =>
  intro l x W K hK
  gi_wp2
  exact hK
 case body =>
  rintro l pre x W ⟨⟨hp,hcr,hfr,hcm⟩,hB⟩ hok
  have hxs : x.size ≤ 60:=Nat.le_trans (splitS_size 46 s x (hok.subset q25_)) h
  have key : ∀ (m : Nat),KeepsOthers W (W.drewN m):=fun m => ⟨Nat.le_refl _,fun _ _ h _ => h⟩
  have keyD : ∀ (w' : World),Drawn0 W w' → KeepsOthers W w':=fun w' hd => by obtain ⟨m,rfl⟩:=hd;exact key m
  cases hx : wordsB x.data.toList with
  | false =>
   have hf:=word_f x q5_ (x.size + 1) q5_
   rw [hx] at hf
   have HX:=Lib.hid hx
   clear hx
   gi_wp2_with (first | (refine ⟨trivial,?_⟩;gi_at_call 145;refine (CallsIn.inRound l (callsIn_wide.2 (ver_word.calls (x.size + 1) x false _ hf))).mono ?_;rintro e w' ⟨rfl,⟨m,rfl⟩⟩))
   refine ⟨fun (f_ : FuncId) (e_ : Option.none = some f_) => (nomatch e_),?_⟩
   gi_wp2
   exact ⟨(key m).trans (KeepsOthers.setCell _ _ _),⟨by rw [List.all_append,hp];simp [HX.out],World.cell?_setCell_same' _ _ _ (by rw [show (W.drewN m).cell? ⟨w.heap.size + 1,0,none⟩ = W.cell? ⟨w.heap.size + 1,0,none⟩ from rfl,hcr];rfl)⟩,(pw_below_drewN hB m).setCell (p:=⟨w.heap.size + 1,0,none⟩) q25_ _⟩
  | true =>
   have hf:=word_f x q5_ (x.size + 1) q5_
   rw [hx] at hf
   have HX:=Lib.hid hx
   clear hx
   have HG:=fun W => hg x W hxs
   have hgf : Fence.wide.fn g:=trivial
   cases hq : q x.data.toList with
   | true =>
    rw [hq] at HG
    have HQ:=Lib.hid hq
    clear hq
    gi_wp2_with (first
     | (with_reducible refine CallsIn.mono (CallsIn.inRound l (callsIn_wide.2 (HG _))) ?_;rintro e w' ⟨rfl,⟨m2,rfl⟩⟩)
     | (refine ⟨trivial,?_⟩;gi_at_call 145;refine (CallsIn.inRound l (callsIn_wide.2 (ver_word.calls (x.size + 1) x true _ hf))).mono ?_;rintro e w' ⟨rfl,⟨m,rfl⟩⟩))
    exact ⟨key _,pw_below_drewN (Below.refl _ _) _,⟨by rw [List.all_append,hp];simp [HX.out,HQ.out],hcr,hfr,hcm⟩,pw_below_drewN hB _⟩
   | false =>
    rw [hq] at HG
    have HQ:=Lib.hid hq
    clear hq
    gi_wp2_with (first
     | (with_reducible refine CallsIn.mono (CallsIn.inRound l (callsIn_wide.2 (HG _))) ?_;rintro e w' ⟨rfl,⟨m2,rfl⟩⟩)
     | (refine ⟨trivial,?_⟩;gi_at_call 145;refine (CallsIn.inRound l (callsIn_wide.2 (ver_word.calls (x.size + 1) x true _ hf))).mono ?_;rintro e w' ⟨rfl,⟨m,rfl⟩⟩))
    exact ⟨(key (m + m2)).trans (KeepsOthers.setCell _ _ _),⟨by rw [List.all_append,hp];simp [HX.out,HQ.out],World.cell?_setCell_same' _ _ _ (by rw [show (W.drewN (m + m2)).cell? ⟨w.heap.size + 1,0,none⟩ = W.cell? ⟨w.heap.size + 1,0,none⟩ from rfl,hcr];rfl)⟩,(pw_below_drewN hB _).setCell (p:=⟨w.heap.size + 1,0,none⟩) q25_ _⟩
 case done =>
  rintro D ys W hD rfl ⟨⟨hp,hcr,hfr,_⟩,hB⟩ hK
  gi_wp2
  have hK':=(KeepsOthers.setCell W ⟨w.heap.size + 1,0,none⟩ (.bool true)).same D _ hK rfl
  refine ⟨by simp,.inl ⟨_,_,rfl,run_takeDeferred hK',?_⟩⟩
  have hc5:=cell_kept (World.cell?_setCell_same' W ⟨w.heap.size + 1,0,none⟩ (.bool true) (by rw [hcr];rfl)) (grownBy_putObj' _ D (.deferred none)) (fun r e => by cases e;exact ⟨_,hK',rfl⟩)
  refine ⟨.bool true,?_,by rw [hp],(hB.setCell (p:=⟨w.heap.size + 1,0,none⟩) q25_ _).trans (belowK_b (w:=w) (Nat.le_refl _) _ D _ _ q5_ hK' rfl rfl)⟩
  simp [results,Tryz.f108,go_sem,hc5]
 case stop =>
  rintro D pre W hD hpre ⟨⟨hp,hcr⟩,hB⟩ hK
  gi_wp2
  refine ⟨by simp,.inl ⟨_,_,rfl,run_takeDeferred hK,?_⟩⟩
  have hc5:=cell_kept hcr (grownBy_putObj' _ D (.deferred none)) (fun r e => by cases e;exact ⟨_,hK,rfl⟩)
  have hall : (splitS 46 s).all (fun p => wordsB p.data.toList && q p.data.toList) = false:=by
   obtain ⟨rest,hr⟩:=hpre
   rw [← hr,List.all_append,hp];rfl
  refine ⟨.bool false,?_,by rw [hall],hB.trans (belowK_b (w:=w) (Nat.le_refl _) W D _ _ q5_ hK rfl rfl)⟩
  simp [results,Tryz.f108,go_sem,hc5]
end Go.Proofs.YtennhpoemdaghaaGreatDoor.P
end
section

end
section
namespace Go.Proofs.YtennhpoemdaghaaGreatDoor.P
open Go Go.RowKit Go.Shelf Go.Proofs.YtennhpoemdaghaaGreatDoorW.PrintWords
def numB (n : Int) : Bool:=decide (0 ≤ n) && decide (n ≤ 999999999)
def identsB (l : List UInt8) : Bool:=(splitL 46 l).all wordsB
def preB (l : List UInt8) : Bool:=(splitL 46 l).all (fun p => wordsB p && tightB p)
def verB (a b c : Int) (pre build : List UInt8) : Bool :=
 numB a && numB b && numB c && decide (pre.length ≤ 30) && decide (build.length ≤ 30) && (pre == [] || preB pre) && (build == [] || identsB build)
def ver_Check.f (a0_0 : Int) (a0_1 : Int) (a0_2 : Int) (a0_3 : ByteArray) (a0_4 : ByteArray) : Option Bool:=some (verB a0_0 a0_1 a0_2 a0_3.data.toList a0_4.data.toList)
theorem num_any (n : Int) (w : World) : Calls Tryz.prog 107 #[.int .i64 n] w fun e w' => e = .returned (.bool (numB n)) ∧ w = w':=by
 by_cases h : 0 ≤ n
 ·have e : numB n = decide (n ≤ 999999999):=by unfold numB;simp [h]
  rw [e]
  go_enter Tryz.func107,Tryz.ntmps107
  go_wp2
  go_ret
  exact ⟨rfl,rfl⟩
 ·have e : numB n = false:=by unfold numB;simp [h]
  rw [e]
  have h' : ¬ (0 ≤ n):=h
  go_enter Tryz.func107,Tryz.ntmps107
  go_wp2
  go_ret
  exact ⟨rfl,rfl⟩
theorem any_calls (x : ByteArray) (w : World) : Calls Tryz.prog 106 #[.string x] w fun e w' => e = .returned (.bool true) ∧ Drawn0 w w':=by
 go_enter Tryz.func106,Tryz.ntmps106
 go_wp2
 go_ret
 exact ⟨rfl,Drawn0.refl _⟩
theorem words_tight (s : ByteArray) (w : World) (h : s.size ≤ 60) : Calls Tryz.prog 108 #[.string s,.func (.func 109) #[] #[]] w fun e w' => e = .returned (.bool (preB s.data.toList)) ∧ Below w.heap.size w w':=by
 have hp:=callsIn_wide.1 (ver_words_in s w h 109 tightB (fun x W hx => ver_tight.calls (x.size + 1) x _ W (tight_f x q5_ _ q5_)) (enters_of Tryz.func109 q9_ rfl))
 have e : (splitS 46 s).all (fun p => wordsB p.data.toList && tightB p.data.toList) = preB s.data.toList:=by unfold splitS preB;rw [List.all_map];rfl
 rw [e] at hp
 exact hp
theorem words_any (s : ByteArray) (w : World) (h : s.size ≤ 60) : Calls Tryz.prog 108 #[.string s,.func (.func 106) #[] #[]] w fun e w' => e = .returned (.bool (identsB s.data.toList)) ∧ Below w.heap.size w w':=by
 have hp:=callsIn_wide.1 (ver_words_in s w h 106 (fun _ => true) (fun x W hx => any_calls x W) (enters_of Tryz.func106 q9_ rfl))
 have e : (splitS 46 s).all (fun p => wordsB p.data.toList && true) = identsB s.data.toList:=by unfold splitS identsB;rw [List.all_map];simp;rfl
 rw [e] at hp
 exact hp
theorem bcell {W w1 : World} (hb : Below W.heap.size W w1) : (∀ b o,b < W.heap.size → w1.cell? ⟨b,o,none⟩ = W.cell? ⟨b,o,none⟩) ∧ (∀ b o,b < W.heap.size → w1.frozen? ⟨b,o,none⟩ = W.frozen? ⟨b,o,none⟩) :=
 ⟨fun b o h => hb.cell (p:=⟨b,o,none⟩) h,fun b o h => hb.frozen (p:=⟨b,o,none⟩) h⟩
theorem below_box {w w1 : World} {o : Obj} (hb : Below (w.alloc o).heap.size (w.alloc o) w1) : Below w.heap.size w w1 :=
 ((Below.refl _ w).alloc (Nat.le_refl _) o).trans (hb.mono q25_)
set_option maxRecDepth 100000 in
set_option maxHeartbeats 4000000 in
theorem check_n1 (a b c : Int) (p q : ByteArray) (w : World) (h1 : numB a = false) : Calls Tryz.prog 74 #[.agg #[.int .i64 a,.int .i64 b,.int .i64 c,.string p,.string q]] w fun e w' => e = .returned (.bool false) ∧ Below w.heap.size w w':=by
 go_enter Tryz.func74,Tryz.ntmps74
 go_wp2_with (first | (go_at_call 107;refine (num_any _ _).mono ?_;rintro e w' ⟨rfl,rfl⟩))
 go_ret
 exact ⟨rfl,(Below.refl _ w).alloc (Nat.le_refl _) _⟩
set_option maxRecDepth 100000 in
set_option maxHeartbeats 4000000 in
theorem check_n2 (a b c : Int) (p q : ByteArray) (w : World) (h1 : numB a = true) (h2 : numB b = false) : Calls Tryz.prog 74 #[.agg #[.int .i64 a,.int .i64 b,.int .i64 c,.string p,.string q]] w fun e w' => e = .returned (.bool false) ∧ Below w.heap.size w w':=by
 go_enter Tryz.func74,Tryz.ntmps74
 go_wp2_with (first | (go_at_call 107;refine (num_any _ _).mono ?_;rintro e w' ⟨rfl,rfl⟩))
 go_ret
 exact ⟨rfl,(Below.refl _ w).alloc (Nat.le_refl _) _⟩
set_option maxRecDepth 100000 in
set_option maxHeartbeats 4000000 in
theorem check_n3 (a b c : Int) (p q : ByteArray) (w : World) (h1 : numB a = true) (h2 : numB b = true) (h3 : numB c = false) : Calls Tryz.prog 74 #[.agg #[.int .i64 a,.int .i64 b,.int .i64 c,.string p,.string q]] w fun e w' => e = .returned (.bool false) ∧ Below w.heap.size w w':=by
 go_enter Tryz.func74,Tryz.ntmps74
 go_wp2_with (first | (go_at_call 107;refine (num_any _ _).mono ?_;rintro e w' ⟨rfl,rfl⟩))
 go_ret
 exact ⟨rfl,(Below.refl _ w).alloc (Nat.le_refl _) _⟩
set_option maxRecDepth 100000 in
set_option maxHeartbeats 4000000 in
theorem check_p (a b c : Int) (p q : ByteArray) (w : World) (h1 : numB a = true) (h2 : numB b = true) (h3 : numB c = true) (hp : (30 : Int) < (p.size : Int)) : Calls Tryz.prog 74 #[.agg #[.int .i64 a,.int .i64 b,.int .i64 c,.string p,.string q]] w fun e w' => e = .returned (.bool false) ∧ Below w.heap.size w w':=by
 go_enter Tryz.func74,Tryz.ntmps74
 go_wp2_with (first | (go_at_call 107;refine (num_any _ _).mono ?_;rintro e w' ⟨rfl,rfl⟩))
 go_ret
 exact ⟨rfl,(Below.refl _ w).alloc (Nat.le_refl _) _⟩
set_option maxRecDepth 100000 in
set_option maxHeartbeats 4000000 in
theorem check_q (a b c : Int) (p q : ByteArray) (w : World) (h1 : numB a = true) (h2 : numB b = true) (h3 : numB c = true) (hp : ¬ (30 : Int) < (p.size : Int)) (hq : (30 : Int) < (q.size : Int)) : Calls Tryz.prog 74 #[.agg #[.int .i64 a,.int .i64 b,.int .i64 c,.string p,.string q]] w fun e w' => e = .returned (.bool false) ∧ Below w.heap.size w w':=by
 go_enter Tryz.func74,Tryz.ntmps74
 go_wp2_with (first | (go_at_call 107;refine (num_any _ _).mono ?_;rintro e w' ⟨rfl,rfl⟩))
 go_ret
 exact ⟨rfl,(Below.refl _ w).alloc (Nat.le_refl _) _⟩
set_option maxRecDepth 100000 in
set_option maxHeartbeats 4000000 in
theorem check_ee (a b c : Int) (p q : ByteArray) (w : World) (h1 : numB a = true) (h2 : numB b = true) (h3 : numB c = true) (hp : ¬ (30 : Int) < (p.size : Int)) (hq : ¬ (30 : Int) < (q.size : Int)) (e1 : p.toList.isEmpty = true) (e2 : q.toList.isEmpty = true) : Calls Tryz.prog 74 #[.agg #[.int .i64 a,.int .i64 b,.int .i64 c,.string p,.string q]] w fun e w' => e = .returned (.bool true) ∧ Below w.heap.size w w':=by
 have hp60 : p.size ≤ 60:=by omega
 have hq60 : q.size ≤ 60:=by omega
 go_enter Tryz.func74,Tryz.ntmps74
 go_wp2_with (first | (go_at_call 107;refine (num_any _ _).mono ?_;rintro e w' ⟨rfl,rfl⟩))
 go_ret
 exact ⟨rfl,(Below.refl _ w).alloc (Nat.le_refl _) _⟩
set_option maxRecDepth 100000 in
set_option maxHeartbeats 4000000 in
theorem check_eq (a b c : Int) (p q : ByteArray) (w : World) (h1 : numB a = true) (h2 : numB b = true) (h3 : numB c = true) (hp : ¬ (30 : Int) < (p.size : Int)) (hq : ¬ (30 : Int) < (q.size : Int)) (e1 : p.toList.isEmpty = true) (e2 : q.toList.isEmpty = false) : Calls Tryz.prog 74 #[.agg #[.int .i64 a,.int .i64 b,.int .i64 c,.string p,.string q]] w fun e w' => e = .returned (.bool (identsB q.data.toList)) ∧ Below w.heap.size w w':=by
 have hp60 : p.size ≤ 60:=by omega
 have hq60 : q.size ≤ 60:=by omega
 go_enter Tryz.func74,Tryz.ntmps74
 go_wp2_with (first | (go_at_call 107;refine (num_any _ _).mono ?_;rintro e w' ⟨rfl,rfl⟩) | (go_at_call 108;with_reducible refine (words_any _ _ hq60).mono ?_;rintro e w3 ⟨rfl,hb3⟩))
 go_ret
 exact ⟨rfl,below_box hb3⟩
set_option maxRecDepth 100000 in
set_option maxHeartbeats 4000000 in
theorem check_pf (a b c : Int) (p q : ByteArray) (w : World) (h1 : numB a = true) (h2 : numB b = true) (h3 : numB c = true) (hp : ¬ (30 : Int) < (p.size : Int)) (hq : ¬ (30 : Int) < (q.size : Int)) (e1 : p.toList.isEmpty = false) (HPQ : RowKit.Hid (preB p.data.toList = false)) : Calls Tryz.prog 74 #[.agg #[.int .i64 a,.int .i64 b,.int .i64 c,.string p,.string q]] w fun e w' => e = .returned (.bool false) ∧ Below w.heap.size w w':=by
 have hp60 : p.size ≤ 60:=by omega
 have hq60 : q.size ≤ 60:=by omega
 go_enter Tryz.func74,Tryz.ntmps74
 go_wp2_with (first | (go_at_call 107;refine (num_any _ _).mono ?_;rintro e w' ⟨rfl,rfl⟩) | (go_at_call 108;with_reducible refine (words_tight _ _ hp60).mono ?_;rintro e w2 ⟨rfl,hb⟩;obtain ⟨hcell,hfro⟩:=bcell hb;have HB:=Lib.hid (below_box hb);clear hb;rw [HPQ.out]))
 go_ret
 exact ⟨rfl,HB.out⟩
set_option maxRecDepth 100000 in
set_option maxHeartbeats 4000000 in
theorem check_pe (a b c : Int) (p q : ByteArray) (w : World) (h1 : numB a = true) (h2 : numB b = true) (h3 : numB c = true) (hp : ¬ (30 : Int) < (p.size : Int)) (hq : ¬ (30 : Int) < (q.size : Int)) (e1 : p.toList.isEmpty = false) (HPQ : RowKit.Hid (preB p.data.toList = true)) (e2 : q.toList.isEmpty = true) : Calls Tryz.prog 74 #[.agg #[.int .i64 a,.int .i64 b,.int .i64 c,.string p,.string q]] w fun e w' => e = .returned (.bool true) ∧ Below w.heap.size w w':=by
 have hp60 : p.size ≤ 60:=by omega
 have hq60 : q.size ≤ 60:=by omega
 go_enter Tryz.func74,Tryz.ntmps74
 go_wp2_with (first | (go_at_call 107;refine (num_any _ _).mono ?_;rintro e w' ⟨rfl,rfl⟩) | (go_at_call 108;with_reducible refine (words_tight _ _ hp60).mono ?_;rintro e w2 ⟨rfl,hb⟩;obtain ⟨hcell,hfro⟩:=bcell hb;have HB:=Lib.hid (below_box hb);clear hb;rw [HPQ.out]))
 go_ret
 exact ⟨rfl,HB.out⟩
set_option maxRecDepth 100000 in
set_option maxHeartbeats 4000000 in
theorem check_pq (a b c : Int) (p q : ByteArray) (w : World) (h1 : numB a = true) (h2 : numB b = true) (h3 : numB c = true) (hp : ¬ (30 : Int) < (p.size : Int)) (hq : ¬ (30 : Int) < (q.size : Int)) (e1 : p.toList.isEmpty = false) (HPQ : RowKit.Hid (preB p.data.toList = true)) (e2 : q.toList.isEmpty = false) : Calls Tryz.prog 74 #[.agg #[.int .i64 a,.int .i64 b,.int .i64 c,.string p,.string q]] w fun e w' => e = .returned (.bool (identsB q.data.toList)) ∧ Below w.heap.size w w':=by
 have hp60 : p.size ≤ 60:=by omega
 have hq60 : q.size ≤ 60:=by omega
 go_enter Tryz.func74,Tryz.ntmps74
 go_wp2_with (first | (go_at_call 108;with_reducible refine (words_any _ _ hq60).mono ?_;rintro e w3 ⟨rfl,hb3⟩) | (go_at_call 107;refine (num_any _ _).mono ?_;rintro e w' ⟨rfl,rfl⟩) | (go_at_call 108;with_reducible refine (words_tight _ _ hp60).mono ?_;rintro e w2 ⟨rfl,hb⟩;obtain ⟨hcell,hfro⟩:=bcell hb;have HB:=Lib.hid (below_box hb);have hsz:=hb.size;clear hb;rw [HPQ.out]))
 go_ret
 exact ⟨rfl,HB.out.trans (hb3.mono (by simp at hsz;omega))⟩
theorem ver_Check.calls (a0_0 : Int) (a0_1 : Int) (a0_2 : Int) (a0_3 : ByteArray) (a0_4 : ByteArray) (r : Bool) (w : World) (h : ver_Check.f a0_0 a0_1 a0_2 a0_3 a0_4 = some r) :
  Calls Tryz.prog 74 #[.agg #[.int .i64 a0_0,.int .i64 a0_1,.int .i64 a0_2,.string a0_3,.string a0_4]] w fun e w' => e = .returned (.bool r) ∧ Below w.heap.size w w':=by
 obtain rfl:=Option.some.inj h
 have hzp : a0_3.data.toList.length = a0_3.size:=rfl
 have hzq : a0_4.data.toList.length = a0_4.size:=rfl
 have te : ∀ s : ByteArray,s.toList.isEmpty = (s.data.toList == []):=fun s => by rw [toList_eq];cases s.data.toList <;> rfl
 unfold verB
 rw [hzp,hzq]
 cases h1 : numB a0_0 with
 | false => simpa using check_n1 _ _ _ _ _ w h1
 | true =>
 cases h2 : numB a0_1 with
 | false => simpa using check_n2 _ _ _ _ _ w h1 h2
 | true =>
 cases h3 : numB a0_2 with
 | false => simpa using check_n3 _ _ _ _ _ w h1 h2 h3
 | true =>
 by_cases hp : (30 : Int) < (a0_3.size : Int)
 ·rw [decide_eq_false (show ¬ a0_3.size ≤ 30 by omega)];simpa using check_p _ _ _ _ _ w h1 h2 h3 hp
 by_cases hq : (30 : Int) < (a0_4.size : Int)
 ·rw [decide_eq_false (show ¬ a0_4.size ≤ 30 by omega)];simpa using check_q _ _ _ _ _ w h1 h2 h3 hp hq
 rw [decide_eq_true (show a0_3.size ≤ 30 by omega),decide_eq_true (show a0_4.size ≤ 30 by omega),← te,← te]
 cases e1 : a0_3.toList.isEmpty with
 | true =>
  cases e2 : a0_4.toList.isEmpty with
  | true => simpa using check_ee _ _ _ _ _ w h1 h2 h3 hp hq e1 e2
  | false => simpa using check_eq _ _ _ _ _ w h1 h2 h3 hp hq e1 e2
 | false =>
  cases hpq : preB a0_3.data.toList with
  | false => simpa using check_pf _ _ _ _ _ w h1 h2 h3 hp hq e1 (Lib.hid hpq)
  | true =>
   cases e2 : a0_4.toList.isEmpty with
   | true => simpa using check_pe _ _ _ _ _ w h1 h2 h3 hp hq e1 (Lib.hid hpq) e2
   | false => simpa using check_pq _ _ _ _ _ w h1 h2 h3 hp hq e1 (Lib.hid hpq) e2
end Go.Proofs.YtennhpoemdaghaaGreatDoor.P
end
section
namespace Go.Proofs.YtennhpoemdaghaaGreatDoor.P
open Go.RowKit Go.Proofs.YtennhpoemdaghaaGreatDoorW.PrintWords Go.Proofs.YtennhpoemdaghaaGreatDoorW.PrintLast Go.Proofs.YtennhpoemdaghaaGreatDoorW.PrintMore
def Rf07_digits.l0 : Nat → ByteArray → Int → Option (Bool)
 | 0,_,_ => none
 | k + 1,x0,x3 => if x3 < (x0.size : Int) then (if 0 ≤ x3 then (if (bt x0 x3) < 48 then (some false) else (if (bt x0 x3) > 57 then (some false) else (Rf07_digits.l0 k x0 (wrap64 (x3 + 1))))) else (none)) else (some (x0.toList != ([] : List UInt8)))
def Rf07_digits.f (k : Nat) (a0 : ByteArray) : Option (Bool):=Rf07_digits.l0 k a0 0
set_option maxHeartbeats 8000000 in
set_option maxRecDepth 100000 in
theorem Rf07_digits.calls (k : Nat) (a0 : ByteArray) (r : Bool) (w : World) (h : Rf07_digits.f k a0 = some r) :
  Calls Tryz.prog 135 #[.string a0] w fun e w' => e = .returned (.bool r) ∧ Drawn0 w w':=by
 have H : (Rf07_digits.l0 k a0 0) = some r:=h
 clear h
 have H':=Aside0.mk H
 clear H
 go_enter Tryz.func135,Tryz.ntmps135
 go_wp2
 go_loopg [3] k (fun kq v3 w' => ∃ (x3_1 : Int),v3 = .int .i64 x3_1 ∧ Aside0 (Rf07_digits.l0 kq a0 x3_1 = some r) ∧ Aside0 (kq ≤ k) ∧ Drawn0 w w')
 case atStart => exact ⟨(0),q12_,H',⟨Nat.le_refl _⟩,by repeat (first | exact Drawn0.refl _ | apply Drawn0.step)⟩
 case round =>
  clear H'
  try clear c1
  obtain ⟨x3_1,rfl,HA,HK1,⟨m1,rfl⟩⟩:=hrel
  cases gk with
  | zero => exact absurd HA.out (by simp [Rf07_digits.l0])
  | succ k1 =>
   have H:=HA.out
   clear HA
   simp only [Rf07_digits.l0] at H
   by_cases c2 : x3_1 < (a0.size : Int)
   ·rw [if_pos c2] at H
    have c2b0:=decide_eq_true c2
    clear c2
    by_cases c3 : 0 ≤ x3_1
    ·rw [if_pos c3] at H
     have c3b0:=decide_eq_true c3
     clear c3
     by_cases c5 : (bt a0 x3_1) < 48
     ·rw [if_pos c5] at H
      have c5b0:=decide_eq_true c5
      clear c5
      obtain rfl:=Option.some.inj H
      have p4 : 0 ≤ (x3_1 : Int):=of_decide_eq_true q1_
      have q4 : x3_1 < (a0.size : Int):=of_decide_eq_true q1_
      have hx4:=bt_at a0 x3_1
      replace p4:=eq_true p4
      replace q4:=eq_true q4
      go_wp2
      go_ret
      exact ⟨q3_,q4_⟩
     ·rw [if_neg c5] at H
      have c5b0:=decide_eq_false c5
      clear c5
      by_cases c7 : (bt a0 x3_1) > 57
      ·rw [if_pos c7] at H
       have c7b0 : decide (57 < (bt a0 x3_1)) = true:=decide_eq_true c7
       clear c7
       obtain rfl:=Option.some.inj H
       have p4 : 0 ≤ (x3_1 : Int):=of_decide_eq_true q1_
       have q4 : x3_1 < (a0.size : Int):=of_decide_eq_true q1_
       have hx4:=bt_at a0 x3_1
       replace p4:=eq_true p4
       replace q4:=eq_true q4
       have p6 : 0 ≤ (x3_1 : Int):=of_decide_eq_true q1_
       have q6 : x3_1 < (a0.size : Int):=of_decide_eq_true q1_
       have hx6:=bt_at a0 x3_1
       replace p6:=eq_true p6
       replace q6:=eq_true q6
       go_wp2
       go_ret
       exact ⟨q3_,q4_⟩
      ·rw [if_neg c7] at H
       have c7b0 : decide (57 < (bt a0 x3_1)) = false:=decide_eq_false c7
       clear c7
       have H':=Aside0.mk H
       clear H
       have p4 : 0 ≤ (x3_1 : Int):=of_decide_eq_true q1_
       have q4 : x3_1 < (a0.size : Int):=of_decide_eq_true q1_
       have hx4:=bt_at a0 x3_1
       replace p4:=eq_true p4
       replace q4:=eq_true q4
       have p6 : 0 ≤ (x3_1 : Int):=of_decide_eq_true q1_
       have q6 : x3_1 < (a0.size : Int):=of_decide_eq_true q1_
       have hx6:=bt_at a0 x3_1
       replace p6:=eq_true p6
       replace q6:=eq_true q6
       go_wp2
       go_roundg k1
       case measure => have:=HK1.out;omega
       case rel => exact ⟨(wrap64 (x3_1 + 1)),q12_,H',⟨by have:=HK1.out;omega⟩,by repeat (first | exact Drawn0.refl _ | apply Drawn0.step)⟩
    ·rw [if_neg c3] at H
     exact absurd H q25_
   ·rw [if_neg c2] at H
    have c2b0:=decide_eq_false c2
    clear c2
    obtain rfl:=Option.some.inj H
    go_wp2
    go_ret
    exact ⟨q3_,q4_⟩
end Go.Proofs.YtennhpoemdaghaaGreatDoor.P
end
section
namespace Go.Proofs.YtennhpoemdaghaaGreatDoor.P
open Go.RowKit Go.Proofs.YtennhpoemdaghaaGreatDoorW.PrintWords Go.Proofs.YtennhpoemdaghaaGreatDoorW.PrintLast Go.Proofs.YtennhpoemdaghaaGreatDoorW.PrintMore
mutual
def Rf07_identifiers.l0 : Nat → Bool → List ByteArray → Int → Option (Bool)
 | 0,_,_,_ => none
 | k + 1,x1,x5,x6 => if x6 < (x5.length : Int) then (Rf07_identifiers.l1 k x1 x5 x6 0) else (some true)
def Rf07_identifiers.l1 : Nat → Bool → List ByteArray → Int → Int → Option (Bool)
 | 0,_,_,_,_ => none
 | k + 1,x1,x5,x6,x7 => if 0 ≤ x6 then (if x6 < (x5.length : Int) then (if x7 < ((rdOf ByteArray.empty x5 x6).size : Int) then (if 0 ≤ x7 then (if (bt (rdOf ByteArray.empty x5 x6) x7) ≥ 97 then (if ((bt (rdOf ByteArray.empty x5 x6) x7) ≤ 122) then (Rf07_identifiers.l1 k x1 x5 x6 (wrap64 (x7 + 1))) else (if (bt (rdOf ByteArray.empty x5 x6) x7) ≥ 65 then (if ((bt (rdOf ByteArray.empty x5 x6) x7) ≤ 90) then (Rf07_identifiers.l1 k x1 x5 x6 (wrap64 (x7 + 1))) else (if (bt (rdOf ByteArray.empty x5 x6) x7) ≥ 48 then (if ((bt (rdOf ByteArray.empty x5 x6) x7) ≤ 57) then (Rf07_identifiers.l1 k x1 x5 x6 (wrap64 (x7 + 1))) else (if (bt (rdOf ByteArray.empty x5 x6) x7) = 45 then (Rf07_identifiers.l1 k x1 x5 x6 (wrap64 (x7 + 1))) else (some false))) else (if (bt (rdOf ByteArray.empty x5 x6) x7) = 45 then (Rf07_identifiers.l1 k x1 x5 x6 (wrap64 (x7 + 1))) else (some false)))) else (if (bt (rdOf ByteArray.empty x5 x6) x7) ≥ 48 then (if ((bt (rdOf ByteArray.empty x5 x6) x7) ≤ 57) then (Rf07_identifiers.l1 k x1 x5 x6 (wrap64 (x7 + 1))) else (if (bt (rdOf ByteArray.empty x5 x6) x7) = 45 then (Rf07_identifiers.l1 k x1 x5 x6 (wrap64 (x7 + 1))) else (some false))) else (if (bt (rdOf ByteArray.empty x5 x6) x7) = 45 then (Rf07_identifiers.l1 k x1 x5 x6 (wrap64 (x7 + 1))) else (some false))))) else (if (bt (rdOf ByteArray.empty x5 x6) x7) ≥ 65 then (if ((bt (rdOf ByteArray.empty x5 x6) x7) ≤ 90) then (Rf07_identifiers.l1 k x1 x5 x6 (wrap64 (x7 + 1))) else (if (bt (rdOf ByteArray.empty x5 x6) x7) ≥ 48 then (if ((bt (rdOf ByteArray.empty x5 x6) x7) ≤ 57) then (Rf07_identifiers.l1 k x1 x5 x6 (wrap64 (x7 + 1))) else (if (bt (rdOf ByteArray.empty x5 x6) x7) = 45 then (Rf07_identifiers.l1 k x1 x5 x6 (wrap64 (x7 + 1))) else (some false))) else (if (bt (rdOf ByteArray.empty x5 x6) x7) = 45 then (Rf07_identifiers.l1 k x1 x5 x6 (wrap64 (x7 + 1))) else (some false)))) else (if (bt (rdOf ByteArray.empty x5 x6) x7) ≥ 48 then (if ((bt (rdOf ByteArray.empty x5 x6) x7) ≤ 57) then (Rf07_identifiers.l1 k x1 x5 x6 (wrap64 (x7 + 1))) else (if (bt (rdOf ByteArray.empty x5 x6) x7) = 45 then (Rf07_identifiers.l1 k x1 x5 x6 (wrap64 (x7 + 1))) else (some false))) else (if (bt (rdOf ByteArray.empty x5 x6) x7) = 45 then (Rf07_identifiers.l1 k x1 x5 x6 (wrap64 (x7 + 1))) else (some false))))) else (none)) else (if (rdOf ByteArray.empty x5 x6).toList = ([] : List UInt8) then (some false) else (if x1 = true then (Rf07_identifiers.l0 k x1 x5 (wrap64 (x6 + 1))) else ((Rf07_digits.f k (rdOf ByteArray.empty x5 x6)).bind fun t108 => (if t108 = true then (if ((rdOf ByteArray.empty x5 x6).size : Int) > 1 then (if 0 < ((rdOf ByteArray.empty x5 x6).size : Int) then (if (bt (rdOf ByteArray.empty x5 x6) 0) = 48 then (some false) else (Rf07_identifiers.l0 k x1 x5 (wrap64 (x6 + 1)))) else (none)) else (Rf07_identifiers.l0 k x1 x5 (wrap64 (x6 + 1)))) else (Rf07_identifiers.l0 k x1 x5 (wrap64 (x6 + 1)))))))) else (none)) else (none)
end
def Rf07_identifiers.f (k : Nat) (a0 : ByteArray) (a1 : Bool) : Option (Bool):=(Rf05_Split.f k a0 46).bind fun t101 => (Rf07_identifiers.l0 k a1 t101 0)
set_option maxHeartbeats 8000000 in
set_option maxRecDepth 100000 in
theorem Rf07_identifiers.calls (k : Nat) (a0 : ByteArray) (a1 : Bool) (r : Bool) (w : World) (h : Rf07_identifiers.f k a0 a1 = some r) :
  Calls Tryz.prog 96 #[.string a0,.bool a1] w fun e w' => e = .returned (.bool r) ∧ Below w.heap.size w w':=by
 have HB:=Aside0.mk (Below.refl w.heap.size w)
 have H : ((Rf05_Split.f k a0 46).bind fun t101 => (Rf07_identifiers.l0 k a1 t101 0)) = some r:=h
 clear h
 obtain ⟨t101,A30,H⟩:=Option.bind_eq_some_iff.mp H
 have A3:=Aside0.mk A30
 clear A30
 have H':=Aside0.mk H
 clear H
 go_enter Tryz.func96,Tryz.ntmps96
 go_wp2_with (first | ((with_reducible refine gate_callee (f:=98) rfl ?_);refine gl_ 10 Tryz.func98 #[.string a0,.int .u8 46] ?_;(with_reducible refine (Rf05_Split.calls k a0 46 t101 _ A3.out).mono ?_);rintro e w4 ⟨v102,rfl,ho0,hb⟩;refine ⟨_,rfl,?_⟩;have HO103:=Aside0.mk (Kd.R_lower ho0 (below_size bh_));replace HB:=Aside0.mk (below_step bh_ hb);(try clear hb);(try clear ho0)))
 go_loopg [6] k (fun kq v6 w' => ∃ (x6_1 : Int),v6 = .int .i64 x6_1 ∧ Aside0 (Rf07_identifiers.l0 kq a1 t101 x6_1 = some r) ∧ Aside0 (kq ≤ k) ∧ Aside0 (Kd.R Kd.string 9 w' w.heap.size (fun _ => True) v102 t101) ∧ Aside0 (Below w.heap.size w w'))
 case atStart => exact ⟨(0),q12_,H',⟨Nat.le_refl _⟩,⟨by (with_reducible repeat (first | apply Kd.R_alloc | apply Kd.R_drewN | apply Kd.R_drew));exact HO103.out⟩,⟨by repeat (first | (with_reducible first | exact HB.out | apply below_alloc | apply pw_below_drewN | apply below_drew1) | exact HB.out)⟩⟩
 case round =>
  clear H'
  try clear p2
  obtain ⟨x6_1,rfl,HA,HK1,HO_5,HB⟩:=hrel
  cases gk with
  | zero => exact absurd HA.out (by simp [Rf07_identifiers.l0])
  | succ k1 =>
   have H:=HA.out
   clear HA
   simp only [Rf07_identifiers.l0] at H
   by_cases c5 : x6_1 < (t101.length : Int)
   ·rw [if_pos c5] at H
    have c5b0:=decide_eq_true c5
    clear c5
    have H':=Aside0.mk H
    clear H
    obtain ⟨Ao6,co6,eo6⟩:=Kd.R_slice HO_5.out
    subst eo6
    go_wp2
    go_loopg [7] k1 (fun kq v7 w' => ∃ (x7_2 : Int),v7 = .int .i64 x7_2 ∧ Aside0 (Rf07_identifiers.l1 kq a1 t101 x6_1 x7_2 = some r) ∧ Aside0 (kq ≤ k1) ∧ Aside0 (Kd.R Kd.string 9 w' w.heap.size (fun _ => True) (.slice Ao6 t101.length co6) t101) ∧ Aside0 (Below w.heap.size w w'))
    case atStart => exact ⟨(0),q12_,H',⟨Nat.le_refl _⟩,⟨by (with_reducible repeat (first | apply Kd.R_alloc | apply Kd.R_drewN | apply Kd.R_drew));exact HO_5.out⟩,⟨by repeat (first | (with_reducible first | exact HB.out | apply below_alloc | apply pw_below_drewN | apply below_drew1) | exact HB.out)⟩⟩
    case round =>
     clear H'
     try clear p2
     try clear c5
     try clear c5b0
     try clear p2
     obtain ⟨x7_2,rfl,HA,HK2,HO_5,HB⟩:=hrel
     cases gk with
     | zero => exact absurd HA.out (by simp [Rf07_identifiers.l1])
     | succ k2 =>
      have H:=HA.out
      clear HA
      simp only [Rf07_identifiers.l1] at H
      by_cases c7 : 0 ≤ x6_1
      ·rw [if_pos c7] at H
       have c7b0:=decide_eq_true c7
       clear c7
       by_cases c8 : x6_1 < (t101.length : Int)
       ·rw [if_pos c8] at H
        have c8b0:=decide_eq_true c8
        clear c8
        by_cases c9 : x7_2 < ((rdOf ByteArray.empty t101 x6_1).size : Int)
        ·rw [if_pos c9] at H
         have c9b0:=decide_eq_true c9
         clear c9
         by_cases c10 : 0 ≤ x7_2
         ·rw [if_pos c10] at H
          have c10b0:=decide_eq_true c10
          clear c10
          by_cases c12 : (bt (rdOf ByteArray.empty t101 x6_1) x7_2) ≥ 97
          ·rw [if_pos c12] at H
           have c12b0 : decide (97 ≤ (bt (rdOf ByteArray.empty t101 x6_1) x7_2)) = true:=decide_eq_true c12
           clear c12
           by_cases c13 : ((bt (rdOf ByteArray.empty t101 x6_1) x7_2) ≤ 122)
           ·rw [if_pos c13] at H
            have c13b0 : decide ((bt (rdOf ByteArray.empty t101 x6_1) x7_2) ≤ 122) = true:=decide_eq_true c13
            clear c13
            have H':=Aside0.mk H
            clear H
            have p104 : 0 ≤ (x6_1 : Int):=of_decide_eq_true q1_
            have q104 : x6_1 < (t101.length : Int):=of_decide_eq_true q1_
            obtain ⟨ad104,e104,hx104_0⟩:=Kd.at_string (Kd.R_reads' HO_5.out).2.2 x6_1 p104 q104
            cases e104
            replace p104:=eq_true p104
            replace q104:=eq_true q104
            have p105 : 0 ≤ (x6_1 : Int):=of_decide_eq_true q1_
            have q105 : x6_1 < (t101.length : Int):=of_decide_eq_true q1_
            obtain ⟨ad105,e105,hx105_0⟩:=Kd.at_string (Kd.R_reads' HO_5.out).2.2 x6_1 p105 q105
            obtain rfl : ad104 = ad105:=q40_
            replace p105:=eq_true p105
            replace q105:=eq_true q105
            have p11 : 0 ≤ (x7_2 : Int):=of_decide_eq_true q1_
            have q11 : x7_2 < ((rdOf ByteArray.empty t101 x6_1).size : Int):=of_decide_eq_true q1_
            have hx11:=bt_at (rdOf ByteArray.empty t101 x6_1) x7_2
            replace p11:=eq_true p11
            replace q11:=eq_true q11
            go_wp2
            go_roundg k2
            case measure => have:=HK1.out;have:=HK2.out;omega
            case rel => exact ⟨(wrap64 (x7_2 + 1)),q12_,H',⟨by have:=HK1.out;have:=HK2.out;omega⟩,⟨by (with_reducible repeat (first | apply Kd.R_alloc | apply Kd.R_drewN | apply Kd.R_drew));exact HO_5.out⟩,⟨by repeat (first | (with_reducible first | exact HB.out | apply below_alloc | apply pw_below_drewN | apply below_drew1) | exact HB.out)⟩⟩
           ·rw [if_neg c13] at H
            have c13b0 : decide ((bt (rdOf ByteArray.empty t101 x6_1) x7_2) ≤ 122) = false:=decide_eq_false c13
            clear c13
            by_cases c14 : (bt (rdOf ByteArray.empty t101 x6_1) x7_2) ≥ 65
            ·rw [if_pos c14] at H
             have c14b0 : decide (65 ≤ (bt (rdOf ByteArray.empty t101 x6_1) x7_2)) = true:=decide_eq_true c14
             clear c14
             by_cases c15 : ((bt (rdOf ByteArray.empty t101 x6_1) x7_2) ≤ 90)
             ·rw [if_pos c15] at H
              have c15b0 : decide ((bt (rdOf ByteArray.empty t101 x6_1) x7_2) ≤ 90) = true:=decide_eq_true c15
              clear c15
              have H':=Aside0.mk H
              clear H
              have p104 : 0 ≤ (x6_1 : Int):=of_decide_eq_true q1_
              have q104 : x6_1 < (t101.length : Int):=of_decide_eq_true q1_
              obtain ⟨ad104,e104,hx104_0⟩:=Kd.at_string (Kd.R_reads' HO_5.out).2.2 x6_1 p104 q104
              cases e104
              replace p104:=eq_true p104
              replace q104:=eq_true q104
              have p105 : 0 ≤ (x6_1 : Int):=of_decide_eq_true q1_
              have q105 : x6_1 < (t101.length : Int):=of_decide_eq_true q1_
              obtain ⟨ad105,e105,hx105_0⟩:=Kd.at_string (Kd.R_reads' HO_5.out).2.2 x6_1 p105 q105
              obtain rfl : ad104 = ad105:=q40_
              replace p105:=eq_true p105
              replace q105:=eq_true q105
              have p11 : 0 ≤ (x7_2 : Int):=of_decide_eq_true q1_
              have q11 : x7_2 < ((rdOf ByteArray.empty t101 x6_1).size : Int):=of_decide_eq_true q1_
              have hx11:=bt_at (rdOf ByteArray.empty t101 x6_1) x7_2
              replace p11:=eq_true p11
              replace q11:=eq_true q11
              go_wp2
              go_roundg k2
              case measure => have:=HK1.out;have:=HK2.out;omega
              case rel => exact ⟨(wrap64 (x7_2 + 1)),q12_,H',⟨by have:=HK1.out;have:=HK2.out;omega⟩,⟨by (with_reducible repeat (first | apply Kd.R_alloc | apply Kd.R_drewN | apply Kd.R_drew));exact HO_5.out⟩,⟨by repeat (first | (with_reducible first | exact HB.out | apply below_alloc | apply pw_below_drewN | apply below_drew1) | exact HB.out)⟩⟩
             ·rw [if_neg c15] at H
              have c15b0 : decide ((bt (rdOf ByteArray.empty t101 x6_1) x7_2) ≤ 90) = false:=decide_eq_false c15
              clear c15
              by_cases c16 : (bt (rdOf ByteArray.empty t101 x6_1) x7_2) ≥ 48
              ·rw [if_pos c16] at H
               have c16b0 : decide (48 ≤ (bt (rdOf ByteArray.empty t101 x6_1) x7_2)) = true:=decide_eq_true c16
               clear c16
               by_cases c17 : ((bt (rdOf ByteArray.empty t101 x6_1) x7_2) ≤ 57)
               ·rw [if_pos c17] at H
                have c17b0 : decide ((bt (rdOf ByteArray.empty t101 x6_1) x7_2) ≤ 57) = true:=decide_eq_true c17
                clear c17
                have H':=Aside0.mk H
                clear H
                have p104 : 0 ≤ (x6_1 : Int):=of_decide_eq_true q1_
                have q104 : x6_1 < (t101.length : Int):=of_decide_eq_true q1_
                obtain ⟨ad104,e104,hx104_0⟩:=Kd.at_string (Kd.R_reads' HO_5.out).2.2 x6_1 p104 q104
                cases e104
                replace p104:=eq_true p104
                replace q104:=eq_true q104
                have p105 : 0 ≤ (x6_1 : Int):=of_decide_eq_true q1_
                have q105 : x6_1 < (t101.length : Int):=of_decide_eq_true q1_
                obtain ⟨ad105,e105,hx105_0⟩:=Kd.at_string (Kd.R_reads' HO_5.out).2.2 x6_1 p105 q105
                obtain rfl : ad104 = ad105:=q40_
                replace p105:=eq_true p105
                replace q105:=eq_true q105
                have p11 : 0 ≤ (x7_2 : Int):=of_decide_eq_true q1_
                have q11 : x7_2 < ((rdOf ByteArray.empty t101 x6_1).size : Int):=of_decide_eq_true q1_
                have hx11:=bt_at (rdOf ByteArray.empty t101 x6_1) x7_2
                replace p11:=eq_true p11
                replace q11:=eq_true q11
                go_wp2
                go_roundg k2
                case measure => have:=HK1.out;have:=HK2.out;omega
                case rel => exact ⟨(wrap64 (x7_2 + 1)),q12_,H',⟨by have:=HK1.out;have:=HK2.out;omega⟩,⟨by (with_reducible repeat (first | apply Kd.R_alloc | apply Kd.R_drewN | apply Kd.R_drew));exact HO_5.out⟩,⟨by repeat (first | (with_reducible first | exact HB.out | apply below_alloc | apply pw_below_drewN | apply below_drew1) | exact HB.out)⟩⟩
               ·rw [if_neg c17] at H
                have c17b0 : decide ((bt (rdOf ByteArray.empty t101 x6_1) x7_2) ≤ 57) = false:=decide_eq_false c17
                clear c17
                by_cases c18 : (bt (rdOf ByteArray.empty t101 x6_1) x7_2) = 45
                ·rw [if_pos c18] at H
                 have c18b0:=beq_iff_eq.mpr c18
                 have c18b1:=bne_eq_false_iff_eq.mpr c18
                 clear c18
                 have H':=Aside0.mk H
                 clear H
                 have p104 : 0 ≤ (x6_1 : Int):=of_decide_eq_true q1_
                 have q104 : x6_1 < (t101.length : Int):=of_decide_eq_true q1_
                 obtain ⟨ad104,e104,hx104_0⟩:=Kd.at_string (Kd.R_reads' HO_5.out).2.2 x6_1 p104 q104
                 cases e104
                 replace p104:=eq_true p104
                 replace q104:=eq_true q104
                 have p105 : 0 ≤ (x6_1 : Int):=of_decide_eq_true q1_
                 have q105 : x6_1 < (t101.length : Int):=of_decide_eq_true q1_
                 obtain ⟨ad105,e105,hx105_0⟩:=Kd.at_string (Kd.R_reads' HO_5.out).2.2 x6_1 p105 q105
                 obtain rfl : ad104 = ad105:=q40_
                 replace p105:=eq_true p105
                 replace q105:=eq_true q105
                 have p11 : 0 ≤ (x7_2 : Int):=of_decide_eq_true q1_
                 have q11 : x7_2 < ((rdOf ByteArray.empty t101 x6_1).size : Int):=of_decide_eq_true q1_
                 have hx11:=bt_at (rdOf ByteArray.empty t101 x6_1) x7_2
                 replace p11:=eq_true p11
                 replace q11:=eq_true q11
                 go_wp2
                 go_roundg k2
                 case measure => have:=HK1.out;have:=HK2.out;omega
                 case rel => exact ⟨(wrap64 (x7_2 + 1)),q12_,H',⟨by have:=HK1.out;have:=HK2.out;omega⟩,⟨by (with_reducible repeat (first | apply Kd.R_alloc | apply Kd.R_drewN | apply Kd.R_drew));exact HO_5.out⟩,⟨by repeat (first | (with_reducible first | exact HB.out | apply below_alloc | apply pw_below_drewN | apply below_drew1) | exact HB.out)⟩⟩
                ·rw [if_neg c18] at H
                 have c18b0:=beq_eq_false_iff_ne.mpr c18
                 have c18b1:=bne_iff_ne.mpr c18
                 obtain rfl:=Option.some.inj H
                 have p104 : 0 ≤ (x6_1 : Int):=of_decide_eq_true q1_
                 have q104 : x6_1 < (t101.length : Int):=of_decide_eq_true q1_
                 obtain ⟨ad104,e104,hx104_0⟩:=Kd.at_string (Kd.R_reads' HO_5.out).2.2 x6_1 p104 q104
                 cases e104
                 replace p104:=eq_true p104
                 replace q104:=eq_true q104
                 have p105 : 0 ≤ (x6_1 : Int):=of_decide_eq_true q1_
                 have q105 : x6_1 < (t101.length : Int):=of_decide_eq_true q1_
                 obtain ⟨ad105,e105,hx105_0⟩:=Kd.at_string (Kd.R_reads' HO_5.out).2.2 x6_1 p105 q105
                 obtain rfl : ad104 = ad105:=q40_
                 replace p105:=eq_true p105
                 replace q105:=eq_true q105
                 have p11 : 0 ≤ (x7_2 : Int):=of_decide_eq_true q1_
                 have q11 : x7_2 < ((rdOf ByteArray.empty t101 x6_1).size : Int):=of_decide_eq_true q1_
                 have hx11:=bt_at (rdOf ByteArray.empty t101 x6_1) x7_2
                 replace p11:=eq_true p11
                 replace q11:=eq_true q11
                 go_wp2
                 go_ret
                 exact ⟨q2_,bh_⟩
              ·rw [if_neg c16] at H
               have c16b0 : decide (48 ≤ (bt (rdOf ByteArray.empty t101 x6_1) x7_2)) = false:=decide_eq_false c16
               clear c16
               by_cases c19 : (bt (rdOf ByteArray.empty t101 x6_1) x7_2) = 45
               ·rw [if_pos c19] at H
                have c19b0:=beq_iff_eq.mpr c19
                have c19b1:=bne_eq_false_iff_eq.mpr c19
                clear c19
                have H':=Aside0.mk H
                clear H
                have p104 : 0 ≤ (x6_1 : Int):=of_decide_eq_true q1_
                have q104 : x6_1 < (t101.length : Int):=of_decide_eq_true q1_
                obtain ⟨ad104,e104,hx104_0⟩:=Kd.at_string (Kd.R_reads' HO_5.out).2.2 x6_1 p104 q104
                cases e104
                replace p104:=eq_true p104
                replace q104:=eq_true q104
                have p105 : 0 ≤ (x6_1 : Int):=of_decide_eq_true q1_
                have q105 : x6_1 < (t101.length : Int):=of_decide_eq_true q1_
                obtain ⟨ad105,e105,hx105_0⟩:=Kd.at_string (Kd.R_reads' HO_5.out).2.2 x6_1 p105 q105
                obtain rfl : ad104 = ad105:=q40_
                replace p105:=eq_true p105
                replace q105:=eq_true q105
                have p11 : 0 ≤ (x7_2 : Int):=of_decide_eq_true q1_
                have q11 : x7_2 < ((rdOf ByteArray.empty t101 x6_1).size : Int):=of_decide_eq_true q1_
                have hx11:=bt_at (rdOf ByteArray.empty t101 x6_1) x7_2
                replace p11:=eq_true p11
                replace q11:=eq_true q11
                go_wp2
                go_roundg k2
                case measure => have:=HK1.out;have:=HK2.out;omega
                case rel => exact ⟨(wrap64 (x7_2 + 1)),q12_,H',⟨by have:=HK1.out;have:=HK2.out;omega⟩,⟨by (with_reducible repeat (first | apply Kd.R_alloc | apply Kd.R_drewN | apply Kd.R_drew));exact HO_5.out⟩,⟨by repeat (first | (with_reducible first | exact HB.out | apply below_alloc | apply pw_below_drewN | apply below_drew1) | exact HB.out)⟩⟩
               ·rw [if_neg c19] at H
                have c19b0:=beq_eq_false_iff_ne.mpr c19
                have c19b1:=bne_iff_ne.mpr c19
                obtain rfl:=Option.some.inj H
                have p104 : 0 ≤ (x6_1 : Int):=of_decide_eq_true q1_
                have q104 : x6_1 < (t101.length : Int):=of_decide_eq_true q1_
                obtain ⟨ad104,e104,hx104_0⟩:=Kd.at_string (Kd.R_reads' HO_5.out).2.2 x6_1 p104 q104
                cases e104
                replace p104:=eq_true p104
                replace q104:=eq_true q104
                have p105 : 0 ≤ (x6_1 : Int):=of_decide_eq_true q1_
                have q105 : x6_1 < (t101.length : Int):=of_decide_eq_true q1_
                obtain ⟨ad105,e105,hx105_0⟩:=Kd.at_string (Kd.R_reads' HO_5.out).2.2 x6_1 p105 q105
                obtain rfl : ad104 = ad105:=q40_
                replace p105:=eq_true p105
                replace q105:=eq_true q105
                have p11 : 0 ≤ (x7_2 : Int):=of_decide_eq_true q1_
                have q11 : x7_2 < ((rdOf ByteArray.empty t101 x6_1).size : Int):=of_decide_eq_true q1_
                have hx11:=bt_at (rdOf ByteArray.empty t101 x6_1) x7_2
                replace p11:=eq_true p11
                replace q11:=eq_true q11
                go_wp2
                go_ret
                exact ⟨q2_,bh_⟩
            ·rw [if_neg c14] at H
             have c14b0 : decide (65 ≤ (bt (rdOf ByteArray.empty t101 x6_1) x7_2)) = false:=decide_eq_false c14
             clear c14
             by_cases c20 : (bt (rdOf ByteArray.empty t101 x6_1) x7_2) ≥ 48
             ·rw [if_pos c20] at H
              have c20b0 : decide (48 ≤ (bt (rdOf ByteArray.empty t101 x6_1) x7_2)) = true:=decide_eq_true c20
              clear c20
              by_cases c21 : ((bt (rdOf ByteArray.empty t101 x6_1) x7_2) ≤ 57)
              ·rw [if_pos c21] at H
               have c21b0 : decide ((bt (rdOf ByteArray.empty t101 x6_1) x7_2) ≤ 57) = true:=decide_eq_true c21
               clear c21
               have H':=Aside0.mk H
               clear H
               have p104 : 0 ≤ (x6_1 : Int):=of_decide_eq_true q1_
               have q104 : x6_1 < (t101.length : Int):=of_decide_eq_true q1_
               obtain ⟨ad104,e104,hx104_0⟩:=Kd.at_string (Kd.R_reads' HO_5.out).2.2 x6_1 p104 q104
               cases e104
               replace p104:=eq_true p104
               replace q104:=eq_true q104
               have p105 : 0 ≤ (x6_1 : Int):=of_decide_eq_true q1_
               have q105 : x6_1 < (t101.length : Int):=of_decide_eq_true q1_
               obtain ⟨ad105,e105,hx105_0⟩:=Kd.at_string (Kd.R_reads' HO_5.out).2.2 x6_1 p105 q105
               obtain rfl : ad104 = ad105:=q40_
               replace p105:=eq_true p105
               replace q105:=eq_true q105
               have p11 : 0 ≤ (x7_2 : Int):=of_decide_eq_true q1_
               have q11 : x7_2 < ((rdOf ByteArray.empty t101 x6_1).size : Int):=of_decide_eq_true q1_
               have hx11:=bt_at (rdOf ByteArray.empty t101 x6_1) x7_2
               replace p11:=eq_true p11
               replace q11:=eq_true q11
               go_wp2
               go_roundg k2
               case measure => have:=HK1.out;have:=HK2.out;omega
               case rel => exact ⟨(wrap64 (x7_2 + 1)),q12_,H',⟨by have:=HK1.out;have:=HK2.out;omega⟩,⟨by (with_reducible repeat (first | apply Kd.R_alloc | apply Kd.R_drewN | apply Kd.R_drew));exact HO_5.out⟩,⟨by repeat (first | (with_reducible first | exact HB.out | apply below_alloc | apply pw_below_drewN | apply below_drew1) | exact HB.out)⟩⟩
              ·rw [if_neg c21] at H
               have c21b0 : decide ((bt (rdOf ByteArray.empty t101 x6_1) x7_2) ≤ 57) = false:=decide_eq_false c21
               clear c21
               by_cases c22 : (bt (rdOf ByteArray.empty t101 x6_1) x7_2) = 45
               ·rw [if_pos c22] at H
                have c22b0:=beq_iff_eq.mpr c22
                have c22b1:=bne_eq_false_iff_eq.mpr c22
                clear c22
                have H':=Aside0.mk H
                clear H
                have p104 : 0 ≤ (x6_1 : Int):=of_decide_eq_true q1_
                have q104 : x6_1 < (t101.length : Int):=of_decide_eq_true q1_
                obtain ⟨ad104,e104,hx104_0⟩:=Kd.at_string (Kd.R_reads' HO_5.out).2.2 x6_1 p104 q104
                cases e104
                replace p104:=eq_true p104
                replace q104:=eq_true q104
                have p105 : 0 ≤ (x6_1 : Int):=of_decide_eq_true q1_
                have q105 : x6_1 < (t101.length : Int):=of_decide_eq_true q1_
                obtain ⟨ad105,e105,hx105_0⟩:=Kd.at_string (Kd.R_reads' HO_5.out).2.2 x6_1 p105 q105
                obtain rfl : ad104 = ad105:=q40_
                replace p105:=eq_true p105
                replace q105:=eq_true q105
                have p11 : 0 ≤ (x7_2 : Int):=of_decide_eq_true q1_
                have q11 : x7_2 < ((rdOf ByteArray.empty t101 x6_1).size : Int):=of_decide_eq_true q1_
                have hx11:=bt_at (rdOf ByteArray.empty t101 x6_1) x7_2
                replace p11:=eq_true p11
                replace q11:=eq_true q11
                go_wp2
                go_roundg k2
                case measure => have:=HK1.out;have:=HK2.out;omega
                case rel => exact ⟨(wrap64 (x7_2 + 1)),q12_,H',⟨by have:=HK1.out;have:=HK2.out;omega⟩,⟨by (with_reducible repeat (first | apply Kd.R_alloc | apply Kd.R_drewN | apply Kd.R_drew));exact HO_5.out⟩,⟨by repeat (first | (with_reducible first | exact HB.out | apply below_alloc | apply pw_below_drewN | apply below_drew1) | exact HB.out)⟩⟩
               ·rw [if_neg c22] at H
                have c22b0:=beq_eq_false_iff_ne.mpr c22
                have c22b1:=bne_iff_ne.mpr c22
                obtain rfl:=Option.some.inj H
                have p104 : 0 ≤ (x6_1 : Int):=of_decide_eq_true q1_
                have q104 : x6_1 < (t101.length : Int):=of_decide_eq_true q1_
                obtain ⟨ad104,e104,hx104_0⟩:=Kd.at_string (Kd.R_reads' HO_5.out).2.2 x6_1 p104 q104
                cases e104
                replace p104:=eq_true p104
                replace q104:=eq_true q104
                have p105 : 0 ≤ (x6_1 : Int):=of_decide_eq_true q1_
                have q105 : x6_1 < (t101.length : Int):=of_decide_eq_true q1_
                obtain ⟨ad105,e105,hx105_0⟩:=Kd.at_string (Kd.R_reads' HO_5.out).2.2 x6_1 p105 q105
                obtain rfl : ad104 = ad105:=q40_
                replace p105:=eq_true p105
                replace q105:=eq_true q105
                have p11 : 0 ≤ (x7_2 : Int):=of_decide_eq_true q1_
                have q11 : x7_2 < ((rdOf ByteArray.empty t101 x6_1).size : Int):=of_decide_eq_true q1_
                have hx11:=bt_at (rdOf ByteArray.empty t101 x6_1) x7_2
                replace p11:=eq_true p11
                replace q11:=eq_true q11
                go_wp2
                go_ret
                exact ⟨q2_,bh_⟩
             ·rw [if_neg c20] at H
              have c20b0 : decide (48 ≤ (bt (rdOf ByteArray.empty t101 x6_1) x7_2)) = false:=decide_eq_false c20
              clear c20
              by_cases c23 : (bt (rdOf ByteArray.empty t101 x6_1) x7_2) = 45
              ·rw [if_pos c23] at H
               have c23b0:=beq_iff_eq.mpr c23
               have c23b1:=bne_eq_false_iff_eq.mpr c23
               clear c23
               have H':=Aside0.mk H
               clear H
               have p104 : 0 ≤ (x6_1 : Int):=of_decide_eq_true q1_
               have q104 : x6_1 < (t101.length : Int):=of_decide_eq_true q1_
               obtain ⟨ad104,e104,hx104_0⟩:=Kd.at_string (Kd.R_reads' HO_5.out).2.2 x6_1 p104 q104
               cases e104
               replace p104:=eq_true p104
               replace q104:=eq_true q104
               have p105 : 0 ≤ (x6_1 : Int):=of_decide_eq_true q1_
               have q105 : x6_1 < (t101.length : Int):=of_decide_eq_true q1_
               obtain ⟨ad105,e105,hx105_0⟩:=Kd.at_string (Kd.R_reads' HO_5.out).2.2 x6_1 p105 q105
               obtain rfl : ad104 = ad105:=q40_
               replace p105:=eq_true p105
               replace q105:=eq_true q105
               have p11 : 0 ≤ (x7_2 : Int):=of_decide_eq_true q1_
               have q11 : x7_2 < ((rdOf ByteArray.empty t101 x6_1).size : Int):=of_decide_eq_true q1_
               have hx11:=bt_at (rdOf ByteArray.empty t101 x6_1) x7_2
               replace p11:=eq_true p11
               replace q11:=eq_true q11
               go_wp2
               go_roundg k2
               case measure => have:=HK1.out;have:=HK2.out;omega
               case rel => exact ⟨(wrap64 (x7_2 + 1)),q12_,H',⟨by have:=HK1.out;have:=HK2.out;omega⟩,⟨by (with_reducible repeat (first | apply Kd.R_alloc | apply Kd.R_drewN | apply Kd.R_drew));exact HO_5.out⟩,⟨by repeat (first | (with_reducible first | exact HB.out | apply below_alloc | apply pw_below_drewN | apply below_drew1) | exact HB.out)⟩⟩
              ·rw [if_neg c23] at H
               have c23b0:=beq_eq_false_iff_ne.mpr c23
               have c23b1:=bne_iff_ne.mpr c23
               obtain rfl:=Option.some.inj H
               have p104 : 0 ≤ (x6_1 : Int):=of_decide_eq_true q1_
               have q104 : x6_1 < (t101.length : Int):=of_decide_eq_true q1_
               obtain ⟨ad104,e104,hx104_0⟩:=Kd.at_string (Kd.R_reads' HO_5.out).2.2 x6_1 p104 q104
               cases e104
               replace p104:=eq_true p104
               replace q104:=eq_true q104
               have p105 : 0 ≤ (x6_1 : Int):=of_decide_eq_true q1_
               have q105 : x6_1 < (t101.length : Int):=of_decide_eq_true q1_
               obtain ⟨ad105,e105,hx105_0⟩:=Kd.at_string (Kd.R_reads' HO_5.out).2.2 x6_1 p105 q105
               obtain rfl : ad104 = ad105:=q40_
               replace p105:=eq_true p105
               replace q105:=eq_true q105
               have p11 : 0 ≤ (x7_2 : Int):=of_decide_eq_true q1_
               have q11 : x7_2 < ((rdOf ByteArray.empty t101 x6_1).size : Int):=of_decide_eq_true q1_
               have hx11:=bt_at (rdOf ByteArray.empty t101 x6_1) x7_2
               replace p11:=eq_true p11
               replace q11:=eq_true q11
               go_wp2
               go_ret
               exact ⟨q2_,bh_⟩
          ·rw [if_neg c12] at H
           have c12b0 : decide (97 ≤ (bt (rdOf ByteArray.empty t101 x6_1) x7_2)) = false:=decide_eq_false c12
           clear c12
           by_cases c24 : (bt (rdOf ByteArray.empty t101 x6_1) x7_2) ≥ 65
           ·rw [if_pos c24] at H
            have c24b0 : decide (65 ≤ (bt (rdOf ByteArray.empty t101 x6_1) x7_2)) = true:=decide_eq_true c24
            clear c24
            by_cases c25 : ((bt (rdOf ByteArray.empty t101 x6_1) x7_2) ≤ 90)
            ·rw [if_pos c25] at H
             have c25b0 : decide ((bt (rdOf ByteArray.empty t101 x6_1) x7_2) ≤ 90) = true:=decide_eq_true c25
             clear c25
             have H':=Aside0.mk H
             clear H
             have p104 : 0 ≤ (x6_1 : Int):=of_decide_eq_true q1_
             have q104 : x6_1 < (t101.length : Int):=of_decide_eq_true q1_
             obtain ⟨ad104,e104,hx104_0⟩:=Kd.at_string (Kd.R_reads' HO_5.out).2.2 x6_1 p104 q104
             cases e104
             replace p104:=eq_true p104
             replace q104:=eq_true q104
             have p105 : 0 ≤ (x6_1 : Int):=of_decide_eq_true q1_
             have q105 : x6_1 < (t101.length : Int):=of_decide_eq_true q1_
             obtain ⟨ad105,e105,hx105_0⟩:=Kd.at_string (Kd.R_reads' HO_5.out).2.2 x6_1 p105 q105
             obtain rfl : ad104 = ad105:=q40_
             replace p105:=eq_true p105
             replace q105:=eq_true q105
             have p11 : 0 ≤ (x7_2 : Int):=of_decide_eq_true q1_
             have q11 : x7_2 < ((rdOf ByteArray.empty t101 x6_1).size : Int):=of_decide_eq_true q1_
             have hx11:=bt_at (rdOf ByteArray.empty t101 x6_1) x7_2
             replace p11:=eq_true p11
             replace q11:=eq_true q11
             go_wp2
             go_roundg k2
             case measure => have:=HK1.out;have:=HK2.out;omega
             case rel => exact ⟨(wrap64 (x7_2 + 1)),q12_,H',⟨by have:=HK1.out;have:=HK2.out;omega⟩,⟨by (with_reducible repeat (first | apply Kd.R_alloc | apply Kd.R_drewN | apply Kd.R_drew));exact HO_5.out⟩,⟨by repeat (first | (with_reducible first | exact HB.out | apply below_alloc | apply pw_below_drewN | apply below_drew1) | exact HB.out)⟩⟩
            ·rw [if_neg c25] at H
             have c25b0 : decide ((bt (rdOf ByteArray.empty t101 x6_1) x7_2) ≤ 90) = false:=decide_eq_false c25
             clear c25
             by_cases c26 : (bt (rdOf ByteArray.empty t101 x6_1) x7_2) ≥ 48
             ·rw [if_pos c26] at H
              have c26b0 : decide (48 ≤ (bt (rdOf ByteArray.empty t101 x6_1) x7_2)) = true:=decide_eq_true c26
              clear c26
              by_cases c27 : ((bt (rdOf ByteArray.empty t101 x6_1) x7_2) ≤ 57)
              ·rw [if_pos c27] at H
               have c27b0 : decide ((bt (rdOf ByteArray.empty t101 x6_1) x7_2) ≤ 57) = true:=decide_eq_true c27
               clear c27
               have H':=Aside0.mk H
               clear H
               have p104 : 0 ≤ (x6_1 : Int):=of_decide_eq_true q1_
               have q104 : x6_1 < (t101.length : Int):=of_decide_eq_true q1_
               obtain ⟨ad104,e104,hx104_0⟩:=Kd.at_string (Kd.R_reads' HO_5.out).2.2 x6_1 p104 q104
               cases e104
               replace p104:=eq_true p104
               replace q104:=eq_true q104
               have p105 : 0 ≤ (x6_1 : Int):=of_decide_eq_true q1_
               have q105 : x6_1 < (t101.length : Int):=of_decide_eq_true q1_
               obtain ⟨ad105,e105,hx105_0⟩:=Kd.at_string (Kd.R_reads' HO_5.out).2.2 x6_1 p105 q105
               obtain rfl : ad104 = ad105:=q40_
               replace p105:=eq_true p105
               replace q105:=eq_true q105
               have p11 : 0 ≤ (x7_2 : Int):=of_decide_eq_true q1_
               have q11 : x7_2 < ((rdOf ByteArray.empty t101 x6_1).size : Int):=of_decide_eq_true q1_
               have hx11:=bt_at (rdOf ByteArray.empty t101 x6_1) x7_2
               replace p11:=eq_true p11
               replace q11:=eq_true q11
               go_wp2
               go_roundg k2
               case measure => have:=HK1.out;have:=HK2.out;omega
               case rel => exact ⟨(wrap64 (x7_2 + 1)),q12_,H',⟨by have:=HK1.out;have:=HK2.out;omega⟩,⟨by (with_reducible repeat (first | apply Kd.R_alloc | apply Kd.R_drewN | apply Kd.R_drew));exact HO_5.out⟩,⟨by repeat (first | (with_reducible first | exact HB.out | apply below_alloc | apply pw_below_drewN | apply below_drew1) | exact HB.out)⟩⟩
              ·rw [if_neg c27] at H
               have c27b0 : decide ((bt (rdOf ByteArray.empty t101 x6_1) x7_2) ≤ 57) = false:=decide_eq_false c27
               clear c27
               by_cases c28 : (bt (rdOf ByteArray.empty t101 x6_1) x7_2) = 45
               ·rw [if_pos c28] at H
                have c28b0:=beq_iff_eq.mpr c28
                have c28b1:=bne_eq_false_iff_eq.mpr c28
                clear c28
                have H':=Aside0.mk H
                clear H
                have p104 : 0 ≤ (x6_1 : Int):=of_decide_eq_true q1_
                have q104 : x6_1 < (t101.length : Int):=of_decide_eq_true q1_
                obtain ⟨ad104,e104,hx104_0⟩:=Kd.at_string (Kd.R_reads' HO_5.out).2.2 x6_1 p104 q104
                cases e104
                replace p104:=eq_true p104
                replace q104:=eq_true q104
                have p105 : 0 ≤ (x6_1 : Int):=of_decide_eq_true q1_
                have q105 : x6_1 < (t101.length : Int):=of_decide_eq_true q1_
                obtain ⟨ad105,e105,hx105_0⟩:=Kd.at_string (Kd.R_reads' HO_5.out).2.2 x6_1 p105 q105
                obtain rfl : ad104 = ad105:=q40_
                replace p105:=eq_true p105
                replace q105:=eq_true q105
                have p11 : 0 ≤ (x7_2 : Int):=of_decide_eq_true q1_
                have q11 : x7_2 < ((rdOf ByteArray.empty t101 x6_1).size : Int):=of_decide_eq_true q1_
                have hx11:=bt_at (rdOf ByteArray.empty t101 x6_1) x7_2
                replace p11:=eq_true p11
                replace q11:=eq_true q11
                go_wp2
                go_roundg k2
                case measure => have:=HK1.out;have:=HK2.out;omega
                case rel => exact ⟨(wrap64 (x7_2 + 1)),q12_,H',⟨by have:=HK1.out;have:=HK2.out;omega⟩,⟨by (with_reducible repeat (first | apply Kd.R_alloc | apply Kd.R_drewN | apply Kd.R_drew));exact HO_5.out⟩,⟨by repeat (first | (with_reducible first | exact HB.out | apply below_alloc | apply pw_below_drewN | apply below_drew1) | exact HB.out)⟩⟩
               ·rw [if_neg c28] at H
                have c28b0:=beq_eq_false_iff_ne.mpr c28
                have c28b1:=bne_iff_ne.mpr c28
                obtain rfl:=Option.some.inj H
                have p104 : 0 ≤ (x6_1 : Int):=of_decide_eq_true q1_
                have q104 : x6_1 < (t101.length : Int):=of_decide_eq_true q1_
                obtain ⟨ad104,e104,hx104_0⟩:=Kd.at_string (Kd.R_reads' HO_5.out).2.2 x6_1 p104 q104
                cases e104
                replace p104:=eq_true p104
                replace q104:=eq_true q104
                have p105 : 0 ≤ (x6_1 : Int):=of_decide_eq_true q1_
                have q105 : x6_1 < (t101.length : Int):=of_decide_eq_true q1_
                obtain ⟨ad105,e105,hx105_0⟩:=Kd.at_string (Kd.R_reads' HO_5.out).2.2 x6_1 p105 q105
                obtain rfl : ad104 = ad105:=q40_
                replace p105:=eq_true p105
                replace q105:=eq_true q105
                have p11 : 0 ≤ (x7_2 : Int):=of_decide_eq_true q1_
                have q11 : x7_2 < ((rdOf ByteArray.empty t101 x6_1).size : Int):=of_decide_eq_true q1_
                have hx11:=bt_at (rdOf ByteArray.empty t101 x6_1) x7_2
                replace p11:=eq_true p11
                replace q11:=eq_true q11
                go_wp2
                go_ret
                exact ⟨q2_,bh_⟩
             ·rw [if_neg c26] at H
              have c26b0 : decide (48 ≤ (bt (rdOf ByteArray.empty t101 x6_1) x7_2)) = false:=decide_eq_false c26
              clear c26
              by_cases c29 : (bt (rdOf ByteArray.empty t101 x6_1) x7_2) = 45
              ·rw [if_pos c29] at H
               have c29b0:=beq_iff_eq.mpr c29
               have c29b1:=bne_eq_false_iff_eq.mpr c29
               clear c29
               have H':=Aside0.mk H
               clear H
               have p104 : 0 ≤ (x6_1 : Int):=of_decide_eq_true q1_
               have q104 : x6_1 < (t101.length : Int):=of_decide_eq_true q1_
               obtain ⟨ad104,e104,hx104_0⟩:=Kd.at_string (Kd.R_reads' HO_5.out).2.2 x6_1 p104 q104
               cases e104
               replace p104:=eq_true p104
               replace q104:=eq_true q104
               have p105 : 0 ≤ (x6_1 : Int):=of_decide_eq_true q1_
               have q105 : x6_1 < (t101.length : Int):=of_decide_eq_true q1_
               obtain ⟨ad105,e105,hx105_0⟩:=Kd.at_string (Kd.R_reads' HO_5.out).2.2 x6_1 p105 q105
               obtain rfl : ad104 = ad105:=q40_
               replace p105:=eq_true p105
               replace q105:=eq_true q105
               have p11 : 0 ≤ (x7_2 : Int):=of_decide_eq_true q1_
               have q11 : x7_2 < ((rdOf ByteArray.empty t101 x6_1).size : Int):=of_decide_eq_true q1_
               have hx11:=bt_at (rdOf ByteArray.empty t101 x6_1) x7_2
               replace p11:=eq_true p11
               replace q11:=eq_true q11
               go_wp2
               go_roundg k2
               case measure => have:=HK1.out;have:=HK2.out;omega
               case rel => exact ⟨(wrap64 (x7_2 + 1)),q12_,H',⟨by have:=HK1.out;have:=HK2.out;omega⟩,⟨by (with_reducible repeat (first | apply Kd.R_alloc | apply Kd.R_drewN | apply Kd.R_drew));exact HO_5.out⟩,⟨by repeat (first | (with_reducible first | exact HB.out | apply below_alloc | apply pw_below_drewN | apply below_drew1) | exact HB.out)⟩⟩
              ·rw [if_neg c29] at H
               have c29b0:=beq_eq_false_iff_ne.mpr c29
               have c29b1:=bne_iff_ne.mpr c29
               obtain rfl:=Option.some.inj H
               have p104 : 0 ≤ (x6_1 : Int):=of_decide_eq_true q1_
               have q104 : x6_1 < (t101.length : Int):=of_decide_eq_true q1_
               obtain ⟨ad104,e104,hx104_0⟩:=Kd.at_string (Kd.R_reads' HO_5.out).2.2 x6_1 p104 q104
               cases e104
               replace p104:=eq_true p104
               replace q104:=eq_true q104
               have p105 : 0 ≤ (x6_1 : Int):=of_decide_eq_true q1_
               have q105 : x6_1 < (t101.length : Int):=of_decide_eq_true q1_
               obtain ⟨ad105,e105,hx105_0⟩:=Kd.at_string (Kd.R_reads' HO_5.out).2.2 x6_1 p105 q105
               obtain rfl : ad104 = ad105:=q40_
               replace p105:=eq_true p105
               replace q105:=eq_true q105
               have p11 : 0 ≤ (x7_2 : Int):=of_decide_eq_true q1_
               have q11 : x7_2 < ((rdOf ByteArray.empty t101 x6_1).size : Int):=of_decide_eq_true q1_
               have hx11:=bt_at (rdOf ByteArray.empty t101 x6_1) x7_2
               replace p11:=eq_true p11
               replace q11:=eq_true q11
               go_wp2
               go_ret
               exact ⟨q2_,bh_⟩
           ·rw [if_neg c24] at H
            have c24b0 : decide (65 ≤ (bt (rdOf ByteArray.empty t101 x6_1) x7_2)) = false:=decide_eq_false c24
            clear c24
            by_cases c30 : (bt (rdOf ByteArray.empty t101 x6_1) x7_2) ≥ 48
            ·rw [if_pos c30] at H
             have c30b0 : decide (48 ≤ (bt (rdOf ByteArray.empty t101 x6_1) x7_2)) = true:=decide_eq_true c30
             clear c30
             by_cases c31 : ((bt (rdOf ByteArray.empty t101 x6_1) x7_2) ≤ 57)
             ·rw [if_pos c31] at H
              have c31b0 : decide ((bt (rdOf ByteArray.empty t101 x6_1) x7_2) ≤ 57) = true:=decide_eq_true c31
              clear c31
              have H':=Aside0.mk H
              clear H
              have p104 : 0 ≤ (x6_1 : Int):=of_decide_eq_true q1_
              have q104 : x6_1 < (t101.length : Int):=of_decide_eq_true q1_
              obtain ⟨ad104,e104,hx104_0⟩:=Kd.at_string (Kd.R_reads' HO_5.out).2.2 x6_1 p104 q104
              cases e104
              replace p104:=eq_true p104
              replace q104:=eq_true q104
              have p105 : 0 ≤ (x6_1 : Int):=of_decide_eq_true q1_
              have q105 : x6_1 < (t101.length : Int):=of_decide_eq_true q1_
              obtain ⟨ad105,e105,hx105_0⟩:=Kd.at_string (Kd.R_reads' HO_5.out).2.2 x6_1 p105 q105
              obtain rfl : ad104 = ad105:=q40_
              replace p105:=eq_true p105
              replace q105:=eq_true q105
              have p11 : 0 ≤ (x7_2 : Int):=of_decide_eq_true q1_
              have q11 : x7_2 < ((rdOf ByteArray.empty t101 x6_1).size : Int):=of_decide_eq_true q1_
              have hx11:=bt_at (rdOf ByteArray.empty t101 x6_1) x7_2
              replace p11:=eq_true p11
              replace q11:=eq_true q11
              go_wp2
              go_roundg k2
              case measure => have:=HK1.out;have:=HK2.out;omega
              case rel => exact ⟨(wrap64 (x7_2 + 1)),q12_,H',⟨by have:=HK1.out;have:=HK2.out;omega⟩,⟨by (with_reducible repeat (first | apply Kd.R_alloc | apply Kd.R_drewN | apply Kd.R_drew));exact HO_5.out⟩,⟨by repeat (first | (with_reducible first | exact HB.out | apply below_alloc | apply pw_below_drewN | apply below_drew1) | exact HB.out)⟩⟩
             ·rw [if_neg c31] at H
              have c31b0 : decide ((bt (rdOf ByteArray.empty t101 x6_1) x7_2) ≤ 57) = false:=decide_eq_false c31
              clear c31
              by_cases c32 : (bt (rdOf ByteArray.empty t101 x6_1) x7_2) = 45
              ·rw [if_pos c32] at H
               have c32b0:=beq_iff_eq.mpr c32
               have c32b1:=bne_eq_false_iff_eq.mpr c32
               clear c32
               have H':=Aside0.mk H
               clear H
               have p104 : 0 ≤ (x6_1 : Int):=of_decide_eq_true q1_
               have q104 : x6_1 < (t101.length : Int):=of_decide_eq_true q1_
               obtain ⟨ad104,e104,hx104_0⟩:=Kd.at_string (Kd.R_reads' HO_5.out).2.2 x6_1 p104 q104
               cases e104
               replace p104:=eq_true p104
               replace q104:=eq_true q104
               have p105 : 0 ≤ (x6_1 : Int):=of_decide_eq_true q1_
               have q105 : x6_1 < (t101.length : Int):=of_decide_eq_true q1_
               obtain ⟨ad105,e105,hx105_0⟩:=Kd.at_string (Kd.R_reads' HO_5.out).2.2 x6_1 p105 q105
               obtain rfl : ad104 = ad105:=q40_
               replace p105:=eq_true p105
               replace q105:=eq_true q105
               have p11 : 0 ≤ (x7_2 : Int):=of_decide_eq_true q1_
               have q11 : x7_2 < ((rdOf ByteArray.empty t101 x6_1).size : Int):=of_decide_eq_true q1_
               have hx11:=bt_at (rdOf ByteArray.empty t101 x6_1) x7_2
               replace p11:=eq_true p11
               replace q11:=eq_true q11
               go_wp2
               go_roundg k2
               case measure => have:=HK1.out;have:=HK2.out;omega
               case rel => exact ⟨(wrap64 (x7_2 + 1)),q12_,H',⟨by have:=HK1.out;have:=HK2.out;omega⟩,⟨by (with_reducible repeat (first | apply Kd.R_alloc | apply Kd.R_drewN | apply Kd.R_drew));exact HO_5.out⟩,⟨by repeat (first | (with_reducible first | exact HB.out | apply below_alloc | apply pw_below_drewN | apply below_drew1) | exact HB.out)⟩⟩
              ·rw [if_neg c32] at H
               have c32b0:=beq_eq_false_iff_ne.mpr c32
               have c32b1:=bne_iff_ne.mpr c32
               obtain rfl:=Option.some.inj H
               have p104 : 0 ≤ (x6_1 : Int):=of_decide_eq_true q1_
               have q104 : x6_1 < (t101.length : Int):=of_decide_eq_true q1_
               obtain ⟨ad104,e104,hx104_0⟩:=Kd.at_string (Kd.R_reads' HO_5.out).2.2 x6_1 p104 q104
               cases e104
               replace p104:=eq_true p104
               replace q104:=eq_true q104
               have p105 : 0 ≤ (x6_1 : Int):=of_decide_eq_true q1_
               have q105 : x6_1 < (t101.length : Int):=of_decide_eq_true q1_
               obtain ⟨ad105,e105,hx105_0⟩:=Kd.at_string (Kd.R_reads' HO_5.out).2.2 x6_1 p105 q105
               obtain rfl : ad104 = ad105:=q40_
               replace p105:=eq_true p105
               replace q105:=eq_true q105
               have p11 : 0 ≤ (x7_2 : Int):=of_decide_eq_true q1_
               have q11 : x7_2 < ((rdOf ByteArray.empty t101 x6_1).size : Int):=of_decide_eq_true q1_
               have hx11:=bt_at (rdOf ByteArray.empty t101 x6_1) x7_2
               replace p11:=eq_true p11
               replace q11:=eq_true q11
               go_wp2
               go_ret
               exact ⟨q2_,bh_⟩
            ·rw [if_neg c30] at H
             have c30b0 : decide (48 ≤ (bt (rdOf ByteArray.empty t101 x6_1) x7_2)) = false:=decide_eq_false c30
             clear c30
             by_cases c33 : (bt (rdOf ByteArray.empty t101 x6_1) x7_2) = 45
             ·rw [if_pos c33] at H
              have c33b0:=beq_iff_eq.mpr c33
              have c33b1:=bne_eq_false_iff_eq.mpr c33
              clear c33
              have H':=Aside0.mk H
              clear H
              have p104 : 0 ≤ (x6_1 : Int):=of_decide_eq_true q1_
              have q104 : x6_1 < (t101.length : Int):=of_decide_eq_true q1_
              obtain ⟨ad104,e104,hx104_0⟩:=Kd.at_string (Kd.R_reads' HO_5.out).2.2 x6_1 p104 q104
              cases e104
              replace p104:=eq_true p104
              replace q104:=eq_true q104
              have p105 : 0 ≤ (x6_1 : Int):=of_decide_eq_true q1_
              have q105 : x6_1 < (t101.length : Int):=of_decide_eq_true q1_
              obtain ⟨ad105,e105,hx105_0⟩:=Kd.at_string (Kd.R_reads' HO_5.out).2.2 x6_1 p105 q105
              obtain rfl : ad104 = ad105:=q40_
              replace p105:=eq_true p105
              replace q105:=eq_true q105
              have p11 : 0 ≤ (x7_2 : Int):=of_decide_eq_true q1_
              have q11 : x7_2 < ((rdOf ByteArray.empty t101 x6_1).size : Int):=of_decide_eq_true q1_
              have hx11:=bt_at (rdOf ByteArray.empty t101 x6_1) x7_2
              replace p11:=eq_true p11
              replace q11:=eq_true q11
              go_wp2
              go_roundg k2
              case measure => have:=HK1.out;have:=HK2.out;omega
              case rel => exact ⟨(wrap64 (x7_2 + 1)),q12_,H',⟨by have:=HK1.out;have:=HK2.out;omega⟩,⟨by (with_reducible repeat (first | apply Kd.R_alloc | apply Kd.R_drewN | apply Kd.R_drew));exact HO_5.out⟩,⟨by repeat (first | (with_reducible first | exact HB.out | apply below_alloc | apply pw_below_drewN | apply below_drew1) | exact HB.out)⟩⟩
             ·rw [if_neg c33] at H
              have c33b0:=beq_eq_false_iff_ne.mpr c33
              have c33b1:=bne_iff_ne.mpr c33
              obtain rfl:=Option.some.inj H
              have p104 : 0 ≤ (x6_1 : Int):=of_decide_eq_true q1_
              have q104 : x6_1 < (t101.length : Int):=of_decide_eq_true q1_
              obtain ⟨ad104,e104,hx104_0⟩:=Kd.at_string (Kd.R_reads' HO_5.out).2.2 x6_1 p104 q104
              cases e104
              replace p104:=eq_true p104
              replace q104:=eq_true q104
              have p105 : 0 ≤ (x6_1 : Int):=of_decide_eq_true q1_
              have q105 : x6_1 < (t101.length : Int):=of_decide_eq_true q1_
              obtain ⟨ad105,e105,hx105_0⟩:=Kd.at_string (Kd.R_reads' HO_5.out).2.2 x6_1 p105 q105
              obtain rfl : ad104 = ad105:=q40_
              replace p105:=eq_true p105
              replace q105:=eq_true q105
              have p11 : 0 ≤ (x7_2 : Int):=of_decide_eq_true q1_
              have q11 : x7_2 < ((rdOf ByteArray.empty t101 x6_1).size : Int):=of_decide_eq_true q1_
              have hx11:=bt_at (rdOf ByteArray.empty t101 x6_1) x7_2
              replace p11:=eq_true p11
              replace q11:=eq_true q11
              go_wp2
              go_ret
              exact ⟨q2_,bh_⟩
         ·rw [if_neg c10] at H
          exact absurd H q25_
        ·rw [if_neg c9] at H
         have c9b0:=decide_eq_false c9
         clear c9
         by_cases c34 : (rdOf ByteArray.empty t101 x6_1).toList = ([] : List UInt8)
         ·rw [if_pos c34] at H
          have c34b0:=beq_iff_eq.mpr c34
          have c34b1:=bne_eq_false_iff_eq.mpr c34
          clear c34
          obtain rfl:=Option.some.inj H
          have p104 : 0 ≤ (x6_1 : Int):=of_decide_eq_true q1_
          have q104 : x6_1 < (t101.length : Int):=of_decide_eq_true q1_
          obtain ⟨ad104,e104,hx104_0⟩:=Kd.at_string (Kd.R_reads' HO_5.out).2.2 x6_1 p104 q104
          cases e104
          replace p104:=eq_true p104
          replace q104:=eq_true q104
          have p106 : 0 ≤ (x6_1 : Int):=of_decide_eq_true q1_
          have q106 : x6_1 < (t101.length : Int):=of_decide_eq_true q1_
          obtain ⟨ad106,e106,hx106_0⟩:=Kd.at_string (Kd.R_reads' HO_5.out).2.2 x6_1 p106 q106
          obtain rfl : ad104 = ad106:=(by injection e106)
          replace p106:=eq_true p106
          replace q106:=eq_true q106
          go_wp2
          go_ret
          exact ⟨q2_,bh_⟩
         ·rw [if_neg c34] at H
          have c34b0:=beq_eq_false_iff_ne.mpr c34
          have c34b1:=bne_iff_ne.mpr c34
          by_cases c35 : a1 = true
          ·subst c35
           rw [if_pos rfl] at H
           have H':=Aside0.mk H
           clear H
           have p104 : 0 ≤ (x6_1 : Int):=of_decide_eq_true q1_
           have q104 : x6_1 < (t101.length : Int):=of_decide_eq_true q1_
           obtain ⟨ad104,e104,hx104_0⟩:=Kd.at_string (Kd.R_reads' HO_5.out).2.2 x6_1 p104 q104
           cases e104
           replace p104:=eq_true p104
           replace q104:=eq_true q104
           have p106 : 0 ≤ (x6_1 : Int):=of_decide_eq_true q1_
           have q106 : x6_1 < (t101.length : Int):=of_decide_eq_true q1_
           obtain ⟨ad106,e106,hx106_0⟩:=Kd.at_string (Kd.R_reads' HO_5.out).2.2 x6_1 p106 q106
           obtain rfl : ad104 = ad106:=(by injection e106)
           replace p106:=eq_true p106
           replace q106:=eq_true q106
           go_wp2
           go_roundg k2
           case measure => have:=HK1.out;have:=HK2.out;omega
           case rel => exact ⟨(wrap64 (x6_1 + 1)),q12_,H',⟨by have:=HK1.out;have:=HK2.out;omega⟩,⟨by (with_reducible repeat (first | apply Kd.R_alloc | apply Kd.R_drewN | apply Kd.R_drew));exact HO_5.out⟩,⟨by repeat (first | (with_reducible first | exact HB.out | apply below_alloc | apply pw_below_drewN | apply below_drew1) | exact HB.out)⟩⟩
          ·replace c35:=Bool.eq_false_iff.mpr c35
           subst c35
           rw [if_neg (show ¬ (false = true) by decide)] at H
           obtain ⟨t108,A360,H⟩:=Option.bind_eq_some_iff.mp H
           have A36:=Aside0.mk A360
           clear A360
           by_cases c37 : t108 = true
           ·subst c37
            rw [if_pos rfl] at H
            by_cases c38 : ((rdOf ByteArray.empty t101 x6_1).size : Int) > 1
            ·rw [if_pos c38] at H
             have c38b0 : decide (1 < ((rdOf ByteArray.empty t101 x6_1).size : Int)) = true:=decide_eq_true c38
             have c38b1 : decide (1 < (rdOf ByteArray.empty t101 x6_1).size) = true:=decide_eq_true q5_
             clear c38
             by_cases c39 : 0 < ((rdOf ByteArray.empty t101 x6_1).size : Int)
             ·rw [if_pos c39] at H
              have c39b0:=decide_eq_true c39
              have c39b1 : decide (0 < (rdOf ByteArray.empty t101 x6_1).size) = true:=decide_eq_true q5_
              clear c39
              by_cases c41 : (bt (rdOf ByteArray.empty t101 x6_1) 0) = 48
              ·rw [if_pos c41] at H
               have c41b0:=beq_iff_eq.mpr c41
               have c41b1:=bne_eq_false_iff_eq.mpr c41
               clear c41
               obtain rfl:=Option.some.inj H
               have p104 : 0 ≤ (x6_1 : Int):=of_decide_eq_true q1_
               have q104 : x6_1 < (t101.length : Int):=of_decide_eq_true q1_
               obtain ⟨ad104,e104,hx104_0⟩:=Kd.at_string (Kd.R_reads' HO_5.out).2.2 x6_1 p104 q104
               cases e104
               replace p104:=eq_true p104
               replace q104:=eq_true q104
               have p106 : 0 ≤ (x6_1 : Int):=of_decide_eq_true q1_
               have q106 : x6_1 < (t101.length : Int):=of_decide_eq_true q1_
               obtain ⟨ad106,e106,hx106_0⟩:=Kd.at_string (Kd.R_reads' HO_5.out).2.2 x6_1 p106 q106
               obtain rfl : ad104 = ad106:=(by injection e106)
               replace p106:=eq_true p106
               replace q106:=eq_true q106
               have p107 : 0 ≤ (x6_1 : Int):=of_decide_eq_true q1_
               have q107 : x6_1 < (t101.length : Int):=of_decide_eq_true q1_
               obtain ⟨ad107,e107,hx107_0⟩:=Kd.at_string (Kd.R_reads' HO_5.out).2.2 x6_1 p107 q107
               obtain rfl : ad104 = ad107:=(by injection e107)
               replace p107:=eq_true p107
               replace q107:=eq_true q107
               go_wp2_with (first | (go_at_call 135;(with_reducible refine (Rf07_digits.calls k2 (rdOf ByteArray.empty t101 x6_1) true _ A36.out).mono ?_);rintro e w' ⟨rfl,⟨nd,rfl⟩⟩;have p109 : 0 ≤ (x6_1 : Int):=of_decide_eq_true q1_;have q109 : x6_1 < (t101.length : Int):=of_decide_eq_true q1_;obtain ⟨ad109,e109,hx109_0⟩:=Kd.at_string (Kd.R_reads' HO_5.out).2.2 x6_1 p109 q109;obtain rfl : ad104 = ad109:=(by injection e109);replace p109:=eq_true p109;replace q109:=eq_true q109;have p110 : 0 ≤ (x6_1 : Int):=of_decide_eq_true q1_;have q110 : x6_1 < (t101.length : Int):=of_decide_eq_true q1_;obtain ⟨ad110,e110,hx110_0⟩:=Kd.at_string (Kd.R_reads' HO_5.out).2.2 x6_1 p110 q110;obtain rfl : ad104 = ad110:=(by injection e110);replace p110:=eq_true p110;replace q110:=eq_true q110;have p40 : 0 ≤ (0 : Int):=q5_;have q40 : 0 < (rdOf ByteArray.empty t101 x6_1).size:=(by have : (0 : Int) < ((rdOf ByteArray.empty t101 x6_1).size : Int):=of_decide_eq_true q1_;omega);have hx40 : ∀ h : 0 < (rdOf ByteArray.empty t101 x6_1).size,(((rdOf ByteArray.empty t101 x6_1)[0]'h).toNat : Int) = bt (rdOf ByteArray.empty t101 x6_1) 0:=bt_at (rdOf ByteArray.empty t101 x6_1) 0;clear p40;have qi40 : (0 < ((rdOf ByteArray.empty t101 x6_1).size : Int)) = True:=eq_true (of_decide_eq_true q1_);replace q40:=eq_true q40))
               go_ret
               exact ⟨q2_,bh_⟩
              ·rw [if_neg c41] at H
               have c41b0:=beq_eq_false_iff_ne.mpr c41
               have c41b1:=bne_iff_ne.mpr c41
               have H':=Aside0.mk H
               clear H
               have p104 : 0 ≤ (x6_1 : Int):=of_decide_eq_true q1_
               have q104 : x6_1 < (t101.length : Int):=of_decide_eq_true q1_
               obtain ⟨ad104,e104,hx104_0⟩:=Kd.at_string (Kd.R_reads' HO_5.out).2.2 x6_1 p104 q104
               cases e104
               replace p104:=eq_true p104
               replace q104:=eq_true q104
               have p106 : 0 ≤ (x6_1 : Int):=of_decide_eq_true q1_
               have q106 : x6_1 < (t101.length : Int):=of_decide_eq_true q1_
               obtain ⟨ad106,e106,hx106_0⟩:=Kd.at_string (Kd.R_reads' HO_5.out).2.2 x6_1 p106 q106
               obtain rfl : ad104 = ad106:=(by injection e106)
               replace p106:=eq_true p106
               replace q106:=eq_true q106
               have p107 : 0 ≤ (x6_1 : Int):=of_decide_eq_true q1_
               have q107 : x6_1 < (t101.length : Int):=of_decide_eq_true q1_
               obtain ⟨ad107,e107,hx107_0⟩:=Kd.at_string (Kd.R_reads' HO_5.out).2.2 x6_1 p107 q107
               obtain rfl : ad104 = ad107:=(by injection e107)
               replace p107:=eq_true p107
               replace q107:=eq_true q107
               go_wp2_with (first | (go_at_call 135;(with_reducible refine (Rf07_digits.calls k2 (rdOf ByteArray.empty t101 x6_1) true _ A36.out).mono ?_);rintro e w' ⟨rfl,⟨nd,rfl⟩⟩;have p109 : 0 ≤ (x6_1 : Int):=of_decide_eq_true q1_;have q109 : x6_1 < (t101.length : Int):=of_decide_eq_true q1_;obtain ⟨ad109,e109,hx109_0⟩:=Kd.at_string (Kd.R_reads' HO_5.out).2.2 x6_1 p109 q109;obtain rfl : ad104 = ad109:=(by injection e109);replace p109:=eq_true p109;replace q109:=eq_true q109;have p110 : 0 ≤ (x6_1 : Int):=of_decide_eq_true q1_;have q110 : x6_1 < (t101.length : Int):=of_decide_eq_true q1_;obtain ⟨ad110,e110,hx110_0⟩:=Kd.at_string (Kd.R_reads' HO_5.out).2.2 x6_1 p110 q110;obtain rfl : ad104 = ad110:=(by injection e110);replace p110:=eq_true p110;replace q110:=eq_true q110;have p40 : 0 ≤ (0 : Int):=q5_;have q40 : 0 < (rdOf ByteArray.empty t101 x6_1).size:=(by have : (0 : Int) < ((rdOf ByteArray.empty t101 x6_1).size : Int):=of_decide_eq_true q1_;omega);have hx40 : ∀ h : 0 < (rdOf ByteArray.empty t101 x6_1).size,(((rdOf ByteArray.empty t101 x6_1)[0]'h).toNat : Int) = bt (rdOf ByteArray.empty t101 x6_1) 0:=bt_at (rdOf ByteArray.empty t101 x6_1) 0;clear p40;have qi40 : (0 < ((rdOf ByteArray.empty t101 x6_1).size : Int)) = True:=eq_true (of_decide_eq_true q1_);replace q40:=eq_true q40))
               go_roundg k2
               case measure => have:=HK1.out;have:=HK2.out;omega
               case rel => exact ⟨(wrap64 (x6_1 + 1)),q12_,H',⟨by have:=HK1.out;have:=HK2.out;omega⟩,⟨by (with_reducible repeat (first | apply Kd.R_alloc | apply Kd.R_drewN | apply Kd.R_drew));exact HO_5.out⟩,⟨by repeat (first | (with_reducible first | exact HB.out | apply below_alloc | apply pw_below_drewN | apply below_drew1) | exact HB.out)⟩⟩
             ·rw [if_neg c39] at H
              exact absurd H q25_
            ·rw [if_neg c38] at H
             have c38b0 : decide (1 < ((rdOf ByteArray.empty t101 x6_1).size : Int)) = false:=decide_eq_false c38
             have c38b1 : decide (1 < (rdOf ByteArray.empty t101 x6_1).size) = false:=decide_eq_false q5_
             clear c38
             have H':=Aside0.mk H
             clear H
             have p104 : 0 ≤ (x6_1 : Int):=of_decide_eq_true q1_
             have q104 : x6_1 < (t101.length : Int):=of_decide_eq_true q1_
             obtain ⟨ad104,e104,hx104_0⟩:=Kd.at_string (Kd.R_reads' HO_5.out).2.2 x6_1 p104 q104
             cases e104
             replace p104:=eq_true p104
             replace q104:=eq_true q104
             have p106 : 0 ≤ (x6_1 : Int):=of_decide_eq_true q1_
             have q106 : x6_1 < (t101.length : Int):=of_decide_eq_true q1_
             obtain ⟨ad106,e106,hx106_0⟩:=Kd.at_string (Kd.R_reads' HO_5.out).2.2 x6_1 p106 q106
             obtain rfl : ad104 = ad106:=(by injection e106)
             replace p106:=eq_true p106
             replace q106:=eq_true q106
             have p107 : 0 ≤ (x6_1 : Int):=of_decide_eq_true q1_
             have q107 : x6_1 < (t101.length : Int):=of_decide_eq_true q1_
             obtain ⟨ad107,e107,hx107_0⟩:=Kd.at_string (Kd.R_reads' HO_5.out).2.2 x6_1 p107 q107
             obtain rfl : ad104 = ad107:=(by injection e107)
             replace p107:=eq_true p107
             replace q107:=eq_true q107
             go_wp2_with (first | (go_at_call 135;(with_reducible refine (Rf07_digits.calls k2 (rdOf ByteArray.empty t101 x6_1) true _ A36.out).mono ?_);rintro e w' ⟨rfl,⟨nd,rfl⟩⟩;have p109 : 0 ≤ (x6_1 : Int):=of_decide_eq_true q1_;have q109 : x6_1 < (t101.length : Int):=of_decide_eq_true q1_;obtain ⟨ad109,e109,hx109_0⟩:=Kd.at_string (Kd.R_reads' HO_5.out).2.2 x6_1 p109 q109;obtain rfl : ad104 = ad109:=(by injection e109);replace p109:=eq_true p109;replace q109:=eq_true q109))
             go_roundg k2
             case measure => have:=HK1.out;have:=HK2.out;omega
             case rel => exact ⟨(wrap64 (x6_1 + 1)),q12_,H',⟨by have:=HK1.out;have:=HK2.out;omega⟩,⟨by (with_reducible repeat (first | apply Kd.R_alloc | apply Kd.R_drewN | apply Kd.R_drew));exact HO_5.out⟩,⟨by repeat (first | (with_reducible first | exact HB.out | apply below_alloc | apply pw_below_drewN | apply below_drew1) | exact HB.out)⟩⟩
           ·replace c37:=Bool.eq_false_iff.mpr c37
            subst c37
            rw [if_neg (show ¬ (false = true) by decide)] at H
            have H':=Aside0.mk H
            clear H
            have p104 : 0 ≤ (x6_1 : Int):=of_decide_eq_true q1_
            have q104 : x6_1 < (t101.length : Int):=of_decide_eq_true q1_
            obtain ⟨ad104,e104,hx104_0⟩:=Kd.at_string (Kd.R_reads' HO_5.out).2.2 x6_1 p104 q104
            cases e104
            replace p104:=eq_true p104
            replace q104:=eq_true q104
            have p106 : 0 ≤ (x6_1 : Int):=of_decide_eq_true q1_
            have q106 : x6_1 < (t101.length : Int):=of_decide_eq_true q1_
            obtain ⟨ad106,e106,hx106_0⟩:=Kd.at_string (Kd.R_reads' HO_5.out).2.2 x6_1 p106 q106
            obtain rfl : ad104 = ad106:=(by injection e106)
            replace p106:=eq_true p106
            replace q106:=eq_true q106
            have p107 : 0 ≤ (x6_1 : Int):=of_decide_eq_true q1_
            have q107 : x6_1 < (t101.length : Int):=of_decide_eq_true q1_
            obtain ⟨ad107,e107,hx107_0⟩:=Kd.at_string (Kd.R_reads' HO_5.out).2.2 x6_1 p107 q107
            obtain rfl : ad104 = ad107:=(by injection e107)
            replace p107:=eq_true p107
            replace q107:=eq_true q107
            go_wp2_with (first | (go_at_call 135;(with_reducible refine (Rf07_digits.calls k2 (rdOf ByteArray.empty t101 x6_1) false _ A36.out).mono ?_);rintro e w' ⟨rfl,⟨nd,rfl⟩⟩))
            go_roundg k2
            case measure => have:=HK1.out;have:=HK2.out;omega
            case rel => exact ⟨(wrap64 (x6_1 + 1)),q12_,H',⟨by have:=HK1.out;have:=HK2.out;omega⟩,⟨by (with_reducible repeat (first | apply Kd.R_alloc | apply Kd.R_drewN | apply Kd.R_drew));exact HO_5.out⟩,⟨by repeat (first | (with_reducible first | exact HB.out | apply below_alloc | apply pw_below_drewN | apply below_drew1) | exact HB.out)⟩⟩
       ·rw [if_neg c8] at H
        exact absurd H q25_
      ·rw [if_neg c7] at H
       exact absurd H q25_
   ·rw [if_neg c5] at H
    have c5b0:=decide_eq_false c5
    clear c5
    obtain rfl:=Option.some.inj H
    obtain ⟨Ao42,co42,eo42⟩:=Kd.R_slice HO_5.out
    subst eo42
    go_wp2
    go_ret
    exact ⟨q2_,bh_⟩
end Go.Proofs.YtennhpoemdaghaaGreatDoor.P
end
section
namespace Go.Proofs.YtennhpoemdaghaaGreatDoor.P
open Go.RowKit Go.Proofs.YtennhpoemdaghaaGreatDoorW.PrintWords Go.Proofs.YtennhpoemdaghaaGreatDoorW.PrintLast Go.Proofs.YtennhpoemdaghaaGreatDoorW.PrintMore
def Rf07_num.f (a0 : Int) : Option (Bool):=if a0 ≥ 0 then (some (decide (a0 ≤ 999999999))) else (some false)
set_option maxHeartbeats 8000000 in
set_option maxRecDepth 100000 in
theorem Rf07_num.calls (a0 : Int) (r : Bool) (w : World) (h : Rf07_num.f a0 = some r) :
  Calls Tryz.prog 95 #[.int .i64 a0] w fun e w' => e = .returned (.bool r) ∧ Drawn0 w w':=by
 have H : (if a0 ≥ 0 then (some (decide (a0 ≤ 999999999))) else (some false)) = some r:=h
 clear h
 by_cases c2 : a0 ≥ 0
 ·rw [if_pos c2] at H
  have c2b0 : decide (0 ≤ a0) = true:=decide_eq_true c2
  clear c2
  obtain rfl:=Option.some.inj H
  go_enter Tryz.func95,Tryz.ntmps95
  go_wp2
  go_ret
  exact ⟨q3_,q4_⟩
 ·rw [if_neg c2] at H
  have c2b0 : decide (0 ≤ a0) = false:=decide_eq_false c2
  clear c2
  obtain rfl:=Option.some.inj H
  go_enter Tryz.func95,Tryz.ntmps95
  go_wp2
  go_ret
  exact ⟨q3_,q4_⟩
def Rf07_Check.j0 : Nat → Bool → Int → Int → Int → ByteArray → ByteArray → Option (Bool)
 | 0,_,_,_,_,_,_ => none
 | k + 1,x30,x102000,x102001,x102002,x102003,x102004 => if x30 = true then (some false) else (if x102003.toList = ([] : List UInt8) then (if x102004.toList = ([] : List UInt8) then (some true) else ((Rf07_identifiers.f k x102004 true).bind fun t105 => (some t105))) else ((Rf07_identifiers.f k x102003 false).bind fun t106 => (if t106 = true then (if x102004.toList = ([] : List UInt8) then (some true) else ((Rf07_identifiers.f k x102004 true).bind fun t107 => (some t107))) else (some false))))
def Rf07_Check.f (k : Nat) (a0_0 : Int) (a0_1 : Int) (a0_2 : Int) (a0_3 : ByteArray) (a0_4 : ByteArray) : Option (Bool):=(Rf07_num.f a0_0).bind fun t102 => (if t102 = true then ((Rf07_num.f a0_1).bind fun t103 => (if t103 = true then ((Rf07_num.f a0_2).bind fun t104 => (if t104 = true then (if (a0_3.size : Int) > 30 then (Rf07_Check.j0 k true a0_0 a0_1 a0_2 a0_3 a0_4) else (Rf07_Check.j0 k (decide ((a0_4.size : Int) > 30)) a0_0 a0_1 a0_2 a0_3 a0_4)) else (Rf07_Check.j0 k true a0_0 a0_1 a0_2 a0_3 a0_4))) else (Rf07_Check.j0 k true a0_0 a0_1 a0_2 a0_3 a0_4))) else (Rf07_Check.j0 k true a0_0 a0_1 a0_2 a0_3 a0_4))
set_option maxHeartbeats 8000000 in
set_option maxRecDepth 100000 in
theorem Rf07_Check.calls (k : Nat) (a0_0 : Int) (a0_1 : Int) (a0_2 : Int) (a0_3 : ByteArray) (a0_4 : ByteArray) (r : Bool) (w : World) (h : Rf07_Check.f k a0_0 a0_1 a0_2 a0_3 a0_4 = some r) :
  Calls Tryz.prog 67 #[.agg #[.int .i64 a0_0,.int .i64 a0_1,.int .i64 a0_2,.string a0_3,.string a0_4]] w fun e w' => e = .returned (.bool r) ∧ Below w.heap.size w w':=by
 have hu24:=Tryz.underlying24
 have HB:=Aside0.mk (Below.refl w.heap.size w)
 have H : ((Rf07_num.f a0_0).bind fun t102 => (if t102 = true then ((Rf07_num.f a0_1).bind fun t103 => (if t103 = true then ((Rf07_num.f a0_2).bind fun t104 => (if t104 = true then (if (a0_3.size : Int) > 30 then (Rf07_Check.j0 k true a0_0 a0_1 a0_2 a0_3 a0_4) else (Rf07_Check.j0 k (decide ((a0_4.size : Int) > 30)) a0_0 a0_1 a0_2 a0_3 a0_4)) else (Rf07_Check.j0 k true a0_0 a0_1 a0_2 a0_3 a0_4))) else (Rf07_Check.j0 k true a0_0 a0_1 a0_2 a0_3 a0_4))) else (Rf07_Check.j0 k true a0_0 a0_1 a0_2 a0_3 a0_4))) = some r:=h
 clear h
 have HC2:=Aside0.mk H
 clear H
 go_enter Tryz.func67,Tryz.ntmps67
 go_upto_region 1 with (first | ((with_reducible refine gate_dst (N:=1) rfl ?_);(try (refine gate_guard q55_ ?_;dsimp only));refine bx_ 1 24 #[.int .i64 a0_0,.int .i64 a0_1,.int .i64 a0_2,.string a0_3,.string a0_4] ?_;intro gb101 hg w3 hbox hb;have BK101:=Aside0.mk (hbox);have GW101:=Aside0.mk ((q17_ : w.heap.size ≤ gb101));have GE101:=Aside0.mk ((q17_ : w.heap.size ≤ gb101));replace HB:=Aside0.mk (below_step bh_ hb);clear hb hbox hg))
 (try simp only [Act.put,List.setIfInBounds_toArray,List.set_cons_zero,List.set_cons_succ])
 go_cut [30] (fun v30 wc => ∃ (kq : Nat) (x30_1 : Bool),v30 = .bool x30_1 ∧ Aside0 (Rf07_Check.j0 kq x30_1 a0_0 a0_1 a0_2 a0_3 a0_4 = some r) ∧ Aside0 (kq ≤ k) ∧ Aside0 (wc.heap[gb101]? = some (.cells #[.int .i64 a0_0,.int .i64 a0_1,.int .i64 a0_2,.string a0_3,.string a0_4] 24 (0,0))) ∧ Aside0 (Below w.heap.size w wc))
 case first =>
  have H:=HC2.out
  clear HC2
  obtain ⟨t102,A40,H⟩:=Option.bind_eq_some_iff.mp H
  have A4:=Aside0.mk A40
  clear A40
  by_cases c5 : t102 = true
  ·subst c5
   rw [if_pos rfl] at H
   obtain ⟨t103,A60,H⟩:=Option.bind_eq_some_iff.mp H
   have A6:=Aside0.mk A60
   clear A60
   by_cases c7 : t103 = true
   ·subst c7
    rw [if_pos rfl] at H
    obtain ⟨t104,A80,H⟩:=Option.bind_eq_some_iff.mp H
    have A8:=Aside0.mk A80
    clear A80
    by_cases c9 : t104 = true
    ·subst c9
     rw [if_pos rfl] at H
     by_cases c10 : (a0_3.size : Int) > 30
     ·rw [if_pos c10] at H
      have c10b0 : decide (30 < (a0_3.size : Int)) = true:=decide_eq_true c10
      have c10b1 : decide (30 < a0_3.size) = true:=decide_eq_true q5_
      clear c10
      (first | rw [c10b0] | (simp only [i64_w];rw [c10b0]) | skip)
      have H':=Aside0.mk H
      clear H
      have hcz11_0 : w3.cell? ⟨gb101,0,none⟩ = some (.int .i64 a0_0):=(blk_cell BK101.out 0).trans rfl
      have hcz11_1 : w3.cell? ⟨gb101,1,none⟩ = some (.int .i64 a0_1):=(blk_cell BK101.out 1).trans rfl
      have hcz11_2 : w3.cell? ⟨gb101,2,none⟩ = some (.int .i64 a0_2):=(blk_cell BK101.out 2).trans rfl
      have hcz11_3 : w3.cell? ⟨gb101,3,none⟩ = some (.string a0_3):=(blk_cell BK101.out 3).trans rfl
      have hcz11_4 : w3.cell? ⟨gb101,4,none⟩ = some (.string a0_4):=(blk_cell BK101.out 4).trans rfl
      have hfz11_0:=blk_frozen BK101.out 0
      have hfz11_1:=blk_frozen BK101.out 1
      have hfz11_2:=blk_frozen BK101.out 2
      have hfz11_3:=blk_frozen BK101.out 3
      have hfz11_4:=blk_frozen BK101.out 4
      go_wp2_with (first | ((with_reducible refine gate_callee (f:=95) rfl ?_);refine gl_ 5 Tryz.func95 #[.int .i64 a0_0] ?_;(with_reducible refine (Rf07_num.calls a0_0 true _ A4.out).mono ?_);rintro e w' ⟨rfl,⟨nd,rfl⟩⟩;refine ⟨_,rfl,?_⟩) | (go_at_call 95;(with_reducible refine (Rf07_num.calls a0_1 true _ A6.out).mono ?_);rintro e w' ⟨rfl,⟨nd,rfl⟩⟩) | (go_at_call 95;(with_reducible refine (Rf07_num.calls a0_2 true _ A8.out).mono ?_);rintro e w' ⟨rfl,⟨nd,rfl⟩⟩))
      go_meet
      case rel => exact ⟨_,(true),q12_,H',⟨by first | omega | exact Nat.le_refl _⟩,⟨by (with_reducible repeat (first | refine blk_drewN ?_ _ | refine blk_drew ?_ | refine blk_alloc ?_ _));exact BK101.out⟩,⟨by repeat (first | (with_reducible first | exact HB.out | apply below_alloc | apply pw_below_drewN | apply below_drew1 | refine below_set ?_ GE101.out) | exact HB.out)⟩⟩
     ·rw [if_neg c10] at H
      have c10b0 : decide (30 < (a0_3.size : Int)) = false:=decide_eq_false c10
      have c10b1 : decide (30 < a0_3.size) = false:=decide_eq_false q5_
      clear c10
      (first | rw [c10b0] | (simp only [i64_w];rw [c10b0]) | skip)
      have H':=Aside0.mk H
      clear H
      have hcz12_0 : w3.cell? ⟨gb101,0,none⟩ = some (.int .i64 a0_0):=(blk_cell BK101.out 0).trans rfl
      have hcz12_1 : w3.cell? ⟨gb101,1,none⟩ = some (.int .i64 a0_1):=(blk_cell BK101.out 1).trans rfl
      have hcz12_2 : w3.cell? ⟨gb101,2,none⟩ = some (.int .i64 a0_2):=(blk_cell BK101.out 2).trans rfl
      have hcz12_3 : w3.cell? ⟨gb101,3,none⟩ = some (.string a0_3):=(blk_cell BK101.out 3).trans rfl
      have hcz12_4 : w3.cell? ⟨gb101,4,none⟩ = some (.string a0_4):=(blk_cell BK101.out 4).trans rfl
      have hfz12_0:=blk_frozen BK101.out 0
      have hfz12_1:=blk_frozen BK101.out 1
      have hfz12_2:=blk_frozen BK101.out 2
      have hfz12_3:=blk_frozen BK101.out 3
      have hfz12_4:=blk_frozen BK101.out 4
      go_wp2_with (first | ((with_reducible refine gate_callee (f:=95) rfl ?_);refine gl_ 5 Tryz.func95 #[.int .i64 a0_0] ?_;(with_reducible refine (Rf07_num.calls a0_0 true _ A4.out).mono ?_);rintro e w' ⟨rfl,⟨nd,rfl⟩⟩;refine ⟨_,rfl,?_⟩) | (go_at_call 95;(with_reducible refine (Rf07_num.calls a0_1 true _ A6.out).mono ?_);rintro e w' ⟨rfl,⟨nd,rfl⟩⟩) | (go_at_call 95;(with_reducible refine (Rf07_num.calls a0_2 true _ A8.out).mono ?_);rintro e w' ⟨rfl,⟨nd,rfl⟩⟩))
      go_meet
      case rel => exact ⟨_,(decide ((a0_4.size : Int) > 30)),q12_,H',⟨by first | omega | exact Nat.le_refl _⟩,⟨by (with_reducible repeat (first | refine blk_drewN ?_ _ | refine blk_drew ?_ | refine blk_alloc ?_ _));exact BK101.out⟩,⟨by repeat (first | (with_reducible first | exact HB.out | apply below_alloc | apply pw_below_drewN | apply below_drew1 | refine below_set ?_ GE101.out) | exact HB.out)⟩⟩
    ·replace c9:=Bool.eq_false_iff.mpr c9
     subst c9
     rw [if_neg (show ¬ (false = true) by decide)] at H
     have H':=Aside0.mk H
     clear H
     have hcz13_0 : w3.cell? ⟨gb101,0,none⟩ = some (.int .i64 a0_0):=(blk_cell BK101.out 0).trans rfl
     have hcz13_1 : w3.cell? ⟨gb101,1,none⟩ = some (.int .i64 a0_1):=(blk_cell BK101.out 1).trans rfl
     have hcz13_2 : w3.cell? ⟨gb101,2,none⟩ = some (.int .i64 a0_2):=(blk_cell BK101.out 2).trans rfl
     have hcz13_3 : w3.cell? ⟨gb101,3,none⟩ = some (.string a0_3):=(blk_cell BK101.out 3).trans rfl
     have hcz13_4 : w3.cell? ⟨gb101,4,none⟩ = some (.string a0_4):=(blk_cell BK101.out 4).trans rfl
     have hfz13_0:=blk_frozen BK101.out 0
     have hfz13_1:=blk_frozen BK101.out 1
     have hfz13_2:=blk_frozen BK101.out 2
     have hfz13_3:=blk_frozen BK101.out 3
     have hfz13_4:=blk_frozen BK101.out 4
     go_wp2_with (first | ((with_reducible refine gate_callee (f:=95) rfl ?_);refine gl_ 5 Tryz.func95 #[.int .i64 a0_0] ?_;(with_reducible refine (Rf07_num.calls a0_0 true _ A4.out).mono ?_);rintro e w' ⟨rfl,⟨nd,rfl⟩⟩;refine ⟨_,rfl,?_⟩) | (go_at_call 95;(with_reducible refine (Rf07_num.calls a0_1 true _ A6.out).mono ?_);rintro e w' ⟨rfl,⟨nd,rfl⟩⟩) | (go_at_call 95;(with_reducible refine (Rf07_num.calls a0_2 false _ A8.out).mono ?_);rintro e w' ⟨rfl,⟨nd,rfl⟩⟩))
     go_meet
     case rel => exact ⟨_,(true),q12_,H',⟨by first | omega | exact Nat.le_refl _⟩,⟨by (with_reducible repeat (first | refine blk_drewN ?_ _ | refine blk_drew ?_ | refine blk_alloc ?_ _));exact BK101.out⟩,⟨by repeat (first | (with_reducible first | exact HB.out | apply below_alloc | apply pw_below_drewN | apply below_drew1 | refine below_set ?_ GE101.out) | exact HB.out)⟩⟩
   ·replace c7:=Bool.eq_false_iff.mpr c7
    subst c7
    rw [if_neg (show ¬ (false = true) by decide)] at H
    have H':=Aside0.mk H
    clear H
    have hcz14_0 : w3.cell? ⟨gb101,0,none⟩ = some (.int .i64 a0_0):=(blk_cell BK101.out 0).trans rfl
    have hcz14_1 : w3.cell? ⟨gb101,1,none⟩ = some (.int .i64 a0_1):=(blk_cell BK101.out 1).trans rfl
    have hcz14_2 : w3.cell? ⟨gb101,2,none⟩ = some (.int .i64 a0_2):=(blk_cell BK101.out 2).trans rfl
    have hcz14_3 : w3.cell? ⟨gb101,3,none⟩ = some (.string a0_3):=(blk_cell BK101.out 3).trans rfl
    have hcz14_4 : w3.cell? ⟨gb101,4,none⟩ = some (.string a0_4):=(blk_cell BK101.out 4).trans rfl
    have hfz14_0:=blk_frozen BK101.out 0
    have hfz14_1:=blk_frozen BK101.out 1
    have hfz14_2:=blk_frozen BK101.out 2
    have hfz14_3:=blk_frozen BK101.out 3
    have hfz14_4:=blk_frozen BK101.out 4
    go_wp2_with (first | ((with_reducible refine gate_callee (f:=95) rfl ?_);refine gl_ 5 Tryz.func95 #[.int .i64 a0_0] ?_;(with_reducible refine (Rf07_num.calls a0_0 true _ A4.out).mono ?_);rintro e w' ⟨rfl,⟨nd,rfl⟩⟩;refine ⟨_,rfl,?_⟩) | (go_at_call 95;(with_reducible refine (Rf07_num.calls a0_1 false _ A6.out).mono ?_);rintro e w' ⟨rfl,⟨nd,rfl⟩⟩))
    go_meet
    case rel => exact ⟨_,(true),q12_,H',⟨by first | omega | exact Nat.le_refl _⟩,⟨by (with_reducible repeat (first | refine blk_drewN ?_ _ | refine blk_drew ?_ | refine blk_alloc ?_ _));exact BK101.out⟩,⟨by repeat (first | (with_reducible first | exact HB.out | apply below_alloc | apply pw_below_drewN | apply below_drew1 | refine below_set ?_ GE101.out) | exact HB.out)⟩⟩
  ·replace c5:=Bool.eq_false_iff.mpr c5
   subst c5
   rw [if_neg (show ¬ (false = true) by decide)] at H
   have H':=Aside0.mk H
   clear H
   have hcz15_0 : w3.cell? ⟨gb101,0,none⟩ = some (.int .i64 a0_0):=(blk_cell BK101.out 0).trans rfl
   have hcz15_1 : w3.cell? ⟨gb101,1,none⟩ = some (.int .i64 a0_1):=(blk_cell BK101.out 1).trans rfl
   have hcz15_2 : w3.cell? ⟨gb101,2,none⟩ = some (.int .i64 a0_2):=(blk_cell BK101.out 2).trans rfl
   have hcz15_3 : w3.cell? ⟨gb101,3,none⟩ = some (.string a0_3):=(blk_cell BK101.out 3).trans rfl
   have hcz15_4 : w3.cell? ⟨gb101,4,none⟩ = some (.string a0_4):=(blk_cell BK101.out 4).trans rfl
   have hfz15_0:=blk_frozen BK101.out 0
   have hfz15_1:=blk_frozen BK101.out 1
   have hfz15_2:=blk_frozen BK101.out 2
   have hfz15_3:=blk_frozen BK101.out 3
   have hfz15_4:=blk_frozen BK101.out 4
   go_wp2_with (first | ((with_reducible refine gate_callee (f:=95) rfl ?_);refine gl_ 5 Tryz.func95 #[.int .i64 a0_0] ?_;(with_reducible refine (Rf07_num.calls a0_0 false _ A4.out).mono ?_);rintro e w' ⟨rfl,⟨nd,rfl⟩⟩;refine ⟨_,rfl,?_⟩))
   go_meet
   case rel => exact ⟨_,(true),q12_,H',⟨by first | omega | exact Nat.le_refl _⟩,⟨by (with_reducible repeat (first | refine blk_drewN ?_ _ | refine blk_drew ?_ | refine blk_alloc ?_ _));exact BK101.out⟩,⟨by repeat (first | (with_reducible first | exact HB.out | apply below_alloc | apply pw_below_drewN | apply below_drew1 | refine below_set ?_ GE101.out) | exact HB.out)⟩⟩
 case rest =>
  clear HC2
  try clear c1
  try clear p2
  try clear c5
  try clear c6
  try clear c7
  try clear c9
  try clear c10
  try clear c10b0
  try clear c10b1
  try clear hcz11_0
  try clear hcz11_1
  try clear hcz11_2
  try clear hcz11_3
  try clear hcz11_4
  try clear hcz12_0
  try clear hcz12_1
  try clear hcz12_2
  try clear hcz12_3
  try clear hcz12_4
  try clear hcz13_0
  try clear hcz13_1
  try clear hcz13_2
  try clear hcz13_3
  try clear hcz13_4
  try clear hcz14_0
  try clear hcz14_1
  try clear hcz14_2
  try clear hcz14_3
  try clear hcz14_4
  try clear hcz15_0
  try clear hcz15_1
  try clear hcz15_2
  try clear hcz15_3
  try clear hcz15_4
  try clear hfz11_0
  try clear hfz11_1
  try clear hfz11_2
  try clear hfz11_3
  try clear hfz11_4
  try clear hfz12_0
  try clear hfz12_1
  try clear hfz12_2
  try clear hfz12_3
  try clear hfz12_4
  try clear hfz13_0
  try clear hfz13_1
  try clear hfz13_2
  try clear hfz13_3
  try clear hfz13_4
  try clear hfz14_0
  try clear hfz14_1
  try clear hfz14_2
  try clear hfz14_3
  try clear hfz14_4
  try clear hfz15_0
  try clear hfz15_1
  try clear hfz15_2
  try clear hfz15_3
  try clear hfz15_4
  obtain ⟨kq,x30_1,rfl,HA,HJ1,BK101,HB⟩:=hcut
  cases kq with
  | zero => exact absurd HA.out (by simp [Rf07_Check.j0])
  | succ kj1 =>
   have H:=HA.out
   clear HA
   simp only [Rf07_Check.j0] at H
   by_cases c16 : x30_1 = true
   ·subst c16
    rw [if_pos rfl] at H
    obtain rfl:=Option.some.inj H
    go_wp2
    go_ret
    exact ⟨q2_,bh_⟩
   ·replace c16:=Bool.eq_false_iff.mpr c16
    subst c16
    rw [if_neg (show ¬ (false = true) by decide)] at H
    by_cases c17 : a0_3.toList = ([] : List UInt8)
    ·rw [if_pos c17] at H
     have c17b0:=beq_iff_eq.mpr c17
     have c17b1:=bne_eq_false_iff_eq.mpr c17
     clear c17
     by_cases c18 : a0_4.toList = ([] : List UInt8)
     ·rw [if_pos c18] at H
      have c18b0:=beq_iff_eq.mpr c18
      have c18b1:=bne_eq_false_iff_eq.mpr c18
      clear c18
      obtain rfl:=Option.some.inj H
      have hcz19_0 : wc.cell? ⟨gb101,0,none⟩ = some (.int .i64 a0_0):=(blk_cell BK101.out 0).trans rfl
      have hcz19_1 : wc.cell? ⟨gb101,1,none⟩ = some (.int .i64 a0_1):=(blk_cell BK101.out 1).trans rfl
      have hcz19_2 : wc.cell? ⟨gb101,2,none⟩ = some (.int .i64 a0_2):=(blk_cell BK101.out 2).trans rfl
      have hcz19_3 : wc.cell? ⟨gb101,3,none⟩ = some (.string a0_3):=(blk_cell BK101.out 3).trans rfl
      have hcz19_4 : wc.cell? ⟨gb101,4,none⟩ = some (.string a0_4):=(blk_cell BK101.out 4).trans rfl
      have hfz19_0:=blk_frozen BK101.out 0
      have hfz19_1:=blk_frozen BK101.out 1
      have hfz19_2:=blk_frozen BK101.out 2
      have hfz19_3:=blk_frozen BK101.out 3
      have hfz19_4:=blk_frozen BK101.out 4
      go_wp2
      go_ret
      exact ⟨q2_,bh_⟩
     ·rw [if_neg c18] at H
      have c18b0:=beq_eq_false_iff_ne.mpr c18
      have c18b1:=bne_iff_ne.mpr c18
      obtain ⟨t105,A200,H⟩:=Option.bind_eq_some_iff.mp H
      have A20:=Aside0.mk A200
      clear A200
      obtain rfl:=Option.some.inj H
      have hcz21_0 : wc.cell? ⟨gb101,0,none⟩ = some (.int .i64 a0_0):=(blk_cell BK101.out 0).trans rfl
      have hcz21_1 : wc.cell? ⟨gb101,1,none⟩ = some (.int .i64 a0_1):=(blk_cell BK101.out 1).trans rfl
      have hcz21_2 : wc.cell? ⟨gb101,2,none⟩ = some (.int .i64 a0_2):=(blk_cell BK101.out 2).trans rfl
      have hcz21_3 : wc.cell? ⟨gb101,3,none⟩ = some (.string a0_3):=(blk_cell BK101.out 3).trans rfl
      have hcz21_4 : wc.cell? ⟨gb101,4,none⟩ = some (.string a0_4):=(blk_cell BK101.out 4).trans rfl
      have hfz21_0:=blk_frozen BK101.out 0
      have hfz21_1:=blk_frozen BK101.out 1
      have hfz21_2:=blk_frozen BK101.out 2
      have hfz21_3:=blk_frozen BK101.out 3
      have hfz21_4:=blk_frozen BK101.out 4
      go_wp2_with (first | (go_at_call 96;(with_reducible refine (Rf07_identifiers.calls kj1 a0_4 true t105 _ A20.out).mono ?_);rintro e w22 ⟨rfl,hb⟩;replace BK101:=Aside0.mk (blk_below bk101_ hb);replace HB:=Aside0.mk (below_step bh_ hb);(try clear hb)))
      go_ret
      exact ⟨q2_,bh_⟩
    ·rw [if_neg c17] at H
     have c17b0:=beq_eq_false_iff_ne.mpr c17
     have c17b1:=bne_iff_ne.mpr c17
     obtain ⟨t106,A230,H⟩:=Option.bind_eq_some_iff.mp H
     have A23:=Aside0.mk A230
     clear A230
     by_cases c24 : t106 = true
     ·subst c24
      rw [if_pos rfl] at H
      by_cases c25 : a0_4.toList = ([] : List UInt8)
      ·rw [if_pos c25] at H
       have c25b0:=beq_iff_eq.mpr c25
       have c25b1:=bne_eq_false_iff_eq.mpr c25
       clear c25
       obtain rfl:=Option.some.inj H
       have hcz26_0 : wc.cell? ⟨gb101,0,none⟩ = some (.int .i64 a0_0):=(blk_cell BK101.out 0).trans rfl
       have hcz26_1 : wc.cell? ⟨gb101,1,none⟩ = some (.int .i64 a0_1):=(blk_cell BK101.out 1).trans rfl
       have hcz26_2 : wc.cell? ⟨gb101,2,none⟩ = some (.int .i64 a0_2):=(blk_cell BK101.out 2).trans rfl
       have hcz26_3 : wc.cell? ⟨gb101,3,none⟩ = some (.string a0_3):=(blk_cell BK101.out 3).trans rfl
       have hcz26_4 : wc.cell? ⟨gb101,4,none⟩ = some (.string a0_4):=(blk_cell BK101.out 4).trans rfl
       have hfz26_0:=blk_frozen BK101.out 0
       have hfz26_1:=blk_frozen BK101.out 1
       have hfz26_2:=blk_frozen BK101.out 2
       have hfz26_3:=blk_frozen BK101.out 3
       have hfz26_4:=blk_frozen BK101.out 4
       go_wp2_with (first | (go_at_call 96;(with_reducible refine (Rf07_identifiers.calls kj1 a0_3 false true _ A23.out).mono ?_);rintro e w27 ⟨rfl,hb⟩;replace BK101:=Aside0.mk (blk_below bk101_ hb);replace HB:=Aside0.mk (below_step bh_ hb);(try clear hb);have hcz28_0 : w27.cell? ⟨gb101,0,none⟩ = some (.int .i64 a0_0):=(blk_cell BK101.out 0).trans rfl;have hcz28_1 : w27.cell? ⟨gb101,1,none⟩ = some (.int .i64 a0_1):=(blk_cell BK101.out 1).trans rfl;have hcz28_2 : w27.cell? ⟨gb101,2,none⟩ = some (.int .i64 a0_2):=(blk_cell BK101.out 2).trans rfl;have hcz28_3 : w27.cell? ⟨gb101,3,none⟩ = some (.string a0_3):=(blk_cell BK101.out 3).trans rfl;have hcz28_4 : w27.cell? ⟨gb101,4,none⟩ = some (.string a0_4):=(blk_cell BK101.out 4).trans rfl;have hfz28_0:=blk_frozen BK101.out 0;have hfz28_1:=blk_frozen BK101.out 1;have hfz28_2:=blk_frozen BK101.out 2;have hfz28_3:=blk_frozen BK101.out 3;have hfz28_4:=blk_frozen BK101.out 4))
       go_ret
       exact ⟨q2_,bh_⟩
      ·rw [if_neg c25] at H
       have c25b0:=beq_eq_false_iff_ne.mpr c25
       have c25b1:=bne_iff_ne.mpr c25
       obtain ⟨t107,A290,H⟩:=Option.bind_eq_some_iff.mp H
       have A29:=Aside0.mk A290
       clear A290
       obtain rfl:=Option.some.inj H
       have hcz30_0 : wc.cell? ⟨gb101,0,none⟩ = some (.int .i64 a0_0):=(blk_cell BK101.out 0).trans rfl
       have hcz30_1 : wc.cell? ⟨gb101,1,none⟩ = some (.int .i64 a0_1):=(blk_cell BK101.out 1).trans rfl
       have hcz30_2 : wc.cell? ⟨gb101,2,none⟩ = some (.int .i64 a0_2):=(blk_cell BK101.out 2).trans rfl
       have hcz30_3 : wc.cell? ⟨gb101,3,none⟩ = some (.string a0_3):=(blk_cell BK101.out 3).trans rfl
       have hcz30_4 : wc.cell? ⟨gb101,4,none⟩ = some (.string a0_4):=(blk_cell BK101.out 4).trans rfl
       have hfz30_0:=blk_frozen BK101.out 0
       have hfz30_1:=blk_frozen BK101.out 1
       have hfz30_2:=blk_frozen BK101.out 2
       have hfz30_3:=blk_frozen BK101.out 3
       have hfz30_4:=blk_frozen BK101.out 4
       go_wp2_with (first | (go_at_call 96;(with_reducible refine (Rf07_identifiers.calls kj1 a0_3 false true _ A23.out).mono ?_);rintro e w31 ⟨rfl,hb⟩;replace BK101:=Aside0.mk (blk_below bk101_ hb);replace HB:=Aside0.mk (below_step bh_ hb);(try clear hb);have hcz32_0 : w31.cell? ⟨gb101,0,none⟩ = some (.int .i64 a0_0):=(blk_cell BK101.out 0).trans rfl;have hcz32_1 : w31.cell? ⟨gb101,1,none⟩ = some (.int .i64 a0_1):=(blk_cell BK101.out 1).trans rfl;have hcz32_2 : w31.cell? ⟨gb101,2,none⟩ = some (.int .i64 a0_2):=(blk_cell BK101.out 2).trans rfl;have hcz32_3 : w31.cell? ⟨gb101,3,none⟩ = some (.string a0_3):=(blk_cell BK101.out 3).trans rfl;have hcz32_4 : w31.cell? ⟨gb101,4,none⟩ = some (.string a0_4):=(blk_cell BK101.out 4).trans rfl;have hfz32_0:=blk_frozen BK101.out 0;have hfz32_1:=blk_frozen BK101.out 1;have hfz32_2:=blk_frozen BK101.out 2;have hfz32_3:=blk_frozen BK101.out 3;have hfz32_4:=blk_frozen BK101.out 4) | (go_at_call 96;(with_reducible refine (Rf07_identifiers.calls kj1 a0_4 true t107 _ A29.out).mono ?_);rintro e w33 ⟨rfl,hb⟩;replace BK101:=Aside0.mk (blk_below bk101_ hb);replace HB:=Aside0.mk (below_step bh_ hb);(try clear hb)))
       go_ret
       exact ⟨q2_,bh_⟩
     ·replace c24:=Bool.eq_false_iff.mpr c24
      subst c24
      rw [if_neg (show ¬ (false = true) by decide)] at H
      obtain rfl:=Option.some.inj H
      have hcz34_0 : wc.cell? ⟨gb101,0,none⟩ = some (.int .i64 a0_0):=(blk_cell BK101.out 0).trans rfl
      have hcz34_1 : wc.cell? ⟨gb101,1,none⟩ = some (.int .i64 a0_1):=(blk_cell BK101.out 1).trans rfl
      have hcz34_2 : wc.cell? ⟨gb101,2,none⟩ = some (.int .i64 a0_2):=(blk_cell BK101.out 2).trans rfl
      have hcz34_3 : wc.cell? ⟨gb101,3,none⟩ = some (.string a0_3):=(blk_cell BK101.out 3).trans rfl
      have hcz34_4 : wc.cell? ⟨gb101,4,none⟩ = some (.string a0_4):=(blk_cell BK101.out 4).trans rfl
      have hfz34_0:=blk_frozen BK101.out 0
      have hfz34_1:=blk_frozen BK101.out 1
      have hfz34_2:=blk_frozen BK101.out 2
      have hfz34_3:=blk_frozen BK101.out 3
      have hfz34_4:=blk_frozen BK101.out 4
      go_wp2_with (first | (go_at_call 96;(with_reducible refine (Rf07_identifiers.calls kj1 a0_3 false false _ A23.out).mono ?_);rintro e w35 ⟨rfl,hb⟩;replace BK101:=Aside0.mk (blk_below bk101_ hb);replace HB:=Aside0.mk (below_step bh_ hb);(try clear hb)))
      go_ret
      exact ⟨q2_,bh_⟩
end Go.Proofs.YtennhpoemdaghaaGreatDoor.P
end
section
namespace Go.Proofs.YtennhpoemdaghaaGreatDoor.P
open Go Go.RowKit Go.Proofs.YtennhpoemdaghaaGreatDoorW.PrintWords
theorem digitB_int (b : UInt8) : digitB b = decide (48 ≤ (b.toNat : Int) ∧ (b.toNat : Int) ≤ 57) :=
 all_bytes (p:=fun b => digitB b = decide (48 ≤ (b.toNat : Int) ∧ (b.toNat : Int) ≤ 57)) q56_ b
theorem wordB_int (b : UInt8) : wordB b = decide ((97 ≤ (b.toNat : Int) ∧ (b.toNat : Int) ≤ 122) ∨ (65 ≤ (b.toNat : Int) ∧ (b.toNat : Int) ≤ 90) ∨ (48 ≤ (b.toNat : Int) ∧ (b.toNat : Int) ≤ 57) ∨ (b.toNat : Int) = 45) :=
 all_bytes (p:=fun b => wordB b = decide ((97 ≤ (b.toNat : Int) ∧ (b.toNat : Int) ≤ 122) ∨ (65 ≤ (b.toNat : Int) ∧ (b.toNat : Int) ≤ 90) ∨ (48 ≤ (b.toNat : Int) ∧ (b.toNat : Int) ≤ 57) ∨ (b.toNat : Int) = 45)) q56_ b
theorem refdigits_f (s : ByteArray) (hs : s.size ≤ 140737488355328) (k : Nat) (hk : s.size < k) : Rf07_digits.f k s = some (digitsB s.data.toList):=by
 unfold Rf07_digits.f
 have h:=scan_gen (fun k i => Rf07_digits.l0 k s i) s digitB (!(s.data.toList == [])) false (fun k i => by
  show Rf07_digits.l0 (k + 1) s (i : Int) = _
  simp only [Rf07_digits.l0]
  by_cases h : i < s.size
  ·rw [if_pos q5_,if_pos q5_,if_pos h,bt_byteAt s i h,wrap_succ i s.size h hs,digitB_int]
   generalize Rf07_digits.l0 k s ((i + 1 : Nat) : Int) = g
   generalize ((byteAt s i).toNat : Int) = n
   simp only [decide_eq_true_eq]
   repeat' split
   all_goals first | rfl | (exfalso;omega)
  ·rw [if_neg q5_,if_neg h,toList_eq];simp [bne]) (s.size - 0) k 0 rfl q5_
 rw [show ((0 : Nat) : Int) = 0 from rfl] at h
 simp only [List.drop_zero] at h
 rw [h]
 unfold digitsB
 cases s.data.toList.all digitB <;> simp
def idB (z : Bool) (l : List UInt8) : Bool:=wordsB l && (z || tightB l)
theorem ids_part (z : Bool) (l : List ByteArray) (i : Nat) (hi : i < l.length) (p : ByteArray) (hp : l[i] = p) (hsz : p.size ≤ 4294967296) (K : Nat) (hK : p.size < K) (R : Bool) (hR : ∀ k,K ≤ k → Rf07_identifiers.l0 k z l (wrap64 ((i : Int) + 1)) = some R) :
  ∀ (d j k : Nat),j ≤ p.size → p.size - j = d → K + d + 1 ≤ k → Rf07_identifiers.l1 k z l (i : Int) (j : Int) = some ((p.data.toList.drop j).all wordB && (!(p.data.toList == []) && (z || tightB p.data.toList)) && R):=by
 have hr : rdOf ByteArray.empty l (i : Int) = p:=by rw [← hp];simp [rdOf,hi]
 have hz : p.data.toList.length = p.size:=rfl
 intro d
 induction d with
 | zero =>
  intro j k hj hd hk
  obtain ⟨k,rfl⟩ : ∃ m,k = m + 1:=⟨k - 1,by omega⟩
  have hj' : j = p.size:=by omega
  rw [Rf07_identifiers.l1,hr,if_pos q5_,if_pos q5_,if_neg q5_,toList_eq,List.drop_eq_nil_of_le q5_]
  by_cases h0 : p.data.toList = []
  ·rw [if_pos h0];simp [h0]
  ·have e0 : (p.data.toList == []) = false:=by simpa using h0
   rw [if_neg h0,e0,hR k q5_]
   cases z with
   | true => simp
   | false =>
    rw [if_neg q30_,refdigits_f p q5_ k q5_,Option.bind_some]
    unfold tightB
    rw [hz]
    cases hd : digitsB p.data.toList with
    | false => simp
    | true =>
     rw [if_pos rfl]
     by_cases h2 : p.size < 2
     ·rw [if_neg q5_];simp [h2]
     ·rw [if_pos q5_,if_pos q5_,decide_eq_false h2]
      have hb:=bt_byteAt p 0 q5_
      rw [show ((0 : Nat) : Int) = 0 from rfl] at hb
      have hh : byteAt p 0 = p.data.toList.headD 0:=by
       unfold byteAt
       cases p.data.toList <;> rfl
      rw [hb,hh]
      generalize p.data.toList.headD 0 = hd0
      by_cases h48 : hd0 = 48
      ·rw [if_pos (by rw [h48];rfl)];simp [h48]
      ·have hne : ¬ ((hd0.toNat : Int) = 48):=fun e => h48 (UInt8.toNat_inj.1 (by rw [show (48 : UInt8).toNat = 48 from rfl];omega))
       rw [if_neg hne]
       have e48 : (hd0 == 48) = false:=by simpa using h48
       simp [e48]
 | succ d ih =>
  intro j k hj hd hk
  obtain ⟨k,rfl⟩ : ∃ m,k = m + 1:=⟨k - 1,by omega⟩
  have hj' : j < p.size:=by omega
  have hb : p.data.toList[j]'q5_ = byteAt p j:=by simp [byteAt,hz,hj']
  have hw : wrap64 ((j : Int) + 1) = ((j + 1 : Nat) : Int):=by unfold wrap64;omega
  rw [Rf07_identifiers.l1,hr,if_pos q5_,if_pos q5_,if_pos q5_,if_pos q5_,bt_byteAt p j hj',hw]
  rw [ih (j + 1) k q5_ q5_ q5_]
  rw [List.drop_eq_getElem_cons (show j < p.data.toList.length by omega),hb,List.all_cons,wordB_int]
  generalize (p.data.toList.drop (j + 1)).all wordB = g
  generalize (!(p.data.toList == []) && (z || tightB p.data.toList)) = q
  generalize ((byteAt p j).toNat : Int) = n
  by_cases hn : ((97 ≤ n ∧ n ≤ 122) ∨ (65 ≤ n ∧ n ≤ 90) ∨ (48 ≤ n ∧ n ≤ 57) ∨ n = 45)
  ·rw [decide_eq_true hn,Bool.true_and]
   repeat' split
   all_goals first | rfl | (exfalso;omega)
  ·rw [decide_eq_false hn,Bool.false_and,Bool.false_and]
   repeat' split
   all_goals first | rfl | (exfalso;omega)
theorem ids_gen (z : Bool) (l : List ByteArray) (M : Nat) (hM : ∀ p ∈ l,p.size ≤ M) (hM2 : M ≤ 4294967296) (hl : l.length ≤ 4294967296) : ∀ (d i k : Nat),i ≤ l.length → l.length - i = d → (d + 1) * (M + 3) ≤ k → Rf07_identifiers.l0 k z l (i : Int) = some ((l.drop i).all fun p => idB z p.data.toList):=by
 intro d
 induction d with
 | zero =>
  intro i k hi hd hk
  obtain ⟨k,rfl⟩ : ∃ m,k = m + 1:=⟨k - 1,by omega⟩
  rw [Rf07_identifiers.l0,if_neg q5_,List.drop_eq_nil_of_le q5_]
  rfl
 | succ d ih =>
  intro i k hi hd hk
  have hk2 : (d + 1) * (M + 3) + (M + 3) ≤ k:=by rw [Nat.succ_mul] at hk;exact hk
  obtain ⟨k,rfl⟩ : ∃ m,k = m + 1:=⟨k - 1,by omega⟩
  have h : i < l.length:=by omega
  have hw : wrap64 ((i : Int) + 1) = ((i + 1 : Nat) : Int):=by unfold wrap64;omega
  have hsz:=hM _ (List.getElem_mem h)
  have hkm : M < (d + 1) * (M + 3):=by
   have : 1 * (M + 3) ≤ (d + 1) * (M + 3):=Nat.mul_le_mul_right _ q5_
   omega
  have hp:=ids_part z l i h l[i] rfl q5_ ((d + 1) * (M + 3)) q5_ ((l.drop (i + 1)).all fun p => idB z p.data.toList) (fun k' hk' => by rw [hw];exact ih (i + 1) k' q5_ q5_ hk') (l[i].size) 0 k (Nat.zero_le _) rfl q5_
  rw [show ((0 : Nat) : Int) = 0 from rfl,List.drop_zero] at hp
  rw [Rf07_identifiers.l0,if_pos q5_,hp,List.drop_eq_getElem_cons h,List.all_cons]
  unfold idB wordsB
  simp only [Bool.and_assoc]
theorem ids_f (s : ByteArray) (z : Bool) (hs : s.size ≤ 30) (k : Nat) (hk : 1100 < k) : Rf07_identifiers.f k s z = some ((splitL 46 s.data.toList).all (idB z)):=by
 unfold Rf07_identifiers.f
 have hsp:=refSplit_f s 46 q5_ k q5_
 rw [show ((46 : UInt8).toNat : Int) = 46 from rfl] at hsp
 have hlen : (splitS 46 s).length ≤ s.size + 1:=by unfold splitS;rw [List.length_map];exact splitL_length _ _
 have hsz : ∀ p ∈ splitS 46 s,p.size ≤ 30:=fun p hp => Nat.le_trans (splitS_size 46 s p hp) hs
 have hb : ((splitS 46 s).length + 1) * (30 + 3) ≤ k:=by
  have : ((splitS 46 s).length + 1) * (30 + 3) ≤ 32 * 33:=Nat.mul_le_mul_right _ q5_
  omega
 have hg:=ids_gen z (splitS 46 s) 30 hsz q5_ q5_ (splitS 46 s).length 0 k (Nat.zero_le _) rfl hb
 rw [show ((0 : Nat) : Int) = 0 from rfl,List.drop_zero] at hg
 rw [hsp,Option.bind_some,hg]
 unfold splitS
 rw [List.all_map]
 rfl
theorem refVer_f (a b c : Int) (p q : ByteArray) (k : Nat) (hk : 1200 < k) : Rf07_Check.f k a b c p q = some (verB a b c p.data.toList q.data.toList):=by
 have hzp : p.data.toList.length = p.size:=rfl
 have hzq : q.data.toList.length = q.size:=rfl
 have hnum : ∀ n : Int,Rf07_num.f n = some (numB n):=fun n => by
  unfold Rf07_num.f numB
  by_cases h : 0 ≤ n
  ·rw [if_pos h,decide_eq_true h];rfl
  ·rw [if_neg h,decide_eq_false h];rfl
 have hj1 : ∀ k,1150 < k → Rf07_Check.j0 k true a b c p q = some false:=fun k hk => by
  obtain ⟨k,rfl⟩ : ∃ m,k = m + 1:=⟨k - 1,by omega⟩
  rw [Rf07_Check.j0,if_pos rfl]
 unfold Rf07_Check.f verB
 rw [hnum a,Option.bind_some,hnum b,hnum c,hzp,hzq]
 cases numB a with
 | false => rw [if_neg q30_,hj1 k q5_];rfl
 | true =>
 rw [if_pos rfl,Option.bind_some]
 cases numB b with
 | false => rw [if_neg q30_,hj1 k q5_];rfl
 | true =>
 rw [if_pos rfl,Option.bind_some]
 cases numB c with
 | false => rw [if_neg q30_,hj1 k q5_];rfl
 | true =>
 rw [if_pos rfl]
 by_cases hp : p.size ≤ 30
 ·rw [if_neg q5_,decide_eq_true hp]
  by_cases hq : q.size ≤ 30
  ·have e : decide ((q.size : Int) > 30) = false:=decide_eq_false q5_
   rw [e,decide_eq_true hq]
   obtain ⟨k,rfl⟩ : ∃ m,k = m + 1:=⟨k - 1,by omega⟩
   rw [Rf07_Check.j0,if_neg q30_,toList_eq,toList_eq,ids_f q true hq k q5_,ids_f p false hp k q5_]
   have e1 : (splitL 46 q.data.toList).all (idB true) = identsB q.data.toList:=by
    unfold identsB
    exact congrArg (fun f => (splitL 46 q.data.toList).all f) (funext fun l => by simp [idB])
   have e2 : (splitL 46 p.data.toList).all (idB false) = preB p.data.toList:=by
    unfold preB
    exact congrArg (fun f => (splitL 46 p.data.toList).all f) (funext fun l => by simp [idB])
   rw [e1,e2]
   by_cases h0 : p.data.toList = []
   ·by_cases h1 : q.data.toList = []
    ·simp [h0,h1]
    ·have e4 : (q.data.toList == []) = false:=by simpa using h1
     rw [if_pos h0,if_neg h1,e4,h0]
     simp
   ·have e3 : (p.data.toList == []) = false:=by simpa using h0
    rw [if_neg h0,e3]
    cases preB p.data.toList
    ·simp
    ·by_cases h1 : q.data.toList = []
     ·simp [h1]
     ·have e4 : (q.data.toList == []) = false:=by simpa using h1
      simp only [Option.bind_some,if_true,if_neg h1,e4]
      simp
  ·have e : decide ((q.size : Int) > 30) = true:=decide_eq_true q5_
   rw [e,hj1 k q5_,decide_eq_false hq]
   simp
 ·rw [if_pos q5_,hj1 k q5_,decide_eq_false hp]
  simp
end Go.Proofs.YtennhpoemdaghaaGreatDoor.P
end
section
namespace Go.Proofs.YtennhpoemdaghaaGreatDoor.P
open Go
def valFrom (acc : Nat) (l : List UInt8) : Nat:=l.foldl (fun a c => a * 10 + (c.toNat - 48)) acc
def valL (l : List UInt8) : Nat:=valFrom 0 l
theorem digitB_iff (b : UInt8) : digitB b = true ↔ 48 ≤ b.toNat ∧ b.toNat ≤ 57:=by
  unfold digitB
  rw [Bool.and_eq_true,decide_eq_true_iff,decide_eq_true_iff,UInt8.le_iff_toNat_le,UInt8.le_iff_toNat_le]
  exact Iff.rfl
theorem valFrom_cons (acc : Nat) (c : UInt8) (r : List UInt8) : valFrom acc (c :: r) = valFrom (acc * 10 + (c.toNat - 48)) r:=by simp only [valFrom,List.foldl_cons]
theorem valFrom_nil (acc : Nat) : valFrom acc [] = acc:=by simp only [valFrom,List.foldl_nil]
theorem valFrom_ge (l : List UInt8) : ∀ acc : Nat,acc ≤ valFrom acc l:=by
  induction l with
  | nil => intro acc;rw [valFrom_nil];exact Nat.le_refl _
  | cons c r ih =>
    intro acc
    rw [valFrom_cons]
    have:=ih (acc * 10 + (c.toNat - 48))
    omega
theorem valFrom_append (l m : List UInt8) (acc : Nat) : valFrom acc (l ++ m) = valFrom (valFrom acc l) m:=List.foldl_append
theorem valL_snoc (l : List UInt8) (c : UInt8) : valL (l ++ [c]) = valL l * 10 + (c.toNat - 48):=by
  unfold valL;rw [valFrom_append];rfl
theorem parseUint10_digits : ∀ (l : List UInt8) (acc : Nat),l.all digitB = true → acc < 18446744073709551616 →
    Lib.parseUint10 acc l = if valFrom acc l < 18446744073709551616 then .ok (valFrom acc l) else .range
  | [],acc,_,ha => by rw [valFrom_nil,if_pos ha];rfl
  | c :: r,acc,h,ha => by
    rw [List.all_cons,Bool.and_eq_true] at h
    have hd:=(digitB_iff c).1 h.1
    rw [valFrom_cons,Lib.parseUint10]
    have hge:=valFrom_ge r (acc * 10 + (c.toNat - 48))
    rw [if_pos hd]
    split
    · exact (if_neg q5_).symm
    · split
      · exact (if_neg q5_).symm
      · exact parseUint10_digits r _ h.2 q5_
theorem atoiAll_digits (l : List UInt8) (h : l.all digitB = true) (hne : l ≠ []) :
    Lib.atoiAll l = if valL l < 9223372036854775808 then .ok (valL l : Int) else .range:=by
  match l,hne with
  | c :: r,_ =>
    have hd:=(digitB_iff c).1 (by rw [List.all_cons,Bool.and_eq_true] at h;exact h.1)
    rw [Lib.atoiAll_plain c r q5_ q5_]
    unfold Lib.parseMag
    rw [if_neg q25_,parseUint10_digits _ 0 h q5_]
    show _ = if valFrom 0 (c :: r) < _ then Lib.NumEnd.ok (valFrom 0 (c :: r) : Int) else _
    by_cases h1 : valFrom 0 (c :: r) < 18446744073709551616
    · rw [if_pos h1]
      unfold Lib.signless
      by_cases h2 : valFrom 0 (c :: r) < 9223372036854775808
      · simp [h2]
      · simp [h2]
    · rw [if_neg h1,if_neg q5_]
      rfl
theorem decDigits_valL : ∀ (n : Nat) (l : List UInt8),l.length = n → l.all digitB = true → l ≠ [] → l.headD 0 ≠ 48 → Lib.decDigits (valL l) = l ∧ 1 ≤ valL l:=by
  intro n
  induction n with
  | zero => intro l hl _ hne;exact absurd (List.eq_nil_of_length_eq_zero hl) hne
  | succ n ih =>
    intro l hl hd hne hh
    obtain ⟨r,c,rfl⟩ : ∃ r c,l = r ++ [c]:=⟨l.dropLast,l.getLast hne,(List.dropLast_concat_getLast hne).symm⟩
    rw [List.all_append,Bool.and_eq_true] at hd
    have hc:=(digitB_iff c).1 (by simpa using hd.2)
    rw [valL_snoc]
    have hch : UInt8.ofNat (48 + (c.toNat - 48)) = c:=by
      rw [show 48 + (c.toNat - 48) = c.toNat by omega];simp
    by_cases hr : r = []
    · subst hr
      have h48 : c.toNat ≠ 48:=fun e => hh (by simp;exact UInt8.toNat_inj.1 (by rw [e];rfl))
      have e : valL [] * 10 + (c.toNat - 48) = c.toNat - 48:=by rw [valL,valFrom_nil];omega
      rw [e,Lib.decDigits_one q5_,hch]
      exact ⟨rfl,by omega⟩
    · have hh' : r.headD 0 ≠ 48:=by
        match r,hr with
        | x :: t,_ => simpa using hh
      obtain ⟨h1,h2⟩:=ih r (by simp at hl;exact hl) hd.1 hr hh'
      rw [Lib.decDigits,dif_neg q5_,show (valL r * 10 + (c.toNat - 48)) / 10 = valL r by omega,show (valL r * 10 + (c.toNat - 48)) % 10 = c.toNat - 48 by omega,h1,hch]
      exact ⟨rfl,by omega⟩
theorem decDigits_head (n : Nat) : ∀ u : Nat,u ≤ n → 1 ≤ u → Lib.decDigits u ≠ [] ∧ (Lib.decDigits u).headD 0 ≠ 48:=by
  induction n with
  | zero => intro u h1 h2;omega
  | succ n ih =>
    intro u h1 h2
    by_cases hs : u < 10
    · rw [Lib.decDigits_one hs]
      refine ⟨by simp,?_⟩
      have : ∀ i : Fin 10,1 ≤ i.val → UInt8.ofNat (48 + i.val) ≠ 48:=by decide
      simpa using this ⟨u,hs⟩ h2
    · obtain ⟨h3,h4⟩:=ih (u / 10) q5_ q5_
      rw [Lib.decDigits,dif_neg hs]
      refine ⟨by simp,?_⟩
      match hd : Lib.decDigits (u / 10),h3 with
      | x :: t,_ => rw [hd] at h4;simpa using h4
theorem itoa_digits (l : List UInt8) (h : l.all digitB = true) (hne : l ≠ []) (h1 : 1 ≤ valL l) : Lib.itoa (valL l : Int) = l ↔ l.headD 0 ≠ 48:=by
  have e : Lib.itoa (valL l : Int) = Lib.decDigits (valL l):=by
    unfold Lib.itoa;rw [if_neg q5_];simp
  rw [e]
  constructor
  · intro h2
    have:=(decDigits_head (valL l) (valL l) (Nat.le_refl _) h1).2
    rwa [h2] at this
  · intro h2
    exact (decDigits_valL _ l rfl h hne h2).1
def tenDigits : List UInt8:=[48,49,50,51,52,53,54,55,56,57]
theorem tenDigits_contains (b : UInt8) : tenDigits.contains b = digitB b :=
  all_bytes (p:=fun b => tenDigits.contains b = digitB b) q56_ b
theorem trimS_digits (l : List UInt8) : Lib.trimS l tenDigits = [] ↔ l.all digitB = true:=by
  have hf : (fun x => tenDigits.contains x) = digitB:=funext tenDigits_contains
  unfold Lib.trimS Lib.trimLeftS Lib.trimRightS
  rw [hf]
  constructor
  · intro h
    rw [List.all_eq_true]
    have key : ∀ m : List UInt8,m.dropWhile digitB = [] → ∀ x ∈ m,digitB x = true:=by
      intro m
      induction m with
      | nil => intro _ x hx;cases hx
      | cons a t ih =>
        intro hm x hx
        rw [List.dropWhile_cons] at hm
        split at hm
        · rename_i ha
          rcases List.mem_cons.1 hx with rfl | hx
          · exact ha
          · exact ih hm x hx
        · cases hm
    have h2:=key _ h
    intro x hx
    by_cases hx2 : x ∈ l.reverse.dropWhile digitB
    · exact h2 x (by simpa using hx2)
    · have h3 : x ∈ l.reverse:=by simpa using hx
      rw [← List.takeWhile_append_dropWhile (p:=digitB) (l:=l.reverse)] at h3
      rcases List.mem_append.1 h3 with h4 | h4
      · have:=List.all_takeWhile (p:=digitB) (l:=l.reverse)
        rw [List.all_eq_true] at this
        exact this x h4
      · exact absurd h4 hx2
  · intro h
    rw [List.all_eq_true] at h
    have e : l.reverse.dropWhile digitB = []:=by
      have key : ∀ m : List UInt8,(∀ x ∈ m,digitB x = true) → m.dropWhile digitB = []:=by
        intro m
        induction m with
        | nil => intro _;rfl
        | cons a t ih => intro hm;rw [List.dropWhile_cons,if_pos (hm a q25_)];exact ih (fun x hx => hm x (by simp [hx]))
      exact key _ (fun x hx => h x (by simpa using hx))
    rw [e];rfl
def majorB (l : List UInt8) : Int × Bool :=
  if l.headD 0 == 118 then
    (if l.tail == [] || !(l.tail.all digitB) then (0,false)
     else if l.tail.headD 0 == 48 || decide (valL l.tail < 2) || decide (999999999 < valL l.tail) then (0,true)
     else ((valL l.tail : Int),true))
  else (0,false)
end Go.Proofs.YtennhpoemdaghaaGreatDoor.P
end
section
namespace Go.Proofs.YtennhpoemdaghaaGreatDoor.P
open Go Go.RowKit
structure Env (w : World) : Prop where
 maxlen : ∃ m,w.cell? ⟨0,0,none⟩ = some (.int .i64 m)
 syn : ∃ ev,w.cell? ⟨1,0,none⟩ = some ev ∧ (ev = .nilIface ∨ ∃ te pe,ev = .iface te pe)
 rng : ∃ ev,w.cell? ⟨2,0,none⟩ = some ev ∧ (ev = .nilIface ∨ ∃ te pe,ev = .iface te pe)
 tab : Lib.TabIs Tryz.prog w "internal/strconv.uint64pow10" .u64 Lib.pow10Tab
 low : 5 < w.heap.size
theorem Env.below {w w1 : World} (h : Env w) (hb : Below w.heap.size w w1) : Env w1:=by
 obtain ⟨⟨m,hm⟩,⟨s,hs,hs'⟩,⟨r,hr,hr'⟩,ht,hl⟩:=h
 refine ⟨⟨m,?_⟩,⟨s,?_,hs'⟩,⟨r,?_,hr'⟩,?_,Nat.lt_of_lt_of_le hl hb.size⟩
 ·exact (hb.cell (Lib.lt_of_cell hm)).trans hm
 ·exact (hb.cell (Lib.lt_of_cell hs)).trans hs
 ·exact (hb.cell (Lib.lt_of_cell hr)).trans hr
 ·exact var?_below hb (g:=5) q9_ hl ht
end Go.Proofs.YtennhpoemdaghaaGreatDoor.P
end
section
namespace Go.Proofs.YtennhpoemdaghaaGreatDoor.P
open Go Go.RowKit Go.Proofs.YtennhpoemdaghaaGreatDoorW.PrintWords
def mpath_major.f (a0 : ByteArray) : Option (Int × Bool):=if a0.size ≤ 140737488351232 then some (majorB a0.data.toList) else none
theorem prefix_v (l : List UInt8) : Lib.hasPrefix l [118] = (l.headD 0 == 118):=by
 cases l with
 | nil => rfl
 | cons c r => simp only [Lib.hasPrefix,List.isPrefixOf,List.headD_cons,Bool.and_true];exact BEq.comm
set_option maxRecDepth 100000 in
set_option maxHeartbeats 2000000 in
theorem major_no (s : ByteArray) (w : World) (h : Lib.hasPrefix s.data.toList [118] = false) : Calls Tryz.prog 105 #[.string s] w fun e w' => e = .returned (.tuple #[.int .i64 0,.bool false]) ∧ Below w.heap.size w w':=by
 have H:=Lib.hid h
 clear h
 go_enter Tryz.func105,Tryz.ntmps105
 go_wp2_with (go_at_call 111;refine (Tryz.strings_CutPrefix _ _ _).mono ?_;rintro e w' ⟨rfl,rfl⟩;rw [show Lib.hasPrefix s.data.toList (⟨#[118]⟩ : ByteArray).data.toList = false from H.out])
 go_ret2
 exact ⟨rfl,Below.refl _ _⟩
set_option maxRecDepth 100000 in
set_option maxHeartbeats 2000000 in
theorem major_empty (s : ByteArray) (w : World) (h : Lib.hasPrefix s.data.toList [118] = true) (h2 : (⟨(Lib.trimPrefix s.data.toList [118]).toArray⟩ : ByteArray) = ⟨#[]⟩) : Calls Tryz.prog 105 #[.string s] w fun e w' => e = .returned (.tuple #[.int .i64 0,.bool false]) ∧ Below w.heap.size w w':=by
 have H:=Lib.hid h
 have H2:=Lib.hid h2
 clear h h2
 go_enter Tryz.func105,Tryz.ntmps105
 go_wp2_with (go_at_call 111;refine (Tryz.strings_CutPrefix _ _ _).mono ?_;rintro e w' ⟨rfl,rfl⟩;rw [show Lib.hasPrefix s.data.toList (⟨#[118]⟩ : ByteArray).data.toList = true from H.out,show (⟨(Lib.trimPrefix s.data.toList (⟨#[118]⟩ : ByteArray).data.toList).toArray⟩ : ByteArray) = ⟨#[]⟩ from H2.out])
 go_ret2
 exact ⟨rfl,Below.refl _ _⟩
theorem trim_calls (t : ByteArray) (w : World) (ht : t.size ≤ 9223372036854775807) : Calls Tryz.prog 143 #[.string t,.string ⟨#[48,49,50,51,52,53,54,55,56,57]⟩] w fun e w' => e = .returned (.string ⟨(Lib.trimS t.data.toList tenDigits).toArray⟩) ∧ Below w.heap.size w w' :=
 Any.strings_Trim_laid Tryz.lays160 q9_ t ⟨#[48,49,50,51,52,53,54,55,56,57]⟩ w ht q30_ (Go.Proofs.ascii_of_all q30_)
set_option maxRecDepth 100000 in
set_option maxHeartbeats 2000000 in
theorem major_odd (s t : ByteArray) (w : World) (h : Lib.hasPrefix s.data.toList [118] = true) (h2 : (⟨(Lib.trimPrefix s.data.toList [118]).toArray⟩ : ByteArray) = t) (ht : t.size ≤ 140737488351232) (h3 : t.toList.isEmpty = false) (u : ByteArray) (h4 : (⟨(Lib.trimS t.data.toList tenDigits).toArray⟩ : ByteArray) = u) (h5 : u.toList.isEmpty = false) : Calls Tryz.prog 105 #[.string s] w fun e w' => e = .returned (.tuple #[.int .i64 0,.bool false]) ∧ Below w.heap.size w w':=by
 have H:=Lib.hid h
 have H2:=Lib.hid h2
 have H4:=Lib.hid h4
 have ht' : t.size ≤ 9223372036854775807:=by omega
 clear h h2 h4
 go_enter Tryz.func105,Tryz.ntmps105
 go_wp2_with (first
  | (go_at_call 111;refine (Tryz.strings_CutPrefix _ _ _).mono ?_;rintro e w' ⟨rfl,rfl⟩;rw [show Lib.hasPrefix s.data.toList (⟨#[118]⟩ : ByteArray).data.toList = true from H.out,show (⟨(Lib.trimPrefix s.data.toList (⟨#[118]⟩ : ByteArray).data.toList).toArray⟩ : ByteArray) = t from H2.out])
  | (go_at_call 143;refine (trim_calls _ _ ht').mono ?_;rintro e w1 ⟨rfl,hb⟩;rw [H4.out]))
 go_ret2
 exact ⟨rfl,hb⟩
set_option maxRecDepth 100000 in
set_option maxHeartbeats 2000000 in
theorem major_range (s t : ByteArray) (w : World) (hG : Env w) (h : Lib.hasPrefix s.data.toList [118] = true) (h2 : (⟨(Lib.trimPrefix s.data.toList [118]).toArray⟩ : ByteArray) = t) (ht : t.size ≤ 140737488351232) (h3 : t.toList.isEmpty = false) (h4 : (⟨(Lib.trimS t.data.toList tenDigits).toArray⟩ : ByteArray) = ⟨#[]⟩) (h5 : Lib.atoiAll t.data.toList = .range) : Calls Tryz.prog 105 #[.string s] w fun e w' => e = .returned (.tuple #[.int .i64 0,.bool true]) ∧ Below w.heap.size w w':=by
 have H:=Lib.hid h
 have H2:=Lib.hid h2
 have H4:=Lib.hid h4
 have ht' : t.size ≤ 9223372036854775807:=by omega
 have HG:=Lib.hid hG
 have HA:=Lib.hid h5
 have hlim : t.size ≤ 281474976710656:=by omega
 clear h h2 h4 h5 hG
 go_enter Tryz.func105,Tryz.ntmps105
 go_wp2_with (first
  | (go_at_call 111;refine (Tryz.strings_CutPrefix _ _ _).mono ?_;rintro e w' ⟨rfl,rfl⟩;rw [show Lib.hasPrefix s.data.toList (⟨#[118]⟩ : ByteArray).data.toList = true from H.out,show (⟨(Lib.trimPrefix s.data.toList (⟨#[118]⟩ : ByteArray).data.toList).toArray⟩ : ByteArray) = t from H2.out])
  | (go_at_call 143;refine (trim_calls _ _ ht').mono ?_;rintro e w1 ⟨rfl,hb⟩;rw [H4.out])
  | (go_at_call 139;obtain ⟨ev,hv,hev⟩:=(Env.below HG.out hb).rng;refine (Tryz.strconv_Atoi_range _ hlim HA.out ev _ hv hev).mono ?_;clear hv hev;rintro e w2 ⟨Nn,rfl,hN,hcl,hb2⟩))
 go_ret2
 exact ⟨rfl,hb.trans (hb2.mono hb.size)⟩
set_option maxRecDepth 100000 in
set_option maxHeartbeats 2000000 in
theorem major_low (s t : ByteArray) (w : World) (hG : Env w) (h : Lib.hasPrefix s.data.toList [118] = true) (h2 : (⟨(Lib.trimPrefix s.data.toList [118]).toArray⟩ : ByteArray) = t) (ht : t.size ≤ 140737488351232) (h3 : t.toList.isEmpty = false) (h4 : (⟨(Lib.trimS t.data.toList tenDigits).toArray⟩ : ByteArray) = ⟨#[]⟩) (v : Int) (h5 : Lib.atoiAll t.data.toList = .ok v) (hl : v < 2) : Calls Tryz.prog 105 #[.string s] w fun e w' => e = .returned (.tuple #[.int .i64 0,.bool true]) ∧ Below w.heap.size w w':=by
 have H:=Lib.hid h
 have H2:=Lib.hid h2
 have H4:=Lib.hid h4
 have ht' : t.size ≤ 9223372036854775807:=by omega
 have HG:=Lib.hid hG
 have HA:=Lib.hid h5
 have hlim : t.size ≤ 9223372036854775806:=by omega
 have hvb:=Lib.atoiAll_bounds h5
 obtain ⟨hv0,hv1⟩:=hvb
 clear h h2 h4 h5 hG
 go_enter Tryz.func105,Tryz.ntmps105
 go_wp2_with (first
  | (go_at_call 111;refine (Tryz.strings_CutPrefix _ _ _).mono ?_;rintro e w' ⟨rfl,rfl⟩;rw [show Lib.hasPrefix s.data.toList (⟨#[118]⟩ : ByteArray).data.toList = true from H.out,show (⟨(Lib.trimPrefix s.data.toList (⟨#[118]⟩ : ByteArray).data.toList).toArray⟩ : ByteArray) = t from H2.out])
  | (go_at_call 143;refine (trim_calls _ _ ht').mono ?_;rintro e w1 ⟨rfl,hb⟩;rw [H4.out])
  | (go_at_call 139;refine (Tryz.strconv_Atoi_ok _ hlim v HA.out _).mono ?_;rintro e w2 ⟨rfl,hw2⟩;have hb2 : Below w1.heap.size w1 w2:=q47_;clear hw2))
 go_ret2
 exact ⟨rfl,hb.trans (hb2.mono hb.size)⟩
set_option maxRecDepth 100000 in
set_option maxHeartbeats 2000000 in
theorem major_high (s t : ByteArray) (w : World) (hG : Env w) (h : Lib.hasPrefix s.data.toList [118] = true) (h2 : (⟨(Lib.trimPrefix s.data.toList [118]).toArray⟩ : ByteArray) = t) (ht : t.size ≤ 140737488351232) (h3 : t.toList.isEmpty = false) (h4 : (⟨(Lib.trimS t.data.toList tenDigits).toArray⟩ : ByteArray) = ⟨#[]⟩) (v : Int) (h5 : Lib.atoiAll t.data.toList = .ok v) (hl : ¬ v < 2) (hh : 999999999 < v) : Calls Tryz.prog 105 #[.string s] w fun e w' => e = .returned (.tuple #[.int .i64 0,.bool true]) ∧ Below w.heap.size w w':=by
 have H:=Lib.hid h
 have H2:=Lib.hid h2
 have H4:=Lib.hid h4
 have ht' : t.size ≤ 9223372036854775807:=by omega
 have HG:=Lib.hid hG
 have HA:=Lib.hid h5
 have hlim : t.size ≤ 9223372036854775806:=by omega
 have hvb:=Lib.atoiAll_bounds h5
 obtain ⟨hv0,hv1⟩:=hvb
 clear h h2 h4 h5 hG
 go_enter Tryz.func105,Tryz.ntmps105
 go_wp2_with (first
  | (go_at_call 111;refine (Tryz.strings_CutPrefix _ _ _).mono ?_;rintro e w' ⟨rfl,rfl⟩;rw [show Lib.hasPrefix s.data.toList (⟨#[118]⟩ : ByteArray).data.toList = true from H.out,show (⟨(Lib.trimPrefix s.data.toList (⟨#[118]⟩ : ByteArray).data.toList).toArray⟩ : ByteArray) = t from H2.out])
  | (go_at_call 143;refine (trim_calls _ _ ht').mono ?_;rintro e w1 ⟨rfl,hb⟩;rw [H4.out])
  | (go_at_call 139;refine (Tryz.strconv_Atoi_ok _ hlim v HA.out _).mono ?_;rintro e w2 ⟨rfl,hw2⟩;have hb2 : Below w1.heap.size w1 w2:=q47_;clear hw2))
 go_ret2
 exact ⟨rfl,hb.trans (hb2.mono hb.size)⟩
set_option maxRecDepth 100000 in
set_option maxHeartbeats 2000000 in
theorem major_same (s t : ByteArray) (w : World) (hG : Env w) (h : Lib.hasPrefix s.data.toList [118] = true) (h2 : (⟨(Lib.trimPrefix s.data.toList [118]).toArray⟩ : ByteArray) = t) (ht : t.size ≤ 140737488351232) (h3 : t.toList.isEmpty = false) (h4 : (⟨(Lib.trimS t.data.toList tenDigits).toArray⟩ : ByteArray) = ⟨#[]⟩) (v : Int) (h5 : Lib.atoiAll t.data.toList = .ok v) (hl : ¬ v < 2) (hh : ¬ 999999999 < v) (i : ByteArray) (hi : (⟨(Lib.itoa v).toArray⟩ : ByteArray) = i) (hit : (i.toList == t.toList) = true) : Calls Tryz.prog 105 #[.string s] w fun e w' => e = .returned (.tuple #[.int .i64 v,.bool true]) ∧ Below w.heap.size w w':=by
 have H:=Lib.hid h
 have H2:=Lib.hid h2
 have H4:=Lib.hid h4
 have ht' : t.size ≤ 9223372036854775807:=by omega
 have HG:=Lib.hid hG
 have HA:=Lib.hid h5
 have hlim : t.size ≤ 9223372036854775806:=by omega
 have hvb:=Lib.atoiAll_bounds h5
 obtain ⟨hv0,hv1⟩:=hvb
 have HI:=Lib.hid hi
 clear hi
 clear h h2 h4 h5 hG
 go_enter Tryz.func105,Tryz.ntmps105
 go_wp2_with (first
  | (go_at_call 111;refine (Tryz.strings_CutPrefix _ _ _).mono ?_;rintro e w' ⟨rfl,rfl⟩;rw [show Lib.hasPrefix s.data.toList (⟨#[118]⟩ : ByteArray).data.toList = true from H.out,show (⟨(Lib.trimPrefix s.data.toList (⟨#[118]⟩ : ByteArray).data.toList).toArray⟩ : ByteArray) = t from H2.out])
  | (go_at_call 143;refine (trim_calls _ _ ht').mono ?_;rintro e w1 ⟨rfl,hb⟩;rw [H4.out])
  | (go_at_call 139;refine (Tryz.strconv_Atoi_ok _ hlim v HA.out _).mono ?_;rintro e w2 ⟨rfl,hw2⟩;have hb2 : Below w1.heap.size w1 w2:=q47_;clear hw2)
  | (go_at_call 144;refine (Tryz.strconv_Itoa v hv0 hv1 _ (Env.below (Env.below HG.out hb) hb2).tab).mono ?_;rintro e w3 ⟨rfl,hw3⟩;have hb3 : Below w2.heap.size w2 w3:=(by obtain ⟨kk,os,rfl⟩:=hw3;exact Lib.below_grow _ _ (Nat.le_refl _) _ _);clear hw3;rw [HI.out]))
 go_ret2
 exact ⟨rfl,(hb.trans (hb2.mono hb.size)).trans (hb3.mono (Nat.le_trans hb.size hb2.size))⟩
set_option maxRecDepth 100000 in
set_option maxHeartbeats 2000000 in
theorem major_other (s t : ByteArray) (w : World) (hG : Env w) (h : Lib.hasPrefix s.data.toList [118] = true) (h2 : (⟨(Lib.trimPrefix s.data.toList [118]).toArray⟩ : ByteArray) = t) (ht : t.size ≤ 140737488351232) (h3 : t.toList.isEmpty = false) (h4 : (⟨(Lib.trimS t.data.toList tenDigits).toArray⟩ : ByteArray) = ⟨#[]⟩) (v : Int) (h5 : Lib.atoiAll t.data.toList = .ok v) (hl : ¬ v < 2) (hh : ¬ 999999999 < v) (i : ByteArray) (hi : (⟨(Lib.itoa v).toArray⟩ : ByteArray) = i) (hit : (i.toList == t.toList) = false) : Calls Tryz.prog 105 #[.string s] w fun e w' => e = .returned (.tuple #[.int .i64 0,.bool true]) ∧ Below w.heap.size w w':=by
 have H:=Lib.hid h
 have H2:=Lib.hid h2
 have H4:=Lib.hid h4
 have ht' : t.size ≤ 9223372036854775807:=by omega
 have HG:=Lib.hid hG
 have HA:=Lib.hid h5
 have hlim : t.size ≤ 9223372036854775806:=by omega
 have hvb:=Lib.atoiAll_bounds h5
 obtain ⟨hv0,hv1⟩:=hvb
 have HI:=Lib.hid hi
 clear hi
 clear h h2 h4 h5 hG
 go_enter Tryz.func105,Tryz.ntmps105
 go_wp2_with (first
  | (go_at_call 111;refine (Tryz.strings_CutPrefix _ _ _).mono ?_;rintro e w' ⟨rfl,rfl⟩;rw [show Lib.hasPrefix s.data.toList (⟨#[118]⟩ : ByteArray).data.toList = true from H.out,show (⟨(Lib.trimPrefix s.data.toList (⟨#[118]⟩ : ByteArray).data.toList).toArray⟩ : ByteArray) = t from H2.out])
  | (go_at_call 143;refine (trim_calls _ _ ht').mono ?_;rintro e w1 ⟨rfl,hb⟩;rw [H4.out])
  | (go_at_call 139;refine (Tryz.strconv_Atoi_ok _ hlim v HA.out _).mono ?_;rintro e w2 ⟨rfl,hw2⟩;have hb2 : Below w1.heap.size w1 w2:=q47_;clear hw2)
  | (go_at_call 144;refine (Tryz.strconv_Itoa v hv0 hv1 _ (Env.below (Env.below HG.out hb) hb2).tab).mono ?_;rintro e w3 ⟨rfl,hw3⟩;have hb3 : Below w2.heap.size w2 w3:=(by obtain ⟨kk,os,rfl⟩:=hw3;exact Lib.below_grow _ _ (Nat.le_refl _) _ _);clear hw3;rw [HI.out]))
 go_ret2
 exact ⟨rfl,(hb.trans (hb2.mono hb.size)).trans (hb3.mono (Nat.le_trans hb.size hb2.size))⟩
theorem mpath_major.calls (a0 : ByteArray) (r1 : Int) (r2 : Bool) (w : World) (h : mpath_major.f a0 = some (r1,r2)) (hG : Env w) :
  Calls Tryz.prog 105 #[.string a0] w fun e w' => e = .returned (.tuple #[.int .i64 r1,.bool r2]) ∧ Below w.heap.size w w':=by
 unfold mpath_major.f at h
 split at h
 ·rename_i hs
  have h0:=Option.some.inj h
  clear h
  obtain ⟨l,hl⟩ : ∃ l,a0.data.toList = l:=⟨_,rfl⟩
  have hll : l.length = a0.size:=by rw [← hl];rfl
  have te : ∀ s : ByteArray,s.toList.isEmpty = (s.data.toList == []):=fun s => by rw [toList_eq];cases s.data.toList <;> rfl
  rw [hl] at h0
  unfold majorB at h0
  cases hp : (l.headD 0 == 118) with
  | false =>
   rw [hp] at h0
   obtain ⟨rfl,rfl⟩:=Prod.mk.inj h0
   exact major_no a0 w (by rw [hl,prefix_v];exact hp)
  | true =>
   rw [hp,if_pos rfl] at h0
   have hh : Lib.hasPrefix a0.data.toList [118] = true:=by rw [hl,prefix_v];exact hp
   have ht : Lib.trimPrefix a0.data.toList [118] = l.tail:=by
    unfold Lib.trimPrefix
    rw [hh,if_pos rfl,hl]
    simp
   generalize htl : l.tail = r at h0 ht
   have hrl : r.length ≤ 140737488351232:=by rw [← htl,List.length_tail];omega
   have h2 : (⟨(Lib.trimPrefix a0.data.toList [118]).toArray⟩ : ByteArray) = bytesB r:=by rw [ht];rfl
   have hd : (bytesB r).data.toList = r:=rfl
   have hsz : (bytesB r).size = r.length:=rfl
   cases he : (r == []) with
   | true =>
    rw [he,Bool.true_or,if_pos rfl] at h0
    obtain ⟨rfl,rfl⟩:=Prod.mk.inj h0
    have : r = []:=by simpa using he
    subst this
    exact major_empty a0 w hh h2
   | false =>
    have hne : r ≠ []:=by simpa using he
    have h3 : (bytesB r).toList.isEmpty = false:=by rw [te,hd];exact he
    cases hdig : r.all digitB with
    | false =>
     rw [he,hdig,Bool.false_or,Bool.not_false,if_pos rfl] at h0
     obtain ⟨rfl,rfl⟩:=Prod.mk.inj h0
     refine major_odd a0 (bytesB r) w hh h2 q5_ h3 _ rfl ?_
     rw [te]
     show (Lib.trimS r tenDigits == []) = false
     have : Lib.trimS r tenDigits ≠ []:=fun e => by rw [trimS_digits,hdig] at e;cases e
     simpa using this
    | true =>
     rw [he,hdig,Bool.false_or,Bool.not_true,if_neg q25_] at h0
     have h4 : (⟨(Lib.trimS (bytesB r).data.toList tenDigits).toArray⟩ : ByteArray) = ⟨#[]⟩:=by
      rw [hd,(trimS_digits r).2 hdig]
     have hat:=atoiAll_digits r hdig hne
     have hsz' : (bytesB r).size ≤ 140737488351232:=by omega
     by_cases hbig : valL r < 9223372036854775808
     ·rw [if_pos hbig] at hat
      have h5 : Lib.atoiAll (bytesB r).data.toList = .ok (valL r : Int):=hat
      by_cases hlow : valL r < 2
      ·rw [decide_eq_true hlow] at h0
       simp only [Bool.or_true,Bool.true_or,if_true] at h0
       obtain ⟨rfl,rfl⟩:=Prod.mk.inj h0
       exact major_low a0 _ w hG hh h2 hsz' h3 h4 _ h5 q5_
      ·rw [decide_eq_false hlow] at h0
       by_cases hhi : 999999999 < valL r
       ·rw [decide_eq_true hhi] at h0
        simp only [Bool.or_true,if_true] at h0
        obtain ⟨rfl,rfl⟩:=Prod.mk.inj h0
        exact major_high a0 _ w hG hh h2 hsz' h3 h4 _ h5 q5_ q5_
       ·rw [decide_eq_false hhi] at h0
        have hit:=itoa_digits r hdig hne q5_
        have hlist : ∀ m : List UInt8,(⟨m.toArray⟩ : ByteArray).toList = m:=fun m => by rw [toList_eq]
        cases hz : (r.headD 0 == 48) with
        | true =>
         rw [hz] at h0
         simp only [Bool.or_false,if_true] at h0
         obtain ⟨rfl,rfl⟩:=Prod.mk.inj h0
         refine major_other a0 _ w hG hh h2 hsz' h3 h4 _ h5 q5_ q5_ _ rfl ?_
         rw [hlist,toList_eq,hd]
         have : Lib.itoa (valL r : Int) ≠ r:=fun e => (hit.1 e) (by simpa using hz)
         simpa using this
        | false =>
         rw [hz] at h0
         simp only [Bool.or_false,Bool.false_eq_true,if_false] at h0
         obtain ⟨rfl,rfl⟩:=Prod.mk.inj h0
         refine major_same a0 _ w hG hh h2 hsz' h3 h4 _ h5 q5_ q5_ _ rfl ?_
         rw [hlist,toList_eq,hd]
         have : Lib.itoa (valL r : Int) = r:=hit.2 (by simpa using hz)
         simpa using this
     ·rw [if_neg hbig] at hat
      rw [decide_eq_true (show 999999999 < valL r by omega)] at h0
      simp only [Bool.or_true,if_true] at h0
      obtain ⟨rfl,rfl⟩:=Prod.mk.inj h0
      exact major_range a0 _ w hG hh h2 hsz' h3 h4 hat
 ·cases h
end Go.Proofs.YtennhpoemdaghaaGreatDoor.P
end
section
namespace Go.Proofs.YtennhpoemdaghaaGreatDoor.P
open Go.RowKit Go.Proofs.YtennhpoemdaghaaGreatDoorW.PrintWords Go.Proofs.YtennhpoemdaghaaGreatDoorW.PrintLast Go.Proofs.YtennhpoemdaghaaGreatDoorW.PrintMore
def Rf08_tells.l0 : Nat → ByteArray → Int → Option (Bool)
 | 0,_,_ => none
 | k + 1,x0,x3 => if x3 < (x0.size : Int) then (if 0 ≤ x3 then (if (bt x0 x3) < 48 then (some false) else (if (bt x0 x3) > 57 then (some false) else (Rf08_tells.l0 k x0 (wrap64 (x3 + 1))))) else (none)) else (if (x0.size : Int) > 1 then (if 0 < (x0.size : Int) then (some ((bt x0 0) == 118)) else (none)) else (some false))
def Rf08_tells.f (k : Nat) (a0 : ByteArray) : Option (Bool):=Rf08_tells.l0 k a0 1
set_option maxHeartbeats 8000000 in
set_option maxRecDepth 100000 in
theorem Rf08_tells.calls (k : Nat) (a0 : ByteArray) (r : Bool) (w : World) (h : Rf08_tells.f k a0 = some r) :
  Calls Tryz.prog 116 #[.string a0] w fun e w' => e = .returned (.bool r) ∧ Drawn0 w w':=by
 have H : (Rf08_tells.l0 k a0 1) = some r:=h
 clear h
 have H':=Aside0.mk H
 clear H
 go_enter Tryz.func116,Tryz.ntmps116
 go_wp2
 go_loopg [3] k (fun kq v3 w' => ∃ (x3_1 : Int),v3 = .int .i64 x3_1 ∧ Aside0 (Rf08_tells.l0 kq a0 x3_1 = some r) ∧ Aside0 (kq ≤ k) ∧ Drawn0 w w')
 case atStart => exact ⟨(1),q12_,H',⟨Nat.le_refl _⟩,by repeat (first | exact Drawn0.refl _ | apply Drawn0.step)⟩
 case round =>
  clear H'
  try clear c1
  obtain ⟨x3_1,rfl,HA,HK1,⟨m1,rfl⟩⟩:=hrel
  cases gk with
  | zero => exact absurd HA.out (by simp [Rf08_tells.l0])
  | succ k1 =>
   have H:=HA.out
   clear HA
   simp only [Rf08_tells.l0] at H
   by_cases c2 : x3_1 < (a0.size : Int)
   ·rw [if_pos c2] at H
    have c2b0:=decide_eq_true c2
    clear c2
    by_cases c3 : 0 ≤ x3_1
    ·rw [if_pos c3] at H
     have c3b0:=decide_eq_true c3
     clear c3
     by_cases c5 : (bt a0 x3_1) < 48
     ·rw [if_pos c5] at H
      have c5b0:=decide_eq_true c5
      clear c5
      obtain rfl:=Option.some.inj H
      have p4 : 0 ≤ (x3_1 : Int):=of_decide_eq_true q1_
      have q4 : x3_1 < (a0.size : Int):=of_decide_eq_true q1_
      have hx4:=bt_at a0 x3_1
      replace p4:=eq_true p4
      replace q4:=eq_true q4
      go_wp2
      go_ret
      exact ⟨q3_,q4_⟩
     ·rw [if_neg c5] at H
      have c5b0:=decide_eq_false c5
      clear c5
      by_cases c7 : (bt a0 x3_1) > 57
      ·rw [if_pos c7] at H
       have c7b0 : decide (57 < (bt a0 x3_1)) = true:=decide_eq_true c7
       clear c7
       obtain rfl:=Option.some.inj H
       have p4 : 0 ≤ (x3_1 : Int):=of_decide_eq_true q1_
       have q4 : x3_1 < (a0.size : Int):=of_decide_eq_true q1_
       have hx4:=bt_at a0 x3_1
       replace p4:=eq_true p4
       replace q4:=eq_true q4
       have p6 : 0 ≤ (x3_1 : Int):=of_decide_eq_true q1_
       have q6 : x3_1 < (a0.size : Int):=of_decide_eq_true q1_
       have hx6:=bt_at a0 x3_1
       replace p6:=eq_true p6
       replace q6:=eq_true q6
       go_wp2
       go_ret
       exact ⟨q3_,q4_⟩
      ·rw [if_neg c7] at H
       have c7b0 : decide (57 < (bt a0 x3_1)) = false:=decide_eq_false c7
       clear c7
       have H':=Aside0.mk H
       clear H
       have p4 : 0 ≤ (x3_1 : Int):=of_decide_eq_true q1_
       have q4 : x3_1 < (a0.size : Int):=of_decide_eq_true q1_
       have hx4:=bt_at a0 x3_1
       replace p4:=eq_true p4
       replace q4:=eq_true q4
       have p6 : 0 ≤ (x3_1 : Int):=of_decide_eq_true q1_
       have q6 : x3_1 < (a0.size : Int):=of_decide_eq_true q1_
       have hx6:=bt_at a0 x3_1
       replace p6:=eq_true p6
       replace q6:=eq_true q6
       go_wp2
       go_roundg k1
       case measure => have:=HK1.out;omega
       case rel => exact ⟨(wrap64 (x3_1 + 1)),q12_,H',⟨by have:=HK1.out;omega⟩,by repeat (first | exact Drawn0.refl _ | apply Drawn0.step)⟩
    ·rw [if_neg c3] at H
     exact absurd H q25_
   ·rw [if_neg c2] at H
    have c2b0:=decide_eq_false c2
    clear c2
    by_cases c8 : (a0.size : Int) > 1
    ·rw [if_pos c8] at H
     have c8b0 : decide (1 < (a0.size : Int)) = true:=decide_eq_true c8
     have c8b1 : decide (1 < a0.size) = true:=decide_eq_true q5_
     clear c8
     by_cases c9 : 0 < (a0.size : Int)
     ·rw [if_pos c9] at H
      have c9b0:=decide_eq_true c9
      have c9b1 : decide (0 < a0.size) = true:=decide_eq_true q5_
      clear c9
      obtain rfl:=Option.some.inj H
      have p10 : 0 ≤ (0 : Int):=q5_
      have q10 : 0 < a0.size:=(by have : (0 : Int) < (a0.size : Int):=of_decide_eq_true q1_;omega)
      have hx10 : ∀ h : 0 < a0.size,((a0[0]'h).toNat : Int) = bt a0 0:=bt_at a0 0
      clear p10
      have qi10 : (0 < (a0.size : Int)) = True:=eq_true (of_decide_eq_true q1_)
      replace q10:=eq_true q10
      go_wp2
      go_ret
      exact ⟨q3_,q4_⟩
     ·rw [if_neg c9] at H
      exact absurd H q25_
    ·rw [if_neg c8] at H
     have c8b0 : decide (1 < (a0.size : Int)) = false:=decide_eq_false c8
     have c8b1 : decide (1 < a0.size) = false:=decide_eq_false q5_
     clear c8
     obtain rfl:=Option.some.inj H
     go_wp2
     go_ret
     exact ⟨q3_,q4_⟩
end Go.Proofs.YtennhpoemdaghaaGreatDoor.P
end
section
namespace Go.Proofs.YtennhpoemdaghaaGreatDoor.P
open Go.RowKit Go.Proofs.YtennhpoemdaghaaGreatDoorW.PrintWords Go.Proofs.YtennhpoemdaghaaGreatDoorW.PrintLast Go.Proofs.YtennhpoemdaghaaGreatDoorW.PrintMore
mutual
def Rf08_number.j0 : Nat → ByteArray → Int → Bool → Option (Int)
 | 0,_,_,_ => none
 | k + 1,x0,x3,x12 => if x12 = true then (some 0) else (Rf08_number.l0 k x0 x3 1)
def Rf08_number.l0 : Nat → ByteArray → Int → Int → Option (Int)
 | 0,_,_,_ => none
 | k + 1,x0,x3,x4 => if x4 < (x0.size : Int) then (if 0 ≤ x4 then (Rf08_number.l0 k x0 (wrap64 ((wrap64 ((wrap64 (10 * x3)) + (wrap64 (bt x0 x4)))) - 48)) (wrap64 (x4 + 1))) else (none)) else (if x3 < 2 then (some 0) else (some x3))
end
def Rf08_number.f (k : Nat) (a0 : ByteArray) : Option (Int):=if (a0.size : Int) > 10 then (Rf08_number.j0 k a0 0 true) else (if 1 < (a0.size : Int) then (Rf08_number.j0 k a0 0 ((bt a0 1) == 48)) else (none))
set_option maxHeartbeats 8000000 in
set_option maxRecDepth 100000 in
theorem Rf08_number.calls (k : Nat) (a0 : ByteArray) (r : Int) (w : World) (h : Rf08_number.f k a0 = some r) :
  Calls Tryz.prog 117 #[.string a0] w fun e w' => e = .returned (.int .i64 r) ∧ Drawn0 w w':=by
 have H : (if (a0.size : Int) > 10 then (Rf08_number.j0 k a0 0 true) else (if 1 < (a0.size : Int) then (Rf08_number.j0 k a0 0 ((bt a0 1) == 48)) else (none))) = some r:=h
 clear h
 have HC2:=Aside0.mk H
 clear H
 go_enter Tryz.func117,Tryz.ntmps117
 go_upto_region 2 with (fail)
 go_cut [12] (fun v12 wc => ∃ (kq : Nat) (x12_1 : Bool),v12 = .bool x12_1 ∧ Aside0 (Rf08_number.j0 kq a0 0 x12_1 = some r) ∧ Aside0 (kq ≤ k) ∧ Drawn0 w wc)
 case first =>
  have H:=HC2.out
  clear HC2
  by_cases c3 : (a0.size : Int) > 10
  ·rw [if_pos c3] at H
   have c3b0 : decide (10 < (a0.size : Int)) = true:=decide_eq_true c3
   have c3b1 : decide (10 < a0.size) = true:=decide_eq_true q5_
   clear c3
   (first | rw [c3b0] | (simp only [i64_w];rw [c3b0]) | skip)
   have H':=Aside0.mk H
   clear H
   go_wp2
   go_meet
   case rel => exact ⟨_,(true),q12_,H',⟨by first | omega | exact Nat.le_refl _⟩,by repeat (first | exact Drawn0.refl _ | apply Drawn0.step)⟩
  ·rw [if_neg c3] at H
   have c3b0 : decide (10 < (a0.size : Int)) = false:=decide_eq_false c3
   have c3b1 : decide (10 < a0.size) = false:=decide_eq_false q5_
   clear c3
   (first | rw [c3b0] | (simp only [i64_w];rw [c3b0]) | skip)
   by_cases c4 : 1 < (a0.size : Int)
   ·rw [if_pos c4] at H
    have c4b0:=decide_eq_true c4
    have c4b1 : decide (1 < a0.size) = true:=decide_eq_true q5_
    clear c4
    have H':=Aside0.mk H
    clear H
    have p5 : 0 ≤ (1 : Int):=q5_
    have q5 : 1 < a0.size:=(by have : (1 : Int) < (a0.size : Int):=of_decide_eq_true q1_;omega)
    have hx5 : ∀ h : 1 < a0.size,((a0[1]'h).toNat : Int) = bt a0 1:=bt_at a0 1
    clear p5
    have qi5 : (1 < (a0.size : Int)) = True:=eq_true (of_decide_eq_true q1_)
    replace q5:=eq_true q5
    go_wp2
    go_meet
    case rel => exact ⟨_,(((bt a0 1) == 48)),q12_,H',⟨by first | omega | exact Nat.le_refl _⟩,by repeat (first | exact Drawn0.refl _ | apply Drawn0.step)⟩
   ·rw [if_neg c4] at H
    exact absurd H q25_
 case rest =>
  clear HC2
  try clear c1
  try clear p2
  try clear c3
  try clear c3b0
  try clear c3b1
  try clear c4
  try clear c4b0
  try clear c4b1
  try clear p5
  try clear q5
  try clear hx5
  try clear qi5
  try clear p5
  try clear q5
  obtain ⟨kq,x12_1,rfl,HA,HJ1,⟨mc1,rfl⟩⟩:=hcut
  cases kq with
  | zero => exact absurd HA.out (by simp [Rf08_number.j0])
  | succ kj1 =>
   have H:=HA.out
   clear HA
   simp only [Rf08_number.j0] at H
   by_cases c6 : x12_1 = true
   ·subst c6
    rw [if_pos rfl] at H
    obtain rfl:=Option.some.inj H
    go_wp2
    go_ret
    exact ⟨q3_,q4_⟩
   ·replace c6:=Bool.eq_false_iff.mpr c6
    subst c6
    rw [if_neg (show ¬ (false = true) by decide)] at H
    have H':=Aside0.mk H
    clear H
    go_wp2
    go_loopg [3,4] kj1 (fun kq v3 v4 w' => ∃ (x3_2 : Int) (x4_2 : Int),v3 = .int .i64 x3_2 ∧ v4 = .int .i64 x4_2 ∧ Aside0 (Rf08_number.l0 kq a0 x3_2 x4_2 = some r) ∧ Aside0 (kq ≤ kj1) ∧ Drawn0 w w')
    case atStart => exact ⟨(0),(1),q12_,q12_,H',⟨Nat.le_refl _⟩,by repeat (first | exact Drawn0.refl _ | apply Drawn0.step)⟩
    case round =>
     clear H'
     try clear c1
     try clear p2
     try clear c3
     try clear c3b0
     try clear c3b1
     try clear c4
     try clear c4b0
     try clear c4b1
     try clear p5
     try clear q5
     try clear hx5
     try clear qi5
     try clear c6
     try clear p2
     try clear p5
     try clear q5
     obtain ⟨x3_2,x4_2,rfl,rfl,HA,HK2,⟨m2,rfl⟩⟩:=hrel
     cases gk with
     | zero => exact absurd HA.out (by simp [Rf08_number.l0])
     | succ k2 =>
      have H:=HA.out
      clear HA
      simp only [Rf08_number.l0] at H
      by_cases c7 : x4_2 < (a0.size : Int)
      ·rw [if_pos c7] at H
       have c7b0:=decide_eq_true c7
       clear c7
       by_cases c8 : 0 ≤ x4_2
       ·rw [if_pos c8] at H
        have c8b0:=decide_eq_true c8
        clear c8
        have H':=Aside0.mk H
        clear H
        have p9 : 0 ≤ (x4_2 : Int):=of_decide_eq_true q1_
        have q9 : x4_2 < (a0.size : Int):=of_decide_eq_true q1_
        have hx9:=bt_at a0 x4_2
        replace p9:=eq_true p9
        replace q9:=eq_true q9
        go_wp2
        go_roundg k2
        case measure => have:=HJ1.out;have:=HK2.out;omega
        case rel => exact ⟨(wrap64 ((wrap64 ((wrap64 (10 * x3_2)) + (wrap64 (bt a0 x4_2)))) - 48)),(wrap64 (x4_2 + 1)),q12_,q12_,H',⟨by have:=HJ1.out;have:=HK2.out;omega⟩,by repeat (first | exact Drawn0.refl _ | apply Drawn0.step)⟩
       ·rw [if_neg c8] at H
        exact absurd H q25_
      ·rw [if_neg c7] at H
       have c7b0:=decide_eq_false c7
       clear c7
       by_cases c10 : x3_2 < 2
       ·rw [if_pos c10] at H
        have c10b0:=decide_eq_true c10
        clear c10
        obtain rfl:=Option.some.inj H
        go_wp2
        go_ret
        exact ⟨q3_,q4_⟩
       ·rw [if_neg c10] at H
        have c10b0:=decide_eq_false c10
        clear c10
        obtain rfl:=Option.some.inj H
        go_wp2
        go_ret
        exact ⟨q3_,q4_⟩
end Go.Proofs.YtennhpoemdaghaaGreatDoor.P
end
section
namespace Go.Proofs.YtennhpoemdaghaaGreatDoor.P
open Go Go.RowKit Go.Proofs.YtennhpoemdaghaaGreatDoorW.PrintWords
theorem majorB_cons (x : UInt8) (t : List UInt8) : majorB (x :: t) = if x == 118 then (if t == [] || !(t.all digitB) then (0,false) else if t.headD 0 == 48 || decide (valL t < 2) || decide (999999999 < valL t) then (0,true) else ((valL t : Int),true)) else (0,false):=rfl
theorem majorB_two (x : UInt8) (t : List UInt8) : (majorB (x :: t)).2 = ((x == 118) && !(t == []) && t.all digitB):=by
 rw [majorB_cons]
 cases x == 118
 ·rfl
 ·cases t == []
  ·cases t.all digitB
   ·rfl
   ·simp only [if_true,Bool.not_true,Bool.or_false,Bool.false_eq_true,if_false]
    split <;> rfl
  ·rfl
theorem tells_f (s : ByteArray) (hs : s.size ≤ 4294967296) (k : Nat) (hk : s.size < k) : Rf08_tells.f k s = some (majorB s.data.toList).2:=by
 have hz : s.data.toList.length = s.size:=rfl
 unfold Rf08_tells.f
 have h:=scan_gen (fun k i => Rf08_tells.l0 k s i) s digitB (decide (1 < s.size) && (bt s 0 == 118)) false (fun k i => by
  show Rf08_tells.l0 (k + 1) s (i : Int) = _
  simp only [Rf08_tells.l0]
  by_cases h : i < s.size
  ·rw [if_pos q5_,if_pos q5_,if_pos h,bt_byteAt s i h,wrap_succ i s.size h q5_,digitB_int]
   generalize Rf08_tells.l0 k s ((i + 1 : Nat) : Int) = g
   generalize ((byteAt s i).toNat : Int) = n
   simp only [decide_eq_true_eq]
   repeat' split
   all_goals first | rfl | (exfalso;omega)
  ·rw [if_neg q5_,if_neg h]
   by_cases h1 : 1 < s.size
   ·rw [if_pos q5_,if_pos q5_,decide_eq_true h1];rfl
   ·rw [if_neg q5_,decide_eq_false h1];rfl) (s.size - 1) k 1 rfl q5_
 rw [show ((1 : Nat) : Int) = 1 from rfl] at h
 rw [h]
 congr 1
 by_cases h0 : s.size = 0
 ·have hl : s.data.toList = []:=List.eq_nil_of_length_eq_zero q5_
  rw [hl]
  simp [h0,majorB]
 ·have hb:=bt_byteAt s 0 q5_
  rw [show ((0 : Nat) : Int) = 0 from rfl] at hb
  have hh : byteAt s 0 = s.data.toList.headD 0:=by unfold byteAt;cases s.data.toList <;> rfl
  rw [hb,hh]
  have hsz : s.size = s.data.toList.length:=rfl
  rw [hsz]
  cases hl : s.data.toList with
  | nil => rw [hl] at hz;simp at hz;omega
  | cons x t =>
   have e118 : (((x.toNat : Int)) == 118) = (x == 118):=by
    cases hx : x == 118 with
    | true => rw [eq_of_beq hx];rfl
    | false =>
     have hne : ¬ x = 118:=by simpa using hx
     have : ¬ ((x.toNat : Int) = 118):=fun e => hne (UInt8.toNat_inj.1 (by rw [show (118 : UInt8).toNat = 118 from rfl];omega))
     simpa using this
   rw [majorB_two,List.headD_cons,List.drop_succ_cons,List.drop_zero,List.length_cons,e118]
   cases t with
   | nil => cases x == 118 <;> rfl
   | cons y u =>
    have e1 : decide (1 < (y :: u).length + 1) = true:=decide_eq_true (by rw [List.length_cons];omega)
    have e2 : ((y :: u) == ([] : List UInt8)) = false:=rfl
    rw [e1,e2]
    cases (y :: u).all digitB <;> cases x == 118 <;> rfl
theorem valFrom_lt : ∀ (l : List UInt8) (acc : Nat),l.all digitB = true → valFrom acc l < (acc + 1) * 10 ^ l.length
 | [],acc,_ => by rw [valFrom_nil];simp
 | c :: r,acc,h => by
  rw [List.all_cons,Bool.and_eq_true] at h
  have hc:=(digitB_iff c).1 h.1
  have ih:=valFrom_lt r (acc * 10 + (c.toNat - 48)) h.2
  rw [valFrom_cons,List.length_cons,Nat.pow_succ]
  refine Nat.lt_of_lt_of_le ih ?_
  rw [Nat.mul_comm (10 ^ r.length) 10,← Nat.mul_assoc]
  exact Nat.mul_le_mul_right _ q5_
theorem valFrom_low : ∀ (l : List UInt8) (acc : Nat),acc * 10 ^ l.length ≤ valFrom acc l
 | [],acc => by rw [valFrom_nil];simp
 | c :: r,acc => by
  have ih:=valFrom_low r (acc * 10 + (c.toNat - 48))
  rw [valFrom_cons,List.length_cons,Nat.pow_succ,Nat.mul_comm (10 ^ r.length) 10,← Nat.mul_assoc]
  exact Nat.le_trans (Nat.mul_le_mul_right _ q5_) ih
theorem wrap_in (x : Int) (h0 : 0 ≤ x) (h1 : x ≤ 4294967296) : wrap64 x = x:=by unfold wrap64;omega
theorem digit_step (n b : Nat) (hn : n ≤ 99999999) (h1 : 48 ≤ b) (h2 : b ≤ 57) : wrap64 ((wrap64 ((wrap64 (10 * (n : Int))) + (wrap64 (b : Int)))) - 48) = ((n * 10 + (b - 48) : Nat) : Int):=by
 rw [wrap_in (10 * (n : Int)) q5_ q5_,wrap_in (b : Int) q5_ q5_,wrap_in (10 * (n : Int) + (b : Int)) q5_ q5_,wrap_in (10 * (n : Int) + (b : Int) - 48) q5_ q5_]
 omega
theorem num_gen (s : ByteArray) (hs : s.size ≤ 10) : ∀ (d i n k : Nat),1 ≤ i → i ≤ s.size → s.size - i = d → (s.data.toList.drop i).all digitB = true → (n + 1) * 10 ^ d ≤ 1000000000 → d < k →
  Rf08_number.l0 k s (n : Int) (i : Int) = some (if valFrom n (s.data.toList.drop i) < 2 then 0 else (valFrom n (s.data.toList.drop i) : Int)):=by
 have hz : s.data.toList.length = s.size:=rfl
 intro d
 induction d with
 | zero =>
  intro i n k h1 hi hd ha hn hk
  obtain ⟨k,rfl⟩ : ∃ m,k = m + 1:=⟨k - 1,by omega⟩
  rw [Rf08_number.l0,if_neg q5_,List.drop_eq_nil_of_le q5_,valFrom_nil]
  by_cases h : n < 2
  ·rw [if_pos q5_,if_pos h]
  ·rw [if_neg q5_,if_neg h]
 | succ d ih =>
  intro i n k h1 hi hd ha hn hk
  obtain ⟨k,rfl⟩ : ∃ m,k = m + 1:=⟨k - 1,by omega⟩
  have hlt : i < s.size:=by omega
  have hb : s.data.toList[i]'q5_ = byteAt s i:=by simp [byteAt,hz,hlt]
  have hdr : s.data.toList.drop i = byteAt s i :: s.data.toList.drop (i + 1):=by rw [List.drop_eq_getElem_cons (show i < s.data.toList.length by omega),hb]
  rw [hdr,List.all_cons,Bool.and_eq_true] at ha
  have hc:=(digitB_iff (byteAt s i)).1 ha.1
  have hn1 : (n + 1) * 10 ≤ 1000000000:=by
   rw [Nat.pow_succ,Nat.mul_comm (10 ^ d) 10,← Nat.mul_assoc] at hn
   exact Nat.le_trans (Nat.le_mul_of_pos_right _ (Nat.pow_pos q30_)) hn
  have hw : wrap64 ((i : Int) + 1) = ((i + 1 : Nat) : Int):=by unfold wrap64;omega
  have hv:=digit_step n (byteAt s i).toNat (by clear hn ih hdr ha hb hw;omega) hc.1 hc.2
  rw [Rf08_number.l0,if_pos q5_,if_pos q5_,bt_byteAt s i hlt,hv,hw,ih (i + 1) _ k q5_ q5_ q5_ ha.2 ?_ q5_,hdr,valFrom_cons]
  refine Nat.le_trans ?_ hn
  rw [Nat.pow_succ,Nat.mul_comm (10 ^ d) 10,← Nat.mul_assoc]
  exact Nat.mul_le_mul_right _ q5_
theorem number_f (s : ByteArray) (ht : (majorB s.data.toList).2 = true) (k : Nat) (hk : s.size + 3 < k) : Rf08_number.f k s = some (majorB s.data.toList).1:=by
 have hsz : s.size = s.data.toList.length:=rfl
 cases hl : s.data.toList with
 | nil => rw [hl] at ht;exact absurd ht q30_
 | cons x t =>
  rw [hl,majorB_two,Bool.and_eq_true,Bool.and_eq_true] at ht
  obtain ⟨⟨hx,hne⟩,hd⟩:=ht
  cases t with
  | nil => exact absurd hne q30_
  | cons y u =>
   obtain ⟨k,rfl⟩ : ∃ m,k = m + 1:=⟨k - 1,by omega⟩
   rw [hl,List.length_cons,List.length_cons] at hsz
   rw [majorB_cons,if_pos hx,if_neg (by rw [hd];simp)]
   have hb1 : byteAt s 1 = y:=by unfold byteAt;rw [hl];rfl
   have hb:=bt_byteAt s 1 q5_
   rw [hb1,show ((1 : Nat) : Int) = 1 from rfl] at hb
   have hy:=hd
   rw [List.all_cons,Bool.and_eq_true] at hy
   have hyd:=(digitB_iff y).1 hy.1
   unfold Rf08_number.f
   by_cases h10 : s.size > 10
   ·rw [if_pos q5_,Rf08_number.j0,if_pos rfl]
    by_cases h48 : y = 48
    ·rw [if_pos (by simp [h48])]
    ·have hlow:=valFrom_low u (y.toNat - 48)
     have hne48 : ¬ y.toNat = 48:=fun e => h48 (UInt8.toNat_inj.1 e)
     have hp : (10 : Nat) ^ 9 ≤ 10 ^ u.length:=Nat.pow_le_pow_right q5_ q5_
     have hbig : 999999999 < valL (y :: u):=by
      unfold valL
      rw [valFrom_cons,Nat.zero_mul,Nat.zero_add]
      have : 1 * 10 ^ u.length ≤ (y.toNat - 48) * 10 ^ u.length:=Nat.mul_le_mul_right _ q5_
      have h9 : (10 : Nat) ^ 9 = 1000000000:=by decide
      omega
     rw [if_pos (by simp [hbig])]
   ·rw [if_neg q5_,if_pos q5_,hb]
    by_cases h48 : y = 48
    ·rw [if_pos (by simp [h48]),h48,show (((48 : UInt8).toNat : Int) == 48) = true from rfl,Rf08_number.j0,if_pos rfl]
    ·have hne48 : ¬ y.toNat = 48:=fun e => h48 (UInt8.toNat_inj.1 e)
     have e48 : (((y.toNat : Int)) == 48) = false:=by
      have : ¬ ((y.toNat : Int) = 48):=by omega
      simpa using this
     rw [e48,Rf08_number.j0,if_neg q30_]
     have hdrop : s.data.toList.drop 1 = y :: u:=by rw [hl];rfl
     have hpw : (0 + 1) * 10 ^ (s.size - 1) ≤ 1000000000:=by
      have h9 : (10 : Nat) ^ (s.size - 1) ≤ 10 ^ 9:=Nat.pow_le_pow_right q5_ q5_
      have : (10 : Nat) ^ 9 = 1000000000:=by decide
      omega
     have hg:=num_gen s q5_ (s.size - 1) 1 0 k (Nat.le_refl _) q5_ rfl (by rw [hdrop];exact hd) hpw q5_
     rw [hdrop] at hg
     have hlt:=valFrom_lt (y :: u) 0 hd
     have hul : (y :: u).length = s.size - 1:=by rw [List.length_cons];omega
     rw [hul] at hlt
     have hsm : valL (y :: u) < 1000000000:=Nat.lt_of_lt_of_le hlt hpw
     rw [show ((0 : Nat) : Int) = 0 from rfl,show ((1 : Nat) : Int) = 1 from rfl] at hg
     rw [hg]
     have eh : ((y :: u).headD 0 == 48) = false:=by simpa using h48
     have eb : decide (999999999 < valL (y :: u)) = false:=decide_eq_false q5_
     rw [eh,eb]
     by_cases h2 : valL (y :: u) < 2
     ·rw [if_pos (show valFrom 0 (y :: u) < 2 from h2),if_pos (by simp [h2])]
     ·rw [if_neg (show ¬ valFrom 0 (y :: u) < 2 from h2),if_neg q46_]
      rfl
def strings_Compare.f (a0 : ByteArray) (a1 : ByteArray) : Option Int:=some (Lib.compareBytes a0.data.toList a1.data.toList)
theorem strings_Compare.calls (a0 : ByteArray) (a1 : ByteArray) (r : Int) (w : World) (h : strings_Compare.f a0 a1 = some r) :
  Calls Tryz.prog 55 #[.string a0,.string a1] w fun e w' => e = .returned (.int .i64 r) ∧ Drawn0 w w':=by
 obtain rfl:=Option.some.inj h
 refine (Tryz.strings_Compare a0 a1 w).mono ?_
 rintro e w' ⟨rfl,rfl⟩
 exact ⟨rfl,Drawn0.refl _⟩
def strings_LastIndex.f (a0 : ByteArray) (a1 : ByteArray) : Option Int:=if a0.size ≤ 140737488355328 then some (Lib.lastIndex a0.data.toList a1.data.toList) else none
theorem strings_LastIndex.calls (a0 : ByteArray) (a1 : ByteArray) (r : Int) (w : World) (h : strings_LastIndex.f a0 a1 = some r) :
  Calls Tryz.prog 179 #[.string a0,.string a1] w fun e w' => e = .returned (.int .i64 r) ∧ Drawn0 w w':=by
 unfold strings_LastIndex.f at h
 split at h
 ·obtain rfl:=Option.some.inj h
  refine (Tryz.strings_LastIndex a0 a1 q5_ w).mono ?_
  rintro e w' ⟨rfl,rfl⟩
  exact ⟨rfl,Drawn0.refl _⟩
 ·cases h
end Go.Proofs.YtennhpoemdaghaaGreatDoor.P
end
section
namespace Go.Proofs.YtennhpoemdaghaaGreatDoor.P
open Go.RowKit Go.Proofs.YtennhpoemdaghaaGreatDoorW.PrintWords Go.Proofs.YtennhpoemdaghaaGreatDoorW.PrintLast Go.Proofs.YtennhpoemdaghaaGreatDoorW.PrintMore
def mpath_Base.f (a0 : ByteArray) : Option (ByteArray):=(strings_LastIndex.f a0 (⟨#[47]⟩ : ByteArray)).bind fun t101 => (if t101 < 0 then (some (⟨#[]⟩ : ByteArray)) else (if 0 ≤ t101 then (if t101 ≤ (a0.size : Int) then (some (a0.extract 0 (t101 : Int).toNat)) else (none)) else (none)))
set_option maxHeartbeats 8000000 in
set_option maxRecDepth 100000 in
theorem mpath_Base.calls (a0 : ByteArray) (r : ByteArray) (w : World) (h : mpath_Base.f a0 = some r) :
  Calls Tryz.prog 147 #[.string a0] w fun e w' => e = .returned (.string r) ∧ Drawn0 w w':=by
 have H : ((strings_LastIndex.f a0 (⟨#[47]⟩ : ByteArray)).bind fun t101 => (if t101 < 0 then (some (⟨#[]⟩ : ByteArray)) else (if 0 ≤ t101 then (if t101 ≤ (a0.size : Int) then (some (a0.extract 0 (t101 : Int).toNat)) else (none)) else (none)))) = some r:=h
 clear h
 obtain ⟨t101,A20,H⟩:=Option.bind_eq_some_iff.mp H
 have A2:=Aside0.mk A20
 clear A20
 by_cases c3 : t101 < 0
 ·rw [if_pos c3] at H
  have c3b0:=decide_eq_true c3
  clear c3
  obtain rfl:=Option.some.inj H
  go_enter Tryz.func147,Tryz.ntmps147
  go_wp2_with (first | ((with_reducible refine gate_callee (f:=179) rfl ?_);refine gl_ 5 Tryz.func179 #[.string a0,.string (⟨#[47]⟩ : ByteArray)] ?_;(with_reducible refine (strings_LastIndex.calls a0 (⟨#[47]⟩ : ByteArray) t101 _ A2.out).mono ?_);rintro e w' ⟨rfl,⟨nd,rfl⟩⟩;refine ⟨_,rfl,?_⟩))
  go_ret
  exact ⟨q3_,q4_⟩
 ·rw [if_neg c3] at H
  have c3b0:=decide_eq_false c3
  clear c3
  by_cases c4 : 0 ≤ t101
  ·rw [if_pos c4] at H
   have c4b0:=eq_true c4
   have c4b1:=decide_eq_true c4
   clear c4
   by_cases c5 : t101 ≤ (a0.size : Int)
   ·rw [if_pos c5] at H
    have c5b0:=eq_true c5
    have c5b1:=decide_eq_true c5
    clear c5
    obtain rfl:=Option.some.inj H
    go_enter Tryz.func147,Tryz.ntmps147
    go_wp2_with (first | ((with_reducible refine gate_callee (f:=179) rfl ?_);refine gl_ 5 Tryz.func179 #[.string a0,.string (⟨#[47]⟩ : ByteArray)] ?_;(with_reducible refine (strings_LastIndex.calls a0 (⟨#[47]⟩ : ByteArray) t101 _ A2.out).mono ?_);rintro e w' ⟨rfl,⟨nd,rfl⟩⟩;refine ⟨_,rfl,?_⟩))
    go_ret
    exact ⟨q3_,q4_⟩
   ·rw [if_neg c5] at H
    exact absurd H q25_
  ·rw [if_neg c4] at H
   exact absurd H q25_
end Go.Proofs.YtennhpoemdaghaaGreatDoor.P
end
section
namespace Go.Proofs.YtennhpoemdaghaaGreatDoor.P
open Go Go.RowKit Go.Proofs.YtennhpoemdaghaaGreatDoorW.PrintWords
theorem splitB_eq (c : UInt8) : ∀ (n : Nat) (s : ByteArray),Lib.countB s ⟨#[c]⟩ ≤ n → Lib.splitB ⟨#[c]⟩ 0 n s = splitS c s:=by
 intro n
 induction n with
 | zero =>
  intro s h
  have hx : Lib.indexB s ⟨#[c]⟩ = Lib.indexByte s.data.toList c:=Lib.index_one _ _
  rcases Lib.indexB_cases s ⟨#[c]⟩ with h1 | ⟨i,hi,_⟩
  ·rw [Lib.splitB_miss _ _ _ _ h1,splitS_none c s (by rw [← hx];exact h1)]
  ·have:=Lib.countB_hit s ⟨#[c]⟩ i (Nat.le_refl 1) hi
   omega
 | succ n ih =>
  intro s h
  have hx : Lib.indexB s ⟨#[c]⟩ = Lib.indexByte s.data.toList c:=Lib.index_one _ _
  rcases Lib.indexB_cases s ⟨#[c]⟩ with h1 | ⟨i,hi,_⟩
  ·rw [Lib.splitB_miss _ _ _ _ h1,splitS_none c s (by rw [← hx];exact h1)]
  ·have h2:=Lib.countB_hit s ⟨#[c]⟩ i (Nat.le_refl 1) hi
   have h3 : (⟨#[c]⟩ : ByteArray).size = 1:=rfl
   rw [Lib.splitB_hit _ _ _ _ _ hi,splitS_some c s i (by rw [← hx];exact hi),h3,ih _ (by rw [h3] at h2;omega),Nat.add_zero]
theorem splitB_count (c : UInt8) (s : ByteArray) : (splitS c s).length = Lib.countB s ⟨#[c]⟩ + 1:=by
 suffices h : ∀ (n : Nat) (s : ByteArray),Lib.countB s ⟨#[c]⟩ = n → (splitS c s).length = n + 1 from h _ s rfl
 intro n
 induction n with
 | zero =>
  intro s h
  have hx : Lib.indexB s ⟨#[c]⟩ = Lib.indexByte s.data.toList c:=Lib.index_one _ _
  rcases Lib.indexB_cases s ⟨#[c]⟩ with h1 | ⟨i,hi,_⟩
  ·rw [splitS_none c s (by rw [← hx];exact h1)];rfl
  ·have:=Lib.countB_hit s ⟨#[c]⟩ i (Nat.le_refl 1) hi
   omega
 | succ n ih =>
  intro s h
  have hx : Lib.indexB s ⟨#[c]⟩ = Lib.indexByte s.data.toList c:=Lib.index_one _ _
  rcases Lib.indexB_cases s ⟨#[c]⟩ with h1 | ⟨i,hi,_⟩
  ·have:=Lib.countB_miss s ⟨#[c]⟩ h1;omega
  ·have h2:=Lib.countB_hit s ⟨#[c]⟩ i (Nat.le_refl 1) hi
   have h3 : (⟨#[c]⟩ : ByteArray).size = 1:=rfl
   rw [splitS_some c s i (by rw [← hx];exact hi),List.length_cons,ih _ (by rw [h3] at h2;omega)]
def strings_Split.f (a0 : ByteArray) (a1 : ByteArray) : Option (List ByteArray) :=
 if a1.size = 1 ∧ a0.size < 4294967281 then some (splitS (a1.data.toList.headD 0) a0) else none
theorem one_byte (a : ByteArray) (h : a.size = 1) : a = ⟨#[a.data.toList.headD 0]⟩:=by
 obtain ⟨⟨l⟩⟩:=a
 match l,h with
 | [x],_ => rfl
theorem strings_Split.calls (a0 : ByteArray) (a1 : ByteArray) (r : List ByteArray) (w : World) (h : strings_Split.f a0 a1 = some r) (hG : Env w) :
  Calls Tryz.prog 100 #[.string a0,.string a1] w fun e w' => ∃ v0_ : Value,e = .returned (v0_) ∧ Kd.R Kd.string 9 w' w.heap.size (fun _ => True) v0_ r ∧ Below w.heap.size w w':=by
 unfold strings_Split.f at h
 split at h
 ·rename_i hs
  obtain rfl:=Option.some.inj h
  obtain ⟨m,hm⟩:=hG.maxlen
  have e:=one_byte a1 hs.1
  generalize a1.data.toList.headD 0 = c at e ⊢
  subst e
  refine (Tryz.strings_Split a0 ⟨#[c]⟩ m w hs.2 hm (Nat.le_refl 1)).mono ?_
  rintro e w' ⟨rfl,rfl⟩
  rw [splitB_eq c _ a0 (Nat.le_refl _),← splitB_count c a0]
  refine ⟨_,rfl,Kd.R_of_own ?_ (fun _ _ => trivial),(Below.refl _ w).alloc (Nat.le_refl _) _⟩
  have hl : (splitS c a0).length ≤ 140737488355328:=by
   unfold splitS;rw [List.length_map]
   have:=splitL_length c a0.data.toList
   have hz : a0.data.toList.length = a0.size:=rfl
   omega
  have h2:=World.ownsRow_lit (base:=w.heap.size) (e:=9) (size:=1) w ((splitS c a0).map Value.string).toArray (splitS c a0).length (Nat.le_refl _) (by simp only [maxLen];omega) q25_
  simpa [encs] using h2
 ·cases h
def mpath_split.f (a0 : ByteArray) : Option (List ByteArray × ByteArray) :=
 if a0.size < 4294967281 then some ((splitS 47 a0).dropLast,(splitS 47 a0).getLastD ByteArray.empty) else none
set_option maxRecDepth 100000 in
set_option maxHeartbeats 2000000 in
theorem mpath_split.calls (a0 : ByteArray) (r1 : List ByteArray) (r2 : ByteArray) (w : World) (h : mpath_split.f a0 = some (r1,r2)) (hG : Env w) :
  Calls Tryz.prog 104 #[.string a0] w fun e w' => ∃ v0_ : Value,e = .returned (.tuple #[v0_,.string r2]) ∧ Kd.R Kd.string 9 w' w.heap.size (fun _ => True) v0_ r1 ∧ Below w.heap.size w w':=by
 unfold mpath_split.f at h
 split at h
 ·rename_i hs
  obtain ⟨rfl,rfl⟩:=Prod.mk.inj (Option.some.inj h)
  have hsp : strings_Split.f a0 ⟨#[47]⟩ = some (splitS 47 a0):=by unfold strings_Split.f;rw [if_pos ⟨rfl,hs⟩];rfl
  have hne : splitS 47 a0 ≠ []:=by unfold splitS;simp [splitL_ne]
  have hlen : (splitS 47 a0).length ≤ 4294967282:=by
   unfold splitS;rw [List.length_map]
   have:=splitL_length 47 a0.data.toList
   have hz : a0.data.toList.length = a0.size:=rfl
   omega
  have hpos : 0 < (splitS 47 a0).length:=List.length_pos_iff.2 hne
  have hd : (splitS 47 a0).dropLast = (splitS 47 a0).take ((splitS 47 a0).length - 1):=List.dropLast_eq_take
  have hl : (splitS 47 a0).getLastD ByteArray.empty = rdOf ByteArray.empty (splitS 47 a0) (((splitS 47 a0).length : Int) - 1):=by
   rw [List.getLastD_eq_getLast?,List.getLast?_eq_getElem?]
   unfold rdOf
   rw [List.getD_eq_getElem?_getD,show (((splitS 47 a0).length : Int) - 1).toNat = (splitS 47 a0).length - 1 by omega]
  rw [hd,hl]
  have HS:=strings_Split.calls a0 ⟨#[47]⟩ _ w hsp hG
  clear hd hl hsp h
  generalize splitS 47 a0 = xs at hne hlen hpos HS ⊢
  clear hne
  go_enter Tryz.func104,Tryz.ntmps104
  go_wp2_with (go_at_call 100;refine HS.mono ?_;rintro e w1 ⟨v,rfl,hR,hb⟩)
  obtain ⟨g,cap,rfl,hg1,hg2,cells,hcl⟩:=Kd.R_form hR hpos
  obtain ⟨_,hcap,hC⟩:=Kd.R_reads' hR
  obtain ⟨ad,e1,hcell⟩:=Kd.at_string hC ((xs.length : Int) - 1) q5_ q5_
  cases e1
  rw [add_plain] at hcell
  have e2 : ((xs.length : Int) - 1).toNat = xs.length - 1:=by omega
  obtain ⟨i0,hi,hzz⟩:=Option.map_eq_some_iff.1 info9
  simp only [Prod.mk.injEq] at hzz
  have hsl:=(print_take_of Value.string ByteArray.empty 98 9 .i64 Tryz.underlying98 hi hzz.2.1 (some ⟨g,0,none⟩) cap xs ((xs.length : Int) - 1) q5_ q5_ hcap).1
  have hwr : IntKind.i64.wrap ((xs.length : Int) - 1) = (xs.length : Int) - 1:=IntWalk.i64_in _ q5_
  have hlo : (0 : Int) ≤ (xs.length : Int) - 1:=by omega
  have hhi : (xs.length : Int) - 1 < (xs.length : Int):=by omega
  have h1i : (1 : Int) ≤ (xs.length : Int):=by omega
  have h1n : 1 ≤ xs.length:=hpos
  have hcell2:=hcell
  rw [e2] at hcell2
  go_quiet (fail)
  go_wp2
  go_ret2
  refine ⟨_,rfl,?_,?_⟩
  ·have h3:=Kd.R_take (m:=xs.length - 1) hR q5_
   exact Kd.R_drewN h3 _
  ·exact pw_below_drewN hb _
 ·cases h
end Go.Proofs.YtennhpoemdaghaaGreatDoor.P
end
section
namespace Go.Proofs.YtennhpoemdaghaaGreatDoor.P
open Go.RowKit Go.Proofs.YtennhpoemdaghaaGreatDoorW.PrintWords Go.Proofs.YtennhpoemdaghaaGreatDoorW.PrintLast Go.Proofs.YtennhpoemdaghaaGreatDoorW.PrintMore
def mpath_Check.l0 : Nat → List ByteArray → ByteArray → List ByteArray → Int → Int → Option (Bool)
 | 0,_,_,_,_,_ => none
 | k + 1,x3,x4,x19,x20,x21 => if x21 < x20 then (if 0 ≤ x21 then (if x21 < (x19.length : Int) then ((mpath_major.f (rdOf ByteArray.empty x19 x21)).bind fun bt107 => (if bt107.2 = true then (some false) else (mpath_Check.l0 k x3 x4 x19 x20 (wrap64 (x21 + 1))))) else (none)) else (none)) else ((mpath_major.f x4).bind fun bt109 => (if bt109.2 = true then (if bt109.1 > 0 then (some (decide ((x3.length : Int) > 0))) else (some false)) else (some true)))
def mpath_Check.f (k : Nat) (a0 : ByteArray) : Option (Bool):=(files_Path.f a0).bind fun t101 => (if t101 = true then ((mpath_split.f a0).bind fun bt102 => (mpath_Check.l0 k bt102.1 bt102.2 bt102.1 (bt102.1.length : Int) 0)) else (some false))
theorem mpath_Check.mono_l : ∀ k,(∀ y0 y1 y2 y3 y4,LeO (mpath_Check.l0 k y0 y1 y2 y3 y4) (mpath_Check.l0 (k + 1) y0 y1 y2 y3 y4))
 | 0 => fun _ _ _ _ _ r h => by simp [mpath_Check.l0] at h
 | k + 1 => by
  have ih0:=mpath_Check.mono_l k
  ·intro y0 y1 y2 y3 y4
   unfold mpath_Check.l0
   repeat' first
   | (with_reducible exact ih0 _ _ _ _ _)
   | (with_reducible exact LeO.refl _)
   | (with_reducible exact LeO.none _)
   | (with_reducible refine LeO.ite ?_ ?_)
   | (with_reducible refine LeO.bind ?_ (fun _ => ?_))
   | exact ih0 _ _ _ _ _
   | exact LeO.none _
   | refine LeO.ite ?_ ?_
   | refine LeO.bind ?_ (fun _ => ?_)
theorem mpath_Check.mono : ∀ a0 k,LeO (mpath_Check.f k a0) (mpath_Check.f (k + 1) a0):=by
 intro a0 k
 have ih0:=mpath_Check.mono_l k
 unfold mpath_Check.f
 repeat' first
   | (with_reducible exact ih0 _ _ _ _ _)
   | (with_reducible exact LeO.refl _)
   | (with_reducible exact LeO.none _)
   | (with_reducible refine LeO.ite ?_ ?_)
   | (with_reducible refine LeO.bind ?_ (fun _ => ?_))
   | exact ih0 _ _ _ _ _
   | exact LeO.none _
   | refine LeO.ite ?_ ?_
   | refine LeO.bind ?_ (fun _ => ?_)
set_option maxHeartbeats 8000000 in
set_option maxRecDepth 100000 in
theorem mpath_Check.calls (k : Nat) (a0 : ByteArray) (r : Bool) (w : World) (h : mpath_Check.f k a0 = some r) (hG : Env w) :
  Calls Tryz.prog 73 #[.string a0] w fun e w' => e = .returned (.bool r) ∧ Below w.heap.size w w':=by
 have HG:=Aside0.mk hG
 clear hG
 have HB:=Aside0.mk (Below.refl w.heap.size w)
 have H : ((files_Path.f a0).bind fun t101 => (if t101 = true then ((mpath_split.f a0).bind fun bt102 => (mpath_Check.l0 k bt102.1 bt102.2 bt102.1 (bt102.1.length : Int) 0)) else (some false))) = some r:=h
 clear h
 obtain ⟨t101,A20,H⟩:=Option.bind_eq_some_iff.mp H
 have A2:=Aside0.mk A20
 clear A20
 by_cases c3 : t101 = true
 ·subst c3
  rw [if_pos rfl] at H
  obtain ⟨⟨t102,t103⟩,A40,H⟩:=Option.bind_eq_some_iff.mp H
  dsimp only at H
  have A4:=Aside0.mk A40
  clear A40
  have H':=Aside0.mk H
  clear H
  go_enter Tryz.func73,Tryz.ntmps73
  go_wp2_with (first | ((with_reducible refine gate_callee (f:=103) rfl ?_);refine gl_ 12 Tryz.func103 #[.string a0] ?_;(with_reducible refine (files_Path.calls a0 true _ A2.out).mono ?_);rintro e w5 ⟨rfl,hb⟩;refine ⟨_,rfl,?_⟩;replace HB:=Aside0.mk (below_step bh_ hb);(try clear hb)) | ((with_reducible refine gate_callee (f:=104) rfl ?_);refine gl_ 16 Tryz.func104 #[.string a0] ?_;(with_reducible refine (mpath_split.calls a0 t102 t103 _ A4.out ?sideG).mono ?_);(case sideG => first | exact HG.out | exact Env.below HG.out bh_);rintro e w6 ⟨v104,rfl,ho0,hb⟩;refine ⟨_,rfl,?_⟩;have HO105:=Aside0.mk (Kd.R_lower ho0 (below_size bh_));replace HB:=Aside0.mk (below_step bh_ hb);(try clear hb);(try clear ho0);obtain ⟨Ao7,co7,eo7⟩:=Kd.R_slice HO105.out;subst eo7))
  go_loopg [21] k (fun kq v21 w' => ∃ (x21_1 : Int),v21 = .int .i64 x21_1 ∧ Aside0 (mpath_Check.l0 kq t102 t103 t102 (t102.length : Int) x21_1 = some r) ∧ Aside0 (kq ≤ k) ∧ Aside0 (Kd.R Kd.string 9 w' w.heap.size (fun _ => True) (.slice Ao7 t102.length co7) t102) ∧ Aside0 (Kd.R Kd.string 9 w' w.heap.size (fun _ => True) (.slice Ao7 t102.length co7) t102) ∧ Aside0 (Below w.heap.size w w'))
  case atStart => exact ⟨(0),q12_,H',⟨Nat.le_refl _⟩,⟨by (with_reducible repeat (first | apply Kd.R_alloc | apply Kd.R_drewN | apply Kd.R_drew));exact HO105.out⟩,⟨by (with_reducible repeat (first | apply Kd.R_alloc | apply Kd.R_drewN | apply Kd.R_drew));exact HO105.out⟩,⟨by repeat (first | (with_reducible first | exact HB.out | apply below_alloc | apply pw_below_drewN | apply below_drew1) | exact HB.out)⟩⟩
  case round =>
   clear H'
   try clear c1
   try clear p2
   try clear c3
   try clear c7
   obtain ⟨x21_1,rfl,HA,HK1,HO_3,HO_19,HB⟩:=hrel
   cases gk with
   | zero => exact absurd HA.out (by simp [mpath_Check.l0])
   | succ k1 =>
    have H:=HA.out
    clear HA
    simp only [mpath_Check.l0] at H
    by_cases c8 : x21_1 < (t102.length : Int)
    ·rw [if_pos c8] at H
     have c8b0:=decide_eq_true c8
     clear c8
     by_cases c9 : 0 ≤ x21_1
     ·rw [if_pos c9] at H
      have c9b0:=decide_eq_true c9
      clear c9
      by_cases c10 : x21_1 < (t102.length : Int)
      ·rw [if_pos c10] at H
       have c10b0:=decide_eq_true c10
       clear c10
       obtain ⟨⟨t107,t108⟩,A110,H⟩:=Option.bind_eq_some_iff.mp H
       dsimp only at H
       have A11:=Aside0.mk A110
       clear A110
       by_cases c12 : t108 = true
       ·subst c12
        rw [if_pos rfl] at H
        obtain rfl:=Option.some.inj H
        have p106 : 0 ≤ (x21_1 : Int):=of_decide_eq_true q1_
        have q106 : x21_1 < (t102.length : Int):=of_decide_eq_true q1_
        obtain ⟨ad106,e106,hx106_0⟩:=Kd.at_string (Kd.R_reads' HO_19.out).2.2 x21_1 p106 q106
        cases e106
        replace p106:=eq_true p106
        replace q106:=eq_true q106
        go_wp2_with (first | ((with_reducible refine gate_callee (f:=105) rfl ?_);refine gl_ 27 Tryz.func105 #[.string (rdOf ByteArray.empty t102 x21_1)] ?_;(with_reducible refine (mpath_major.calls (rdOf ByteArray.empty t102 x21_1) t107 true _ A11.out ?sideG).mono ?_);(case sideG => first | exact HG.out | exact Env.below HG.out bh_);rintro e w13 ⟨rfl,hb⟩;refine ⟨_,rfl,?_⟩;replace HO_3:=Aside0.mk (Kd.R_below q37_ hb);replace HO_19:=Aside0.mk (Kd.R_below q34_ hb);replace HB:=Aside0.mk (below_step bh_ hb);(try clear hb)))
        go_ret
        exact ⟨q2_,bh_⟩
       ·replace c12:=Bool.eq_false_iff.mpr c12
        subst c12
        rw [if_neg (show ¬ (false = true) by decide)] at H
        have H':=Aside0.mk H
        clear H
        have p106 : 0 ≤ (x21_1 : Int):=of_decide_eq_true q1_
        have q106 : x21_1 < (t102.length : Int):=of_decide_eq_true q1_
        obtain ⟨ad106,e106,hx106_0⟩:=Kd.at_string (Kd.R_reads' HO_19.out).2.2 x21_1 p106 q106
        cases e106
        replace p106:=eq_true p106
        replace q106:=eq_true q106
        go_wp2_with (first | ((with_reducible refine gate_callee (f:=105) rfl ?_);refine gl_ 27 Tryz.func105 #[.string (rdOf ByteArray.empty t102 x21_1)] ?_;(with_reducible refine (mpath_major.calls (rdOf ByteArray.empty t102 x21_1) t107 false _ A11.out ?sideG).mono ?_);(case sideG => first | exact HG.out | exact Env.below HG.out bh_);rintro e w14 ⟨rfl,hb⟩;refine ⟨_,rfl,?_⟩;replace HO_3:=Aside0.mk (Kd.R_below q37_ hb);replace HO_19:=Aside0.mk (Kd.R_below q34_ hb);replace HB:=Aside0.mk (below_step bh_ hb);(try clear hb)))
        go_roundg k1
        case measure => have:=HK1.out;omega
        case rel => exact ⟨(wrap64 (x21_1 + 1)),q12_,H',⟨by have:=HK1.out;omega⟩,⟨by (with_reducible repeat (first | apply Kd.R_alloc | apply Kd.R_drewN | apply Kd.R_drew));exact HO_3.out⟩,⟨by (with_reducible repeat (first | apply Kd.R_alloc | apply Kd.R_drewN | apply Kd.R_drew));exact HO_19.out⟩,⟨by repeat (first | (with_reducible first | exact HB.out | apply below_alloc | apply pw_below_drewN | apply below_drew1) | exact HB.out)⟩⟩
      ·rw [if_neg c10] at H
       exact absurd H q25_
     ·rw [if_neg c9] at H
      exact absurd H q25_
    ·rw [if_neg c8] at H
     have c8b0:=decide_eq_false c8
     clear c8
     obtain ⟨⟨t109,t110⟩,A150,H⟩:=Option.bind_eq_some_iff.mp H
     dsimp only at H
     have A15:=Aside0.mk A150
     clear A150
     by_cases c16 : t110 = true
     ·subst c16
      rw [if_pos rfl] at H
      by_cases c17 : t109 > 0
      ·rw [if_pos c17] at H
       have c17b0 : decide (0 < t109) = true:=decide_eq_true c17
       clear c17
       obtain rfl:=Option.some.inj H
       go_wp2_with (first | ((with_reducible refine gate_callee (f:=105) rfl ?_);refine gl_ 34 Tryz.func105 #[.string t103] ?_;(with_reducible refine (mpath_major.calls t103 t109 true _ A15.out ?sideG).mono ?_);(case sideG => first | exact HG.out | exact Env.below HG.out bh_);rintro e w18 ⟨rfl,hb⟩;refine ⟨_,rfl,?_⟩;replace HO_3:=Aside0.mk (Kd.R_below q37_ hb);replace HO_19:=Aside0.mk (Kd.R_below q34_ hb);replace HB:=Aside0.mk (below_step bh_ hb);(try clear hb)))
       go_ret
       exact ⟨q2_,bh_⟩
      ·rw [if_neg c17] at H
       have c17b0 : decide (0 < t109) = false:=decide_eq_false c17
       clear c17
       obtain rfl:=Option.some.inj H
       go_wp2_with (first | ((with_reducible refine gate_callee (f:=105) rfl ?_);refine gl_ 34 Tryz.func105 #[.string t103] ?_;(with_reducible refine (mpath_major.calls t103 t109 true _ A15.out ?sideG).mono ?_);(case sideG => first | exact HG.out | exact Env.below HG.out bh_);rintro e w19 ⟨rfl,hb⟩;refine ⟨_,rfl,?_⟩;replace HO_3:=Aside0.mk (Kd.R_below q37_ hb);replace HO_19:=Aside0.mk (Kd.R_below q34_ hb);replace HB:=Aside0.mk (below_step bh_ hb);(try clear hb)))
       go_ret
       exact ⟨q2_,bh_⟩
     ·replace c16:=Bool.eq_false_iff.mpr c16
      subst c16
      rw [if_neg (show ¬ (false = true) by decide)] at H
      obtain rfl:=Option.some.inj H
      go_wp2_with (first | ((with_reducible refine gate_callee (f:=105) rfl ?_);refine gl_ 34 Tryz.func105 #[.string t103] ?_;(with_reducible refine (mpath_major.calls t103 t109 false _ A15.out ?sideG).mono ?_);(case sideG => first | exact HG.out | exact Env.below HG.out bh_);rintro e w20 ⟨rfl,hb⟩;refine ⟨_,rfl,?_⟩;replace HO_3:=Aside0.mk (Kd.R_below q37_ hb);replace HO_19:=Aside0.mk (Kd.R_below q34_ hb);replace HB:=Aside0.mk (below_step bh_ hb);(try clear hb)))
      go_ret
      exact ⟨q2_,bh_⟩
 ·replace c3:=Bool.eq_false_iff.mpr c3
  subst c3
  rw [if_neg (show ¬ (false = true) by decide)] at H
  obtain rfl:=Option.some.inj H
  go_enter Tryz.func73,Tryz.ntmps73
  go_wp2_with (first | ((with_reducible refine gate_callee (f:=103) rfl ?_);refine gl_ 12 Tryz.func103 #[.string a0] ?_;(with_reducible refine (files_Path.calls a0 false _ A2.out).mono ?_);rintro e w21 ⟨rfl,hb⟩;refine ⟨_,rfl,?_⟩;replace HB:=Aside0.mk (below_step bh_ hb);(try clear hb)))
  go_ret
  exact ⟨q2_,bh_⟩
def mpath_Major.f (k : Nat) (a0 : ByteArray) : Option (ByteArray × Int × Bool):=(mpath_Check.f k a0).bind fun t101 => (if t101 = true then ((mpath_split.f a0).bind fun bt102 => ((mpath_major.f bt102.2).bind fun bt106 => (if bt106.2 = true then ((mpath_Base.f a0).bind fun t108 => (some (t108,bt106.1,true))) else (some (a0,0,true))))) else (some ((⟨#[]⟩ : ByteArray),0,false)))
theorem mpath_Major.mono : ∀ a0 k,LeO (mpath_Major.f k a0) (mpath_Major.f (k + 1) a0):=by
 intro a0 k
 unfold mpath_Major.f
 repeat' first
   | (with_reducible exact mpath_Check.mono _ _)
   | (with_reducible exact LeO.refl _)
   | (with_reducible exact LeO.none _)
   | (with_reducible refine LeO.ite ?_ ?_)
   | (with_reducible refine LeO.bind ?_ (fun _ => ?_))
   | exact mpath_Check.mono _ _
   | exact LeO.none _
   | refine LeO.ite ?_ ?_
   | refine LeO.bind ?_ (fun _ => ?_)
set_option maxHeartbeats 8000000 in
set_option maxRecDepth 100000 in
theorem mpath_Major.calls (k : Nat) (a0 : ByteArray) (r1 : ByteArray) (r2 : Int) (r3 : Bool) (w : World) (h : mpath_Major.f k a0 = some (r1,r2,r3)) (hG : Env w) :
  Calls Tryz.prog 110 #[.string a0] w fun e w' => e = .returned (.tuple #[.string r1,.int .i64 r2,.bool r3]) ∧ Below w.heap.size w w':=by
 have HG:=Aside0.mk hG
 clear hG
 have HB:=Aside0.mk (Below.refl w.heap.size w)
 have H : ((mpath_Check.f k a0).bind fun t101 => (if t101 = true then ((mpath_split.f a0).bind fun bt102 => ((mpath_major.f bt102.2).bind fun bt106 => (if bt106.2 = true then ((mpath_Base.f a0).bind fun t108 => (some (t108,bt106.1,true))) else (some (a0,0,true))))) else (some ((⟨#[]⟩ : ByteArray),0,false)))) = some (r1,r2,r3):=h
 clear h
 obtain ⟨t101,A20,H⟩:=Option.bind_eq_some_iff.mp H
 replace H : (if t101 = true then ((mpath_split.f a0).bind fun bt102 => ((mpath_major.f bt102.2).bind fun bt106 => (if bt106.2 = true then ((mpath_Base.f a0).bind fun t108 => (some (t108,bt106.1,true))) else (some (a0,0,true))))) else (some ((⟨#[]⟩ : ByteArray),0,false))) = some (r1,r2,r3):=H
 have A2:=Aside0.mk A20
 clear A20
 by_cases c3 : t101 = true
 ·subst c3
  rw [if_pos rfl] at H
  obtain ⟨⟨t102,t103⟩,A40,H⟩:=Option.bind_eq_some_iff.mp H
  replace H : ((mpath_major.f t103).bind fun bt106 => (if bt106.2 = true then ((mpath_Base.f a0).bind fun t108 => (some (t108,bt106.1,true))) else (some (a0,0,true)))) = some (r1,r2,r3):=H
  have A4:=Aside0.mk A40
  clear A40
  obtain ⟨⟨t106,t107⟩,A50,H⟩:=Option.bind_eq_some_iff.mp H
  replace H : (if t107 = true then ((mpath_Base.f a0).bind fun t108 => (some (t108,t106,true))) else (some (a0,0,true))) = some (r1,r2,r3):=H
  have A5:=Aside0.mk A50
  clear A50
  by_cases c6 : t107 = true
  ·subst c6
   rw [if_pos rfl] at H
   obtain ⟨t108,A70,H⟩:=Option.bind_eq_some_iff.mp H
   replace H : (some (t108,t106,true)) = some (r1,r2,r3):=H
   have A7:=Aside0.mk A70
   clear A70
   simp only [Option.some.injEq,Prod.mk.injEq] at H
   obtain ⟨rfl,rfl,rfl⟩:=H
   go_enter Tryz.func110,Tryz.ntmps110
   go_wp2_with (first | ((with_reducible refine gate_callee (f:=73) rfl ?_);refine gl_ 10 Tryz.func73 #[.string a0] ?_;(with_reducible refine (mpath_Check.calls k a0 true _ A2.out ?sideG).mono ?_);(case sideG => first | exact HG.out | exact Env.below HG.out bh_);rintro e w8 ⟨rfl,hb⟩;refine ⟨_,rfl,?_⟩;replace HB:=Aside0.mk (below_step bh_ hb);(try clear hb)) | ((with_reducible refine gate_callee (f:=104) rfl ?_);refine gl_ 14 Tryz.func104 #[.string a0] ?_;(with_reducible refine (mpath_split.calls a0 t102 t103 _ A4.out ?sideG).mono ?_);(case sideG => first | exact HG.out | exact Env.below HG.out bh_);rintro e w9 ⟨v104,rfl,ho0,hb⟩;refine ⟨_,rfl,?_⟩;have HO105:=Aside0.mk (Kd.R_lower ho0 (below_size bh_));replace HB:=Aside0.mk (below_step bh_ hb);(try clear hb);(try clear ho0)) | ((with_reducible refine gate_callee (f:=105) rfl ?_);refine gl_ 19 Tryz.func105 #[.string t103] ?_;(with_reducible refine (mpath_major.calls t103 t106 true _ A5.out ?sideG).mono ?_);(case sideG => first | exact HG.out | exact Env.below HG.out bh_);rintro e w10 ⟨rfl,hb⟩;refine ⟨_,rfl,?_⟩;replace HO105:=Aside0.mk (Kd.R_below q36_ hb);replace HB:=Aside0.mk (below_step bh_ hb);(try clear hb)) | ((with_reducible refine gate_callee (f:=147) rfl ?_);refine gl_ 24 Tryz.func147 #[.string a0] ?_;(with_reducible refine (mpath_Base.calls a0 t108 _ A7.out).mono ?_);rintro e w' ⟨rfl,⟨nd,rfl⟩⟩;refine ⟨_,rfl,?_⟩))
   go_ret3
   exact ⟨q2_,bh_⟩
  ·replace c6:=Bool.eq_false_iff.mpr c6
   subst c6
   rw [if_neg (show ¬ (false = true) by decide)] at H
   simp only [Option.some.injEq,Prod.mk.injEq] at H
   obtain ⟨rfl,rfl,rfl⟩:=H
   go_enter Tryz.func110,Tryz.ntmps110
   go_wp2_with (first | ((with_reducible refine gate_callee (f:=73) rfl ?_);refine gl_ 10 Tryz.func73 #[.string a0] ?_;(with_reducible refine (mpath_Check.calls k a0 true _ A2.out ?sideG).mono ?_);(case sideG => first | exact HG.out | exact Env.below HG.out bh_);rintro e w11 ⟨rfl,hb⟩;refine ⟨_,rfl,?_⟩;replace HB:=Aside0.mk (below_step bh_ hb);(try clear hb)) | ((with_reducible refine gate_callee (f:=104) rfl ?_);refine gl_ 14 Tryz.func104 #[.string a0] ?_;(with_reducible refine (mpath_split.calls a0 t102 t103 _ A4.out ?sideG).mono ?_);(case sideG => first | exact HG.out | exact Env.below HG.out bh_);rintro e w12 ⟨v104,rfl,ho0,hb⟩;refine ⟨_,rfl,?_⟩;have HO105:=Aside0.mk (Kd.R_lower ho0 (below_size bh_));replace HB:=Aside0.mk (below_step bh_ hb);(try clear hb);(try clear ho0)) | ((with_reducible refine gate_callee (f:=105) rfl ?_);refine gl_ 19 Tryz.func105 #[.string t103] ?_;(with_reducible refine (mpath_major.calls t103 t106 false _ A5.out ?sideG).mono ?_);(case sideG => first | exact HG.out | exact Env.below HG.out bh_);rintro e w13 ⟨rfl,hb⟩;refine ⟨_,rfl,?_⟩;replace HO105:=Aside0.mk (Kd.R_below q36_ hb);replace HB:=Aside0.mk (below_step bh_ hb);(try clear hb)))
   go_ret3
   exact ⟨q2_,bh_⟩
 ·replace c3:=Bool.eq_false_iff.mpr c3
  subst c3
  rw [if_neg (show ¬ (false = true) by decide)] at H
  simp only [Option.some.injEq,Prod.mk.injEq] at H
  obtain ⟨rfl,rfl,rfl⟩:=H
  go_enter Tryz.func110,Tryz.ntmps110
  go_wp2_with (first | ((with_reducible refine gate_callee (f:=73) rfl ?_);refine gl_ 10 Tryz.func73 #[.string a0] ?_;(with_reducible refine (mpath_Check.calls k a0 false _ A2.out ?sideG).mono ?_);(case sideG => first | exact HG.out | exact Env.below HG.out bh_);rintro e w14 ⟨rfl,hb⟩;refine ⟨_,rfl,?_⟩;replace HB:=Aside0.mk (below_step bh_ hb);(try clear hb)))
  go_ret3
  exact ⟨q2_,bh_⟩
def mpath_Fits.j0 : Nat → Int → Bool → Int → Int → Int → ByteArray → ByteArray → Option (Bool)
 | 0,_,_,_,_,_,_,_ => none
 | k + 1,x6,x14,x102000,x102001,x102002,x102003,x102004 => if x14 = true then (some false) else (if x6 = 0 then (some (decide (x102000 < 2))) else (some (x102000 == x6)))
def mpath_Fits.f (k : Nat) (a0 : ByteArray) (a1_0 : Int) (a1_1 : Int) (a1_2 : Int) (a1_3 : ByteArray) (a1_4 : ByteArray) : Option (Bool):=(mpath_Major.f k a0).bind fun bt102 => (if bt102.2.2 = true then ((ver_Check.f a1_0 a1_1 a1_2 a1_3 a1_4).bind fun t105 => (mpath_Fits.j0 k bt102.2.1 (!t105) a1_0 a1_1 a1_2 a1_3 a1_4)) else (mpath_Fits.j0 k bt102.2.1 true a1_0 a1_1 a1_2 a1_3 a1_4))
theorem mpath_Fits.mono_l : ∀ k,(∀ y0 y1 y2 y3 y4 y5 y6,LeO (mpath_Fits.j0 k y0 y1 y2 y3 y4 y5 y6) (mpath_Fits.j0 (k + 1) y0 y1 y2 y3 y4 y5 y6))
 | 0 => fun _ _ _ _ _ _ _ r h => by simp [mpath_Fits.j0] at h
 | k + 1 => by
  have ih0:=mpath_Fits.mono_l k
  ·intro y0 y1 y2 y3 y4 y5 y6
   unfold mpath_Fits.j0
   repeat' first
   | (with_reducible exact ih0 _ _ _ _ _ _ _)
   | (with_reducible exact mpath_Major.mono _ _)
   | (with_reducible exact LeO.refl _)
   | (with_reducible exact LeO.none _)
   | (with_reducible refine LeO.ite ?_ ?_)
   | (with_reducible refine LeO.bind ?_ (fun _ => ?_))
   | exact ih0 _ _ _ _ _ _ _
   | exact mpath_Major.mono _ _
   | exact LeO.none _
   | refine LeO.ite ?_ ?_
   | refine LeO.bind ?_ (fun _ => ?_)
theorem mpath_Fits.mono : ∀ a0 a1 a2 a3 a4 a5 k,LeO (mpath_Fits.f k a0 a1 a2 a3 a4 a5) (mpath_Fits.f (k + 1) a0 a1 a2 a3 a4 a5):=by
 intro a0 a1 a2 a3 a4 a5 k
 have ih0:=mpath_Fits.mono_l k
 unfold mpath_Fits.f
 repeat' first
   | (with_reducible exact ih0 _ _ _ _ _ _ _)
   | (with_reducible exact mpath_Major.mono _ _)
   | (with_reducible exact LeO.refl _)
   | (with_reducible exact LeO.none _)
   | (with_reducible refine LeO.ite ?_ ?_)
   | (with_reducible refine LeO.bind ?_ (fun _ => ?_))
   | exact ih0 _ _ _ _ _ _ _
   | exact mpath_Major.mono _ _
   | exact LeO.none _
   | refine LeO.ite ?_ ?_
   | refine LeO.bind ?_ (fun _ => ?_)
set_option maxHeartbeats 8000000 in
set_option maxRecDepth 100000 in
theorem mpath_Fits.calls (k : Nat) (a0 : ByteArray) (a1_0 : Int) (a1_1 : Int) (a1_2 : Int) (a1_3 : ByteArray) (a1_4 : ByteArray) (r : Bool) (w : World) (h : mpath_Fits.f k a0 a1_0 a1_1 a1_2 a1_3 a1_4 = some r) (hG : Env w) :
  Calls Tryz.prog 75 #[.string a0,.agg #[.int .i64 a1_0,.int .i64 a1_1,.int .i64 a1_2,.string a1_3,.string a1_4]] w fun e w' => e = .returned (.bool r) ∧ Below w.heap.size w w':=by
 have HG:=Aside0.mk hG
 clear hG
 have hu24:=Tryz.underlying24
 have HB:=Aside0.mk (Below.refl w.heap.size w)
 have H : ((mpath_Major.f k a0).bind fun bt102 => (if bt102.2.2 = true then ((ver_Check.f a1_0 a1_1 a1_2 a1_3 a1_4).bind fun t105 => (mpath_Fits.j0 k bt102.2.1 (!t105) a1_0 a1_1 a1_2 a1_3 a1_4)) else (mpath_Fits.j0 k bt102.2.1 true a1_0 a1_1 a1_2 a1_3 a1_4))) = some r:=h
 clear h
 obtain ⟨⟨t102,t103,t104⟩,A30,H⟩:=Option.bind_eq_some_iff.mp H
 dsimp only at H
 have A3:=Aside0.mk A30
 clear A30
 have HC4:=Aside0.mk H
 clear H
 go_enter Tryz.func75,Tryz.ntmps75
 go_upto_region 2 with (first | ((with_reducible refine gate_dst (N:=3) rfl ?_);refine bx_ 3 24 #[.int .i64 a1_0,.int .i64 a1_1,.int .i64 a1_2,.string a1_3,.string a1_4] ?_;intro gb101 hg w5 hbox hb;have BK101:=Aside0.mk (hbox);have GW101:=Aside0.mk ((q17_ : w.heap.size ≤ gb101));have GE101:=Aside0.mk ((q17_ : w.heap.size ≤ gb101));replace HB:=Aside0.mk (below_step bh_ hb);clear hb hbox hg) | ((with_reducible refine gate_callee (f:=110) rfl ?_);refine gl_ 10 Tryz.func110 #[.string a0] ?_;(with_reducible refine (mpath_Major.calls k a0 t102 t103 t104 _ A3.out ?sideG).mono ?_);(case sideG => first | exact HG.out | exact Env.below HG.out bh_);rintro e w6 ⟨rfl,hb⟩;refine ⟨_,rfl,?_⟩;replace BK101:=Aside0.mk (blk_below bk101_ hb);replace HB:=Aside0.mk (below_step bh_ hb);(try clear hb)))
 (try simp only [Act.put,List.setIfInBounds_toArray,List.set_cons_zero,List.set_cons_succ])
 go_cut [14] (fun v14 wc => ∃ (kq : Nat) (x14_3 : Bool),v14 = .bool x14_3 ∧ Aside0 (mpath_Fits.j0 kq t103 x14_3 a1_0 a1_1 a1_2 a1_3 a1_4 = some r) ∧ Aside0 (kq ≤ k) ∧ Aside0 (wc.heap[gb101]? = some (.cells #[.int .i64 a1_0,.int .i64 a1_1,.int .i64 a1_2,.string a1_3,.string a1_4] 24 (0,0))) ∧ Aside0 (Below w.heap.size w wc))
 case first =>
  have H:=HC4.out
  clear HC4
  by_cases c7 : t104 = true
  ·subst c7
   rw [if_pos rfl] at H
   obtain ⟨t105,A80,H⟩:=Option.bind_eq_some_iff.mp H
   have A8:=Aside0.mk A80
   clear A80
   have H':=Aside0.mk H
   clear H
   have hcz9_0 : w6.cell? ⟨gb101,0,none⟩ = some (.int .i64 a1_0):=(blk_cell BK101.out 0).trans rfl
   have hcz9_1 : w6.cell? ⟨gb101,1,none⟩ = some (.int .i64 a1_1):=(blk_cell BK101.out 1).trans rfl
   have hcz9_2 : w6.cell? ⟨gb101,2,none⟩ = some (.int .i64 a1_2):=(blk_cell BK101.out 2).trans rfl
   have hcz9_3 : w6.cell? ⟨gb101,3,none⟩ = some (.string a1_3):=(blk_cell BK101.out 3).trans rfl
   have hcz9_4 : w6.cell? ⟨gb101,4,none⟩ = some (.string a1_4):=(blk_cell BK101.out 4).trans rfl
   have hfz9_0:=blk_frozen BK101.out 0
   have hfz9_1:=blk_frozen BK101.out 1
   have hfz9_2:=blk_frozen BK101.out 2
   have hfz9_3:=blk_frozen BK101.out 3
   have hfz9_4:=blk_frozen BK101.out 4
   go_wp2_with (first | (go_at_call 74;(with_reducible refine (ver_Check.calls a1_0 a1_1 a1_2 a1_3 a1_4 t105 _ A8.out).mono ?_);rintro e w10 ⟨rfl,hb⟩;replace BK101:=Aside0.mk (blk_below bk101_ hb);replace HB:=Aside0.mk (below_step bh_ hb);(try clear hb)))
   go_meet
   case rel => exact ⟨_,(!t105),q12_,H',⟨by first | omega | exact Nat.le_refl _⟩,⟨by (with_reducible repeat (first | refine blk_drewN ?_ _ | refine blk_drew ?_ | refine blk_alloc ?_ _));exact BK101.out⟩,⟨by repeat (first | (with_reducible first | exact HB.out | apply below_alloc | apply pw_below_drewN | apply below_drew1 | refine below_set ?_ GE101.out) | exact HB.out)⟩⟩
  ·replace c7:=Bool.eq_false_iff.mpr c7
   subst c7
   rw [if_neg (show ¬ (false = true) by decide)] at H
   have H':=Aside0.mk H
   clear H
   go_wp2
   go_meet
   case rel => exact ⟨_,(true),q12_,H',⟨by first | omega | exact Nat.le_refl _⟩,⟨by (with_reducible repeat (first | refine blk_drewN ?_ _ | refine blk_drew ?_ | refine blk_alloc ?_ _));exact BK101.out⟩,⟨by repeat (first | (with_reducible first | exact HB.out | apply below_alloc | apply pw_below_drewN | apply below_drew1 | refine below_set ?_ GE101.out) | exact HB.out)⟩⟩
 case rest =>
  clear HC4
  try clear c1
  try clear p2
  try clear c7
  try clear hcz9_0
  try clear hcz9_1
  try clear hcz9_2
  try clear hcz9_3
  try clear hcz9_4
  try clear hfz9_0
  try clear hfz9_1
  try clear hfz9_2
  try clear hfz9_3
  try clear hfz9_4
  obtain ⟨kq,x14_3,rfl,HA,HJ3,BK101,HB⟩:=hcut
  cases kq with
  | zero => exact absurd HA.out (by simp [mpath_Fits.j0])
  | succ kj3 =>
   have H:=HA.out
   clear HA
   simp only [mpath_Fits.j0] at H
   by_cases c11 : x14_3 = true
   ·subst c11
    rw [if_pos rfl] at H
    obtain rfl:=Option.some.inj H
    go_wp2
    go_ret
    exact ⟨q2_,bh_⟩
   ·replace c11:=Bool.eq_false_iff.mpr c11
    subst c11
    rw [if_neg (show ¬ (false = true) by decide)] at H
    by_cases c12 : t103 = 0
    ·rw [if_pos c12] at H
     have c12b0:=beq_iff_eq.mpr c12
     have c12b1:=bne_eq_false_iff_eq.mpr c12
     clear c12
     obtain rfl:=Option.some.inj H
     have hcz13_0 : wc.cell? ⟨gb101,0,none⟩ = some (.int .i64 a1_0):=(blk_cell BK101.out 0).trans rfl
     have hcz13_1 : wc.cell? ⟨gb101,1,none⟩ = some (.int .i64 a1_1):=(blk_cell BK101.out 1).trans rfl
     have hcz13_2 : wc.cell? ⟨gb101,2,none⟩ = some (.int .i64 a1_2):=(blk_cell BK101.out 2).trans rfl
     have hcz13_3 : wc.cell? ⟨gb101,3,none⟩ = some (.string a1_3):=(blk_cell BK101.out 3).trans rfl
     have hcz13_4 : wc.cell? ⟨gb101,4,none⟩ = some (.string a1_4):=(blk_cell BK101.out 4).trans rfl
     have hfz13_0:=blk_frozen BK101.out 0
     have hfz13_1:=blk_frozen BK101.out 1
     have hfz13_2:=blk_frozen BK101.out 2
     have hfz13_3:=blk_frozen BK101.out 3
     have hfz13_4:=blk_frozen BK101.out 4
     go_wp2
     go_ret
     exact ⟨q2_,bh_⟩
    ·rw [if_neg c12] at H
     have c12b0:=beq_eq_false_iff_ne.mpr c12
     have c12b1:=bne_iff_ne.mpr c12
     obtain rfl:=Option.some.inj H
     have hcz14_0 : wc.cell? ⟨gb101,0,none⟩ = some (.int .i64 a1_0):=(blk_cell BK101.out 0).trans rfl
     have hcz14_1 : wc.cell? ⟨gb101,1,none⟩ = some (.int .i64 a1_1):=(blk_cell BK101.out 1).trans rfl
     have hcz14_2 : wc.cell? ⟨gb101,2,none⟩ = some (.int .i64 a1_2):=(blk_cell BK101.out 2).trans rfl
     have hcz14_3 : wc.cell? ⟨gb101,3,none⟩ = some (.string a1_3):=(blk_cell BK101.out 3).trans rfl
     have hcz14_4 : wc.cell? ⟨gb101,4,none⟩ = some (.string a1_4):=(blk_cell BK101.out 4).trans rfl
     have hfz14_0:=blk_frozen BK101.out 0
     have hfz14_1:=blk_frozen BK101.out 1
     have hfz14_2:=blk_frozen BK101.out 2
     have hfz14_3:=blk_frozen BK101.out 3
     have hfz14_4:=blk_frozen BK101.out 4
     go_wp2
     go_ret
     exact ⟨q2_,bh_⟩
def Rf08_Base.l0 : Nat → ByteArray → Int → Option (ByteArray)
 | 0,_,_ => none
 | k + 1,x0,x3 => if x3 ≥ 0 then (if 0 ≤ x3 then (if x3 < (x0.size : Int) then (if (bt x0 x3) = 47 then (if x3 ≤ (x0.size : Int) then (some (x0.extract 0 (x3 : Int).toNat)) else (none)) else (Rf08_Base.l0 k x0 (wrap64 (x3 - 1)))) else (none)) else (none)) else (some (⟨#[]⟩ : ByteArray))
def Rf08_Base.f (k : Nat) (a0 : ByteArray) : Option (ByteArray):=Rf08_Base.l0 k a0 (wrap64 ((a0.size : Int) - 1))
set_option maxHeartbeats 8000000 in
set_option maxRecDepth 100000 in
theorem Rf08_Base.calls (k : Nat) (a0 : ByteArray) (r : ByteArray) (w : World) (h : Rf08_Base.f k a0 = some r) :
  Calls Tryz.prog 134 #[.string a0] w fun e w' => e = .returned (.string r) ∧ Drawn0 w w':=by
 have H : (Rf08_Base.l0 k a0 (wrap64 ((a0.size : Int) - 1))) = some r:=h
 clear h
 have H':=Aside0.mk H
 clear H
 go_enter Tryz.func134,Tryz.ntmps134
 go_wp2
 go_loopg [3] k (fun kq v3 w' => ∃ (x3_1 : Int),v3 = .int .i64 x3_1 ∧ Aside0 (Rf08_Base.l0 kq a0 x3_1 = some r) ∧ Aside0 (kq ≤ k) ∧ Drawn0 w w')
 case atStart => exact ⟨(wrap64 ((a0.size : Int) - 1)),q12_,H',⟨Nat.le_refl _⟩,by repeat (first | exact Drawn0.refl _ | apply Drawn0.step)⟩
 case round =>
  clear H'
  try clear c1
  obtain ⟨x3_1,rfl,HA,HK1,⟨m1,rfl⟩⟩:=hrel
  cases gk with
  | zero => exact absurd HA.out (by simp [Rf08_Base.l0])
  | succ k1 =>
   have H:=HA.out
   clear HA
   simp only [Rf08_Base.l0] at H
   by_cases c2 : x3_1 ≥ 0
   ·rw [if_pos c2] at H
    have c2b0 : decide (0 ≤ x3_1) = true:=decide_eq_true c2
    clear c2
    by_cases c3 : 0 ≤ x3_1
    ·rw [if_pos c3] at H
     have c3b0:=decide_eq_true c3
     clear c3
     by_cases c4 : x3_1 < (a0.size : Int)
     ·rw [if_pos c4] at H
      have c4b0:=decide_eq_true c4
      clear c4
      by_cases c6 : (bt a0 x3_1) = 47
      ·rw [if_pos c6] at H
       have c6b0:=beq_iff_eq.mpr c6
       have c6b1:=bne_eq_false_iff_eq.mpr c6
       clear c6
       have c7b0:=eq_true (of_decide_eq_true q1_ : 0 ≤ x3_1)
       by_cases c8 : x3_1 ≤ (a0.size : Int)
       ·rw [if_pos c8] at H
        have c8b0:=eq_true c8
        have c8b1:=decide_eq_true c8
        clear c8
        obtain rfl:=Option.some.inj H
        have p5 : 0 ≤ (x3_1 : Int):=of_decide_eq_true q1_
        have q5 : x3_1 < (a0.size : Int):=of_decide_eq_true q1_
        have hx5:=bt_at a0 x3_1
        replace p5:=eq_true p5
        replace q5:=eq_true q5
        go_wp2
        go_ret
        exact ⟨q3_,q4_⟩
       ·rw [if_neg c8] at H
        exact absurd H q25_
      ·rw [if_neg c6] at H
       have c6b0:=beq_eq_false_iff_ne.mpr c6
       have c6b1:=bne_iff_ne.mpr c6
       have H':=Aside0.mk H
       clear H
       have p5 : 0 ≤ (x3_1 : Int):=of_decide_eq_true q1_
       have q5 : x3_1 < (a0.size : Int):=of_decide_eq_true q1_
       have hx5:=bt_at a0 x3_1
       replace p5:=eq_true p5
       replace q5:=eq_true q5
       go_wp2
       go_roundg k1
       case measure => have:=HK1.out;omega
       case rel => exact ⟨(wrap64 (x3_1 - 1)),q12_,H',⟨by have:=HK1.out;omega⟩,by repeat (first | exact Drawn0.refl _ | apply Drawn0.step)⟩
     ·rw [if_neg c4] at H
      exact absurd H q25_
    ·rw [if_neg c3] at H
     exact absurd H q25_
   ·rw [if_neg c2] at H
    have c2b0 : decide (0 ≤ x3_1) = false:=decide_eq_false c2
    clear c2
    obtain rfl:=Option.some.inj H
    go_wp2
    go_ret
    exact ⟨q3_,q4_⟩
def Rf08_Check.l0 : Nat → List ByteArray → Int → Option (Bool)
 | 0,_,_ => none
 | k + 1,x3,x4 => if x4 < (x3.length : Int) then (if 0 ≤ x4 then ((Rf08_tells.f k (rdOf ByteArray.empty x3 x4)).bind fun t106 => (if t106 = true then (if x4 < (wrap64 ((x3.length : Int) - 1)) then (some false) else (if x4 = 0 then (some false) else ((Rf08_number.f k (rdOf ByteArray.empty x3 x4)).bind fun t108 => (if t108 = 0 then (some false) else (Rf08_Check.l0 k x3 (wrap64 (x4 + 1))))))) else (Rf08_Check.l0 k x3 (wrap64 (x4 + 1))))) else (none)) else (some true)
def Rf08_Check.f (k : Nat) (a0 : ByteArray) : Option (Bool):=(Rf05_Path.f k a0).bind fun t101 => (if t101 = true then ((Rf05_Split.f k a0 47).bind fun t102 => (Rf08_Check.l0 k t102 0)) else (some false))
set_option maxHeartbeats 8000000 in
set_option maxRecDepth 100000 in
theorem Rf08_Check.calls (k : Nat) (a0 : ByteArray) (r : Bool) (w : World) (h : Rf08_Check.f k a0 = some r) :
  Calls Tryz.prog 80 #[.string a0] w fun e w' => e = .returned (.bool r) ∧ Below w.heap.size w w':=by
 have HB:=Aside0.mk (Below.refl w.heap.size w)
 have H : ((Rf05_Path.f k a0).bind fun t101 => (if t101 = true then ((Rf05_Split.f k a0 47).bind fun t102 => (Rf08_Check.l0 k t102 0)) else (some false))) = some r:=h
 clear h
 obtain ⟨t101,A20,H⟩:=Option.bind_eq_some_iff.mp H
 have A2:=Aside0.mk A20
 clear A20
 by_cases c3 : t101 = true
 ·subst c3
  rw [if_pos rfl] at H
  obtain ⟨t102,A40,H⟩:=Option.bind_eq_some_iff.mp H
  have A4:=Aside0.mk A40
  clear A40
  have H':=Aside0.mk H
  clear H
  go_enter Tryz.func80,Tryz.ntmps80
  go_wp2_with (first | ((with_reducible refine gate_callee (f:=115) rfl ?_);refine gl_ 6 Tryz.func115 #[.string a0] ?_;(with_reducible refine (Rf05_Path.calls k a0 true _ A2.out).mono ?_);rintro e w5 ⟨rfl,hb⟩;refine ⟨_,rfl,?_⟩;replace HB:=Aside0.mk (below_step bh_ hb);(try clear hb)) | ((with_reducible refine gate_callee (f:=98) rfl ?_);refine gl_ 9 Tryz.func98 #[.string a0,.int .u8 47] ?_;(with_reducible refine (Rf05_Split.calls k a0 47 t102 _ A4.out).mono ?_);rintro e w6 ⟨v103,rfl,ho0,hb⟩;refine ⟨_,rfl,?_⟩;have HO104:=Aside0.mk (Kd.R_lower ho0 (below_size bh_));replace HB:=Aside0.mk (below_step bh_ hb);(try clear hb);(try clear ho0)))
  go_loopg [4] k (fun kq v4 w' => ∃ (x4_1 : Int),v4 = .int .i64 x4_1 ∧ Aside0 (Rf08_Check.l0 kq t102 x4_1 = some r) ∧ Aside0 (kq ≤ k) ∧ Aside0 (Kd.R Kd.string 9 w' w.heap.size (fun _ => True) v103 t102) ∧ Aside0 (Below w.heap.size w w'))
  case atStart => exact ⟨(0),q12_,H',⟨Nat.le_refl _⟩,⟨by (with_reducible repeat (first | apply Kd.R_alloc | apply Kd.R_drewN | apply Kd.R_drew));exact HO104.out⟩,⟨by repeat (first | (with_reducible first | exact HB.out | apply below_alloc | apply pw_below_drewN | apply below_drew1) | exact HB.out)⟩⟩
  case round =>
   clear H'
   try clear c1
   try clear p2
   try clear c3
   obtain ⟨x4_1,rfl,HA,HK1,HO_3,HB⟩:=hrel
   cases gk with
   | zero => exact absurd HA.out (by simp [Rf08_Check.l0])
   | succ k1 =>
    have H:=HA.out
    clear HA
    simp only [Rf08_Check.l0] at H
    by_cases c7 : x4_1 < (t102.length : Int)
    ·rw [if_pos c7] at H
     have c7b0:=decide_eq_true c7
     clear c7
     by_cases c8 : 0 ≤ x4_1
     ·rw [if_pos c8] at H
      have c8b0:=decide_eq_true c8
      clear c8
      obtain ⟨t106,A90,H⟩:=Option.bind_eq_some_iff.mp H
      have A9:=Aside0.mk A90
      clear A90
      by_cases c10 : t106 = true
      ·subst c10
       rw [if_pos rfl] at H
       by_cases c11 : x4_1 < (wrap64 ((t102.length : Int) - 1))
       ·rw [if_pos c11] at H
        have c11b0:=decide_eq_true c11
        clear c11
        obtain rfl:=Option.some.inj H
        obtain ⟨Ao12,co12,eo12⟩:=Kd.R_slice HO_3.out
        subst eo12
        have p105 : 0 ≤ (x4_1 : Int):=of_decide_eq_true q1_
        have q105 : x4_1 < (t102.length : Int):=of_decide_eq_true q1_
        obtain ⟨ad105,e105,hx105_0⟩:=Kd.at_string (Kd.R_reads' HO_3.out).2.2 x4_1 p105 q105
        cases e105
        replace p105:=eq_true p105
        replace q105:=eq_true q105
        go_wp2_with (first | ((with_reducible refine gate_callee (f:=116) rfl ?_);refine gl_ 20 Tryz.func116 #[.string (rdOf ByteArray.empty t102 x4_1)] ?_;(with_reducible refine (Rf08_tells.calls k1 (rdOf ByteArray.empty t102 x4_1) true _ A9.out).mono ?_);rintro e w' ⟨rfl,⟨nd,rfl⟩⟩;refine ⟨_,rfl,?_⟩))
        go_ret
        exact ⟨q2_,bh_⟩
       ·rw [if_neg c11] at H
        have c11b0:=decide_eq_false c11
        clear c11
        by_cases c13 : x4_1 = 0
        ·rw [if_pos c13] at H
         have c13b0:=beq_iff_eq.mpr c13
         have c13b1:=bne_eq_false_iff_eq.mpr c13
         clear c13
         obtain rfl:=Option.some.inj H
         obtain ⟨Ao14,co14,eo14⟩:=Kd.R_slice HO_3.out
         subst eo14
         have p105 : 0 ≤ (x4_1 : Int):=of_decide_eq_true q1_
         have q105 : x4_1 < (t102.length : Int):=of_decide_eq_true q1_
         obtain ⟨ad105,e105,hx105_0⟩:=Kd.at_string (Kd.R_reads' HO_3.out).2.2 x4_1 p105 q105
         cases e105
         replace p105:=eq_true p105
         replace q105:=eq_true q105
         go_wp2_with (first | ((with_reducible refine gate_callee (f:=116) rfl ?_);refine gl_ 20 Tryz.func116 #[.string (rdOf ByteArray.empty t102 x4_1)] ?_;(with_reducible refine (Rf08_tells.calls k1 (rdOf ByteArray.empty t102 x4_1) true _ A9.out).mono ?_);rintro e w' ⟨rfl,⟨nd,rfl⟩⟩;refine ⟨_,rfl,?_⟩))
         go_ret
         exact ⟨q2_,bh_⟩
        ·rw [if_neg c13] at H
         have c13b0:=beq_eq_false_iff_ne.mpr c13
         have c13b1:=bne_iff_ne.mpr c13
         obtain ⟨t108,A150,H⟩:=Option.bind_eq_some_iff.mp H
         have A15:=Aside0.mk A150
         clear A150
         by_cases c16 : t108 = 0
         ·rw [if_pos c16] at H
          have c16b0:=beq_iff_eq.mpr c16
          have c16b1:=bne_eq_false_iff_eq.mpr c16
          clear c16
          obtain rfl:=Option.some.inj H
          obtain ⟨Ao17,co17,eo17⟩:=Kd.R_slice HO_3.out
          subst eo17
          have p105 : 0 ≤ (x4_1 : Int):=of_decide_eq_true q1_
          have q105 : x4_1 < (t102.length : Int):=of_decide_eq_true q1_
          obtain ⟨ad105,e105,hx105_0⟩:=Kd.at_string (Kd.R_reads' HO_3.out).2.2 x4_1 p105 q105
          cases e105
          replace p105:=eq_true p105
          replace q105:=eq_true q105
          go_wp2_with (first | ((with_reducible refine gate_callee (f:=116) rfl ?_);refine gl_ 20 Tryz.func116 #[.string (rdOf ByteArray.empty t102 x4_1)] ?_;(with_reducible refine (Rf08_tells.calls k1 (rdOf ByteArray.empty t102 x4_1) true _ A9.out).mono ?_);rintro e w' ⟨rfl,⟨nd,rfl⟩⟩;refine ⟨_,rfl,?_⟩;have p107 : 0 ≤ (x4_1 : Int):=of_decide_eq_true q1_;have q107 : x4_1 < (t102.length : Int):=of_decide_eq_true q1_;obtain ⟨ad107,e107,hx107_0⟩:=Kd.at_string (Kd.R_reads' HO_3.out).2.2 x4_1 p107 q107;obtain rfl : ad105 = ad107:=(by injection e107);replace p107:=eq_true p107;replace q107:=eq_true q107) | (go_at_call 117;(with_reducible refine (Rf08_number.calls k1 (rdOf ByteArray.empty t102 x4_1) t108 _ A15.out).mono ?_);rintro e w' ⟨rfl,⟨nd,rfl⟩⟩))
          go_ret
          exact ⟨q2_,bh_⟩
         ·rw [if_neg c16] at H
          have c16b0:=beq_eq_false_iff_ne.mpr c16
          have c16b1:=bne_iff_ne.mpr c16
          have H':=Aside0.mk H
          clear H
          obtain ⟨Ao18,co18,eo18⟩:=Kd.R_slice HO_3.out
          subst eo18
          have p105 : 0 ≤ (x4_1 : Int):=of_decide_eq_true q1_
          have q105 : x4_1 < (t102.length : Int):=of_decide_eq_true q1_
          obtain ⟨ad105,e105,hx105_0⟩:=Kd.at_string (Kd.R_reads' HO_3.out).2.2 x4_1 p105 q105
          cases e105
          replace p105:=eq_true p105
          replace q105:=eq_true q105
          go_wp2_with (first | ((with_reducible refine gate_callee (f:=116) rfl ?_);refine gl_ 20 Tryz.func116 #[.string (rdOf ByteArray.empty t102 x4_1)] ?_;(with_reducible refine (Rf08_tells.calls k1 (rdOf ByteArray.empty t102 x4_1) true _ A9.out).mono ?_);rintro e w' ⟨rfl,⟨nd,rfl⟩⟩;refine ⟨_,rfl,?_⟩;have p107 : 0 ≤ (x4_1 : Int):=of_decide_eq_true q1_;have q107 : x4_1 < (t102.length : Int):=of_decide_eq_true q1_;obtain ⟨ad107,e107,hx107_0⟩:=Kd.at_string (Kd.R_reads' HO_3.out).2.2 x4_1 p107 q107;obtain rfl : ad105 = ad107:=(by injection e107);replace p107:=eq_true p107;replace q107:=eq_true q107) | (go_at_call 117;(with_reducible refine (Rf08_number.calls k1 (rdOf ByteArray.empty t102 x4_1) t108 _ A15.out).mono ?_);rintro e w' ⟨rfl,⟨nd,rfl⟩⟩))
          go_roundg k1
          case measure => have:=HK1.out;omega
          case rel => exact ⟨(wrap64 (x4_1 + 1)),q12_,H',⟨by have:=HK1.out;omega⟩,⟨by (with_reducible repeat (first | apply Kd.R_alloc | apply Kd.R_drewN | apply Kd.R_drew));exact HO_3.out⟩,⟨by repeat (first | (with_reducible first | exact HB.out | apply below_alloc | apply pw_below_drewN | apply below_drew1) | exact HB.out)⟩⟩
      ·replace c10:=Bool.eq_false_iff.mpr c10
       subst c10
       rw [if_neg (show ¬ (false = true) by decide)] at H
       have H':=Aside0.mk H
       clear H
       obtain ⟨Ao19,co19,eo19⟩:=Kd.R_slice HO_3.out
       subst eo19
       have p105 : 0 ≤ (x4_1 : Int):=of_decide_eq_true q1_
       have q105 : x4_1 < (t102.length : Int):=of_decide_eq_true q1_
       obtain ⟨ad105,e105,hx105_0⟩:=Kd.at_string (Kd.R_reads' HO_3.out).2.2 x4_1 p105 q105
       cases e105
       replace p105:=eq_true p105
       replace q105:=eq_true q105
       go_wp2_with (first | ((with_reducible refine gate_callee (f:=116) rfl ?_);refine gl_ 20 Tryz.func116 #[.string (rdOf ByteArray.empty t102 x4_1)] ?_;(with_reducible refine (Rf08_tells.calls k1 (rdOf ByteArray.empty t102 x4_1) false _ A9.out).mono ?_);rintro e w' ⟨rfl,⟨nd,rfl⟩⟩;refine ⟨_,rfl,?_⟩))
       go_roundg k1
       case measure => have:=HK1.out;omega
       case rel => exact ⟨(wrap64 (x4_1 + 1)),q12_,H',⟨by have:=HK1.out;omega⟩,⟨by (with_reducible repeat (first | apply Kd.R_alloc | apply Kd.R_drewN | apply Kd.R_drew));exact HO_3.out⟩,⟨by repeat (first | (with_reducible first | exact HB.out | apply below_alloc | apply pw_below_drewN | apply below_drew1) | exact HB.out)⟩⟩
     ·rw [if_neg c8] at H
      exact absurd H q25_
    ·rw [if_neg c7] at H
     have c7b0:=decide_eq_false c7
     clear c7
     obtain rfl:=Option.some.inj H
     obtain ⟨Ao20,co20,eo20⟩:=Kd.R_slice HO_3.out
     subst eo20
     go_wp2
     go_ret
     exact ⟨q2_,bh_⟩
 ·replace c3:=Bool.eq_false_iff.mpr c3
  subst c3
  rw [if_neg (show ¬ (false = true) by decide)] at H
  obtain rfl:=Option.some.inj H
  go_enter Tryz.func80,Tryz.ntmps80
  go_wp2_with (first | ((with_reducible refine gate_callee (f:=115) rfl ?_);refine gl_ 6 Tryz.func115 #[.string a0] ?_;(with_reducible refine (Rf05_Path.calls k a0 false _ A2.out).mono ?_);rintro e w21 ⟨rfl,hb⟩;refine ⟨_,rfl,?_⟩;replace HB:=Aside0.mk (below_step bh_ hb);(try clear hb)))
  go_ret
  exact ⟨q2_,bh_⟩
def Rf08_Major.f (k : Nat) (a0 : ByteArray) : Option (ByteArray × Int × Bool):=(Rf08_Check.f k a0).bind fun t101 => (if t101 = true then ((Rf05_Split.f k a0 47).bind fun t102 => (if 0 ≤ (wrap64 ((t102.length : Int) - 1)) then (if (wrap64 ((t102.length : Int) - 1)) < (t102.length : Int) then ((Rf08_tells.f k (rdOf ByteArray.empty t102 (wrap64 ((t102.length : Int) - 1)))).bind fun t106 => (if t106 = true then ((Rf08_Base.f k a0).bind fun t107 => ((Rf08_number.f k (rdOf ByteArray.empty t102 (wrap64 ((t102.length : Int) - 1)))).bind fun t108 => (some (t107,t108,true)))) else (some (a0,0,true)))) else (none)) else (none))) else (some ((⟨#[]⟩ : ByteArray),0,false)))
set_option maxHeartbeats 8000000 in
set_option maxRecDepth 100000 in
theorem Rf08_Major.calls (k : Nat) (a0 : ByteArray) (r1 : ByteArray) (r2 : Int) (r3 : Bool) (w : World) (h : Rf08_Major.f k a0 = some (r1,r2,r3)) :
  Calls Tryz.prog 94 #[.string a0] w fun e w' => e = .returned (.tuple #[.string r1,.int .i64 r2,.bool r3]) ∧ Below w.heap.size w w':=by
 have HB:=Aside0.mk (Below.refl w.heap.size w)
 have H : ((Rf08_Check.f k a0).bind fun t101 => (if t101 = true then ((Rf05_Split.f k a0 47).bind fun t102 => (if 0 ≤ (wrap64 ((t102.length : Int) - 1)) then (if (wrap64 ((t102.length : Int) - 1)) < (t102.length : Int) then ((Rf08_tells.f k (rdOf ByteArray.empty t102 (wrap64 ((t102.length : Int) - 1)))).bind fun t106 => (if t106 = true then ((Rf08_Base.f k a0).bind fun t107 => ((Rf08_number.f k (rdOf ByteArray.empty t102 (wrap64 ((t102.length : Int) - 1)))).bind fun t108 => (some (t107,t108,true)))) else (some (a0,0,true)))) else (none)) else (none))) else (some ((⟨#[]⟩ : ByteArray),0,false)))) = some (r1,r2,r3):=h
 clear h
 obtain ⟨t101,A20,H⟩:=Option.bind_eq_some_iff.mp H
 replace H : (if t101 = true then ((Rf05_Split.f k a0 47).bind fun t102 => (if 0 ≤ (wrap64 ((t102.length : Int) - 1)) then (if (wrap64 ((t102.length : Int) - 1)) < (t102.length : Int) then ((Rf08_tells.f k (rdOf ByteArray.empty t102 (wrap64 ((t102.length : Int) - 1)))).bind fun t106 => (if t106 = true then ((Rf08_Base.f k a0).bind fun t107 => ((Rf08_number.f k (rdOf ByteArray.empty t102 (wrap64 ((t102.length : Int) - 1)))).bind fun t108 => (some (t107,t108,true)))) else (some (a0,0,true)))) else (none)) else (none))) else (some ((⟨#[]⟩ : ByteArray),0,false))) = some (r1,r2,r3):=H
 have A2:=Aside0.mk A20
 clear A20
 by_cases c3 : t101 = true
 ·subst c3
  rw [if_pos rfl] at H
  obtain ⟨t102,A40,H⟩:=Option.bind_eq_some_iff.mp H
  replace H : (if 0 ≤ (wrap64 ((t102.length : Int) - 1)) then (if (wrap64 ((t102.length : Int) - 1)) < (t102.length : Int) then ((Rf08_tells.f k (rdOf ByteArray.empty t102 (wrap64 ((t102.length : Int) - 1)))).bind fun t106 => (if t106 = true then ((Rf08_Base.f k a0).bind fun t107 => ((Rf08_number.f k (rdOf ByteArray.empty t102 (wrap64 ((t102.length : Int) - 1)))).bind fun t108 => (some (t107,t108,true)))) else (some (a0,0,true)))) else (none)) else (none)) = some (r1,r2,r3):=H
  have A4:=Aside0.mk A40
  clear A40
  obtain ⟨ji5,hji5⟩ : ∃ j_ : Int,(wrap64 ((t102.length : Int) - 1)) = j_:=⟨_,rfl⟩
  replace H : (if 0 ≤ (ji5) then (if (ji5) < (t102.length : Int) then ((Rf08_tells.f k (rdOf ByteArray.empty t102 (ji5))).bind fun t106 => (if t106 = true then ((Rf08_Base.f k a0).bind fun t107 => ((Rf08_number.f k (rdOf ByteArray.empty t102 (ji5))).bind fun t108 => (some (t107,t108,true)))) else (some (a0,0,true)))) else (none)) else (none)) = some (r1,r2,r3):=by first | (rw [hji5] at H;exact H) | (simp only [hji5] at H ⊢;exact H)
  (try rw [hji5] at A2)
  (try rw [hji5] at A4)
  have hji5w : (IntKind.i64.wrap ((t102.length : Int) - 1)) = ji5:=(i64_w _).trans hji5
  by_cases c6 : 0 ≤ (ji5)
  ·rw [if_pos c6] at H
   have c6b0:=decide_eq_true c6
   clear c6
   by_cases c7 : (ji5) < (t102.length : Int)
   ·rw [if_pos c7] at H
    have c7b0:=decide_eq_true c7
    clear c7
    obtain ⟨t106,A80,H⟩:=Option.bind_eq_some_iff.mp H
    replace H : (if t106 = true then ((Rf08_Base.f k a0).bind fun t107 => ((Rf08_number.f k (rdOf ByteArray.empty t102 (ji5))).bind fun t108 => (some (t107,t108,true)))) else (some (a0,0,true))) = some (r1,r2,r3):=H
    have A8:=Aside0.mk A80
    clear A80
    by_cases c9 : t106 = true
    ·subst c9
     rw [if_pos rfl] at H
     obtain ⟨t107,A100,H⟩:=Option.bind_eq_some_iff.mp H
     replace H : ((Rf08_number.f k (rdOf ByteArray.empty t102 (ji5))).bind fun t108 => (some (t107,t108,true))) = some (r1,r2,r3):=H
     have A10:=Aside0.mk A100
     clear A100
     obtain ⟨t108,A110,H⟩:=Option.bind_eq_some_iff.mp H
     replace H : (some (t107,t108,true)) = some (r1,r2,r3):=H
     have A11:=Aside0.mk A110
     clear A110
     simp only [Option.some.injEq,Prod.mk.injEq] at H
     obtain ⟨rfl,rfl,rfl⟩:=H
     go_enter Tryz.func94,Tryz.ntmps94
     go_wp2_with (first | ((with_reducible refine gate_callee (f:=80) rfl ?_);refine gl_ 8 Tryz.func80 #[.string a0] ?_;(with_reducible refine (Rf08_Check.calls k a0 true _ A2.out).mono ?_);rintro e w12 ⟨rfl,hb⟩;refine ⟨_,rfl,?_⟩;replace HB:=Aside0.mk (below_step bh_ hb);(try clear hb)) | ((with_reducible refine gate_callee (f:=98) rfl ?_);refine gl_ 11 Tryz.func98 #[.string a0,.int .u8 47] ?_;(with_reducible refine (Rf05_Split.calls k a0 47 t102 _ A4.out).mono ?_);rintro e w13 ⟨v103,rfl,ho0,hb⟩;refine ⟨_,rfl,?_⟩;have HO104:=Aside0.mk (Kd.R_lower ho0 (below_size bh_));replace HB:=Aside0.mk (below_step bh_ hb);(try clear hb);(try clear ho0);obtain ⟨Ao14,co14,eo14⟩:=Kd.R_slice HO104.out;subst eo14;have p105 : 0 ≤ ((ji5) : Int):=of_decide_eq_true q1_;have q105 : (ji5) < (t102.length : Int):=of_decide_eq_true q1_;obtain ⟨ad105,e105,hx105_0⟩:=Kd.at_string (Kd.R_reads' HO104.out).2.2 (ji5) p105 q105;cases e105;replace p105:=eq_true p105;replace q105:=eq_true q105) | ((with_reducible refine gate_callee (f:=116) rfl ?_);refine goesL_ (some 19) rfl rfl Tryz.func116 q9_ rfl #[.string (rdOf ByteArray.empty t102 (ji5))] rfl q45_ ?_;(with_reducible refine (Rf08_tells.calls k (rdOf ByteArray.empty t102 (ji5)) true _ A8.out).mono ?_);rintro e w' ⟨rfl,⟨nd,rfl⟩⟩;refine ⟨_,rfl,?_⟩) | ((with_reducible refine gate_callee (f:=134) rfl ?_);refine gl_ 23 Tryz.func134 #[.string a0] ?_;(with_reducible refine (Rf08_Base.calls k a0 t107 _ A10.out).mono ?_);rintro e w' ⟨rfl,⟨nd,rfl⟩⟩;refine ⟨_,rfl,?_⟩) | ((with_reducible refine gate_callee (f:=117) rfl ?_);refine goesL_ (some 25) rfl rfl Tryz.func117 q9_ rfl #[.string (rdOf ByteArray.empty t102 (ji5))] rfl q45_ ?_;(with_reducible refine (Rf08_number.calls k (rdOf ByteArray.empty t102 (ji5)) t108 _ A11.out).mono ?_);rintro e w' ⟨rfl,⟨nd,rfl⟩⟩;refine ⟨_,rfl,?_⟩))
     go_ret3
     exact ⟨q53_,bh_⟩
    ·replace c9:=Bool.eq_false_iff.mpr c9
     subst c9
     rw [if_neg (show ¬ (false = true) by decide)] at H
     simp only [Option.some.injEq,Prod.mk.injEq] at H
     obtain ⟨rfl,rfl,rfl⟩:=H
     go_enter Tryz.func94,Tryz.ntmps94
     go_wp2_with (first | ((with_reducible refine gate_callee (f:=80) rfl ?_);refine gl_ 8 Tryz.func80 #[.string a0] ?_;(with_reducible refine (Rf08_Check.calls k a0 true _ A2.out).mono ?_);rintro e w15 ⟨rfl,hb⟩;refine ⟨_,rfl,?_⟩;replace HB:=Aside0.mk (below_step bh_ hb);(try clear hb)) | ((with_reducible refine gate_callee (f:=98) rfl ?_);refine gl_ 11 Tryz.func98 #[.string a0,.int .u8 47] ?_;(with_reducible refine (Rf05_Split.calls k a0 47 t102 _ A4.out).mono ?_);rintro e w16 ⟨v103,rfl,ho0,hb⟩;refine ⟨_,rfl,?_⟩;have HO104:=Aside0.mk (Kd.R_lower ho0 (below_size bh_));replace HB:=Aside0.mk (below_step bh_ hb);(try clear hb);(try clear ho0);obtain ⟨Ao17,co17,eo17⟩:=Kd.R_slice HO104.out;subst eo17;have p105 : 0 ≤ ((ji5) : Int):=of_decide_eq_true q1_;have q105 : (ji5) < (t102.length : Int):=of_decide_eq_true q1_;obtain ⟨ad105,e105,hx105_0⟩:=Kd.at_string (Kd.R_reads' HO104.out).2.2 (ji5) p105 q105;cases e105;replace p105:=eq_true p105;replace q105:=eq_true q105) | ((with_reducible refine gate_callee (f:=116) rfl ?_);refine goesL_ (some 19) rfl rfl Tryz.func116 q9_ rfl #[.string (rdOf ByteArray.empty t102 (ji5))] rfl q45_ ?_;(with_reducible refine (Rf08_tells.calls k (rdOf ByteArray.empty t102 (ji5)) false _ A8.out).mono ?_);rintro e w' ⟨rfl,⟨nd,rfl⟩⟩;refine ⟨_,rfl,?_⟩))
     go_ret3
     exact ⟨q53_,bh_⟩
   ·rw [if_neg c7] at H
    exact absurd H q25_
  ·rw [if_neg c6] at H
   exact absurd H q25_
 ·replace c3:=Bool.eq_false_iff.mpr c3
  subst c3
  rw [if_neg (show ¬ (false = true) by decide)] at H
  simp only [Option.some.injEq,Prod.mk.injEq] at H
  obtain ⟨rfl,rfl,rfl⟩:=H
  go_enter Tryz.func94,Tryz.ntmps94
  go_wp2_with (first | ((with_reducible refine gate_callee (f:=80) rfl ?_);refine gl_ 8 Tryz.func80 #[.string a0] ?_;(with_reducible refine (Rf08_Check.calls k a0 false _ A2.out).mono ?_);rintro e w18 ⟨rfl,hb⟩;refine ⟨_,rfl,?_⟩;replace HB:=Aside0.mk (below_step bh_ hb);(try clear hb)))
  go_ret3
  exact ⟨q2_,bh_⟩
end Go.Proofs.YtennhpoemdaghaaGreatDoor.P
end
