import Derived.Test.YtaagocopollacaaGreatDoorPslB
import Derived.Test.YtaagocopollacaaGreatDoorProg
import Derived.RangeFuncNested
import Derived.MapKept
import Derived.Laws.Strings
import Derived.ProofKit
import Derived.SizedLaws
import Derived.ChangeSame
import Derived.JoinedOf
import Derived.Laws.LoneSync
import Derived.Laws.BytesString
set_option maxRecDepth 100000
set_option maxHeartbeats 4000000
namespace Go.Proofs.YtaagocopollacaaGreatDoor
open Go aw Go.Proofs
abbrev bg:Ty:=⟨1,8,[.nilFunc],.one⟩
abbrev ag0:Ty:=⟨1,8,[.int .i64 0],.int .i64⟩
abbrev abx:Ty:=⟨1,1,[.int .u8 0],.int .u8⟩
abbrev alh:Ty:=⟨4,24,[.int .i64 0,.int .i64 0,.bool false,.int .u8 0],.struct [(0,2),(1,3),(2,4),(3,6)]⟩
abbrev ag1:Ty:=⟨1,16,[.string ByteArray.empty],.str⟩
abbrev ag2:Ty:=⟨1,8,[.int .u64 0],.int .u64⟩
abbrev ali:Ty:=⟨2,24,[.string ByteArray.empty,.int .u64 0],.struct [(0,9),(1,12)]⟩
abbrev mD:Ty:=⟨1,8,[.pointer none],.one⟩
abbrev alj:Ty:=⟨1,8,[.pointer none],.struct [(0,17)]⟩
abbrev ag3:Ty:=⟨1,16,[.nilIface],.one⟩
abbrev Xc:Ty:=⟨1,4,[.int .i32 0],.int .i32⟩
abbrev aeu:Ty:=⟨1,24,[.slice none 0 0],.struct [(0,22)]⟩
abbrev aev:Ty:=⟨4,56,[.int .i64 0,.string ByteArray.empty,.int .i64 0,.slice none 0 0],.struct [(0,3),(1,9),(2,3),(3,25)]⟩
abbrev aew:Ty:=⟨6,88,[.int .i64 0,.string ByteArray.empty,.int .i64 0,.slice none 0 0,.slice none 0 0,.int .i64 0],.struct [(0,27),(4,28),(5,3)]⟩
abbrev aex:Ty:=⟨4,56,[.int .i64 0,.string ByteArray.empty,.slice none 0 0,.int .i64 0],.struct [(0,3),(1,9),(2,25),(3,34)]⟩
abbrev JR:Ty:=⟨0,0,[],.struct []⟩
abbrev aey:Ty:=⟨12,168,[.slice none 0 0,.pointer none,.int .i64 0,.string ByteArray.empty,.int .i64 0,.slice none 0 0,.int .i64 0,.slice none 0 0,.pointer none,.int .i64 0,.int .i64 0,.slice none 0 0],.struct [(0,24),(1,49),(2,27),(6,3),(7,51),(8,52),(9,2),(10,57),(11,33)]⟩
abbrev aez:Ty:=⟨5,80,[.int .i64 0,.string ByteArray.empty,.int .i64 0,.slice none 0 0,.slice none 0 0],.struct [(0,27),(4,44)]⟩
abbrev Qs:Ty:=⟨2,24,[.string ByteArray.empty,.int .i64 0],.struct [(0,9),(1,3)]⟩
abbrev aeA:Ty:=⟨2,32,[.map none,.slice none 0 0],.struct [(0,82),(1,79)]⟩
abbrev aeB:Ty:=⟨8,136,[.int .i64 0,.int .i64 0,.string ByteArray.empty,.int .i64 0,.slice none 0 0,.slice none 0 0,.slice none 0 0,.slice none 0 0],.struct [(0,3),(1,27),(5,28),(6,28),(7,28)]⟩
abbrev aeC:Ty:=⟨11,160,[.int .i64 0,.int .i64 0,.string ByteArray.empty,.int .i64 0,.slice none 0 0,.slice none 0 0,.slice none 0 0,.slice none 0 0,.int .i64 0,.int .i64 0,.pointer none],.struct [(0,86),(8,3),(9,3),(10,52)]⟩
abbrev aeD:Ty:=⟨9,96,[.int .i64 0,.int .i64 0,.int .i64 0,.string ByteArray.empty,.int .i64 0,.slice none 0 0,.int .i64 0,.pointer none,.bool false],.struct [(0,3),(1,3),(2,27),(6,3),(7,52),(8,4)]⟩
abbrev aeE:Ty:=⟨2,8,[.int .i32 0,.int .u32 0],.struct [(0,21),(1,105)]⟩
abbrev aeF:Ty:=⟨4,24,[.int .u32 0,.int .i32 0,.int .u32 0,.map none],.struct [(0,113),(3,114)]⟩
abbrev aeG:Ty:=⟨11,120,[.string ByteArray.empty,.slice none 0 0,.int .i64 0,.slice none 0 0,.int .i64 0,.int .i64 0,.int .i64 0,.int .u32 0,.int .i32 0,.int .u32 0,.map none],.struct [(0,9),(1,100),(2,3),(3,44),(4,3),(5,3),(6,34),(7,116)]⟩
abbrev aeH:Ty:=⟨5,48,[.int .i64 0,.string ByteArray.empty,.int .i64 0,.int .i64 0,.bool false],.struct [(0,3),(1,9),(2,3),(3,3),(4,4)]⟩
abbrev aeI:Ty:=⟨2,16,[.int .i64 0,.int .i64 0],.struct [(0,3),(1,34)]⟩
abbrev aeJ:Ty:=⟨2,16,[.int .i64 0,.int .i64 0],.struct [(0,3),(1,3)]⟩
abbrev aeK:Ty:=⟨3,24,[.int .i64 0,.int .i64 0,.int .i64 0],.struct [(0,3),(1,3),(2,3)]⟩
abbrev aeL:Ty:=⟨5,64,[.bool false,.slice none 0 0,.bool false,.string ByteArray.empty,.int .i64 0],.struct [(0,4),(1,25),(2,4),(3,9),(4,3)]⟩
abbrev aeM:Ty:=⟨5,64,[.int .i64 0,.int .i64 0,.string ByteArray.empty,.int .i64 0,.slice none 0 0],.struct [(0,3),(1,27)]⟩
abbrev aeN:Ty:=⟨7,96,[.slice none 0 0,.bool false,.slice none 0 0,.bool false,.string ByteArray.empty,.int .i64 0,.int .i64 0],.struct [(0,25),(1,178),(6,34)]⟩
abbrev aeO:Ty:=⟨2,32,[.pointer none,.slice none 0 0],.struct [(0,245),(1,215)]⟩
abbrev aeP:Ty:=⟨2,32,[.pointer none,.slice none 0 0],.struct [(0,247)]⟩
abbrev aeQ:Ty:=⟨2,2,[.int .u8 0,.int .u8 0],.struct [(0,5),(1,5)]⟩
abbrev aeR:Ty:=⟨4,40,[.pointer none,.pointer none,.pointer none,.string ByteArray.empty],.struct [(0,17),(1,17),(2,17),(3,9)]⟩
abbrev aeS:Ty:=⟨11,48,[.int .u64 0,.int .u64 0,.int .u32 0,.int .u8 0,.int .u8 0,.int .u8 0,.int .u8 0,.nilFunc,.pointer none,.int .i32 0,.int .i32 0],.struct [(0,12),(1,12),(2,105),(3,312),(4,5),(5,5),(6,313),(7,314),(8,262),(9,315),(10,316)]⟩
def tyT:TT:=(.node 162 (.node 79 (.node 36 (.node 18 (.node 9 (.node 5 (.node 3 (.node 2 (.node 1 .aA bg .aA) ag0 .aA) ag0 (.node 4 .aA ⟨1,1,[.bool false],.bool⟩ .aA)) abx (.node 7 (.node 6 .aA abx .aA) alh (.node 8 .aA alh .aA))) ag1 (.node 14 (.node 12 (.node 11 (.node 10 .aA ag1 .aA) ag1 .aA) ag2 (.node 13 .aA ali .aA)) ali (.node 16 (.node 15 .aA mD .aA) mD (.node 17 .aA mD .aA)))) alj (.node 27 (.node 23 (.node 21 (.node 20 (.node 19 .aA alj .aA) ag3 .aA) Xc (.node 22 .aA ⟨1,24,[.slice none 0 0],.slice 30⟩ .aA)) aeu (.node 25 (.node 24 .aA aeu .aA) ⟨1,24,[.slice none 0 0],.slice 27⟩ (.node 26 .aA aev .aA))) aev (.node 31 (.node 29 (.node 28 .aA ⟨1,24,[.slice none 0 0],.slice 86⟩ .aA) aew (.node 30 .aA aew .aA)) bg (.node 33 (.node 32 .aA bg .aA) ⟨1,24,[.slice none 0 0],.slice 38⟩ (.node 34 .aA ag0 .aA))))) bg (.node 58 (.node 47 (.node 41 (.node 39 (.node 38 (.node 37 .aA aex .aA) aex .aA) bg (.node 40 .aA bg .aA)) bg (.node 44 (.node 43 .aA bg .aA) ⟨1,24,[.slice none 0 0],.slice 9⟩ (.node 46 .aA bg .aA))) bg (.node 52 (.node 50 (.node 49 (.node 48 .aA mD .aA) mD .aA) bg (.node 51 .aA ⟨1,24,[.slice none 0 0],.slice 98⟩ .aA)) mD (.node 54 (.node 53 .aA JR .aA) JR (.node 55 .aA JR .aA)))) aey (.node 68 (.node 63 (.node 61 (.node 60 (.node 59 .aA aey .aA) bg .aA) bg (.node 62 .aA bg .aA)) ⟨1,24,[.slice none 0 0],.slice 67⟩ (.node 66 (.node 65 .aA bg .aA) aez (.node 67 .aA aez .aA))) Qs (.node 73 (.node 70 (.node 69 .aA Qs .aA) bg (.node 72 .aA bg .aA)) bg (.node 77 (.node 75 .aA bg .aA) bg (.node 78 .aA bg .aA)))))) ⟨1,24,[.slice none 0 0],.slice 3⟩ (.node 122 (.node 98 (.node 88 (.node 84 (.node 82 (.node 81 (.node 80 .aA bg .aA) bg .aA) ⟨1,8,[.map none],.map 3 27⟩ (.node 83 .aA aeA .aA)) aeA (.node 86 (.node 85 .aA aeB .aA) aeB (.node 87 .aA aeC .aA))) aeC (.node 94 (.node 92 (.node 91 (.node 90 .aA bg .aA) bg .aA) bg (.node 93 .aA bg .aA)) bg (.node 96 (.node 95 .aA bg .aA) bg (.node 97 .aA aeD .aA)))) aeD (.node 114 (.node 104 (.node 102 (.node 100 (.node 99 .aA bg .aA) ⟨1,24,[.slice none 0 0],.slice 121⟩ .aA) bg (.node 103 .aA mD .aA)) JR (.node 108 (.node 105 .aA ⟨1,4,[.int .u32 0],.int .u32⟩ .aA) aeE (.node 109 .aA aeE .aA))) ⟨1,8,[.map none],.map 9 162⟩ (.node 118 (.node 116 (.node 115 .aA aeF .aA) aeF (.node 117 .aA aeG .aA)) aeG (.node 120 (.node 119 .aA bg .aA) aeH (.node 121 .aA aeH .aA))))) bg (.node 141 (.node 131 (.node 127 (.node 125 (.node 124 (.node 123 .aA bg .aA) mD .aA) aeI (.node 126 .aA aeI .aA)) bg (.node 129 (.node 128 .aA bg .aA) ⟨1,8,[.map none],.map 69 4⟩ (.node 130 .aA bg .aA))) bg (.node 136 (.node 134 (.node 133 (.node 132 .aA bg .aA) bg .aA) ⟨1,8,[.map none],.map 3 4⟩ (.node 135 .aA mD .aA)) aeJ (.node 138 (.node 137 .aA aeJ .aA) bg (.node 139 .aA bg .aA)))) bg (.node 152 (.node 147 (.node 145 (.node 143 (.node 142 .aA bg .aA) bg .aA) bg (.node 146 .aA mD .aA)) bg (.node 149 (.node 148 .aA mD .aA) bg (.node 151 .aA bg .aA))) bg (.node 156 (.node 154 (.node 153 .aA bg .aA) mD (.node 155 .aA Qs .aA)) Qs (.node 160 (.node 158 .aA bg .aA) bg (.node 161 .aA aeK .aA))))))) aeK (.node 240 (.node 202 (.node 182 (.node 172 (.node 168 (.node 166 (.node 165 (.node 164 .aA bg .aA) bg .aA) bg (.node 167 .aA bg .aA)) bg (.node 170 (.node 169 .aA ⟨1,24,[.slice none 0 0],.slice 69⟩ .aA) bg (.node 171 .aA bg .aA))) bg (.node 177 (.node 175 (.node 174 (.node 173 .aA bg .aA) ⟨1,24,[.slice none 0 0],.slice 203⟩ .aA) bg (.node 176 .aA ⟨1,8,[.map none],.map 3 3⟩ .aA)) aeL (.node 180 (.node 178 .aA aeL .aA) bg (.node 181 .aA bg .aA)))) bg (.node 193 (.node 188 (.node 185 (.node 184 (.node 183 .aA bg .aA) bg .aA) bg (.node 186 .aA bg .aA)) bg (.node 191 (.node 190 .aA bg .aA) bg (.node 192 .aA bg .aA))) bg (.node 197 (.node 195 (.node 194 .aA bg .aA) bg (.node 196 .aA bg .aA)) bg (.node 200 (.node 198 .aA bg .aA) bg (.node 201 .aA bg .aA))))) aeM (.node 220 (.node 211 (.node 207 (.node 205 (.node 204 (.node 203 .aA aeM .aA) mD .aA) aeN (.node 206 .aA aeN .aA)) ⟨1,8,[.map none],.map 9 32⟩ (.node 209 (.node 208 .aA bg .aA) ⟨8,112,[.int .i64 0,.string ByteArray.empty,.int .i64 0,.slice none 0 0,.int .i64 0,.string ByteArray.empty,.int .i64 0,.slice none 0 0],.array 2 27⟩ (.node 210 .aA ⟨1,24,[.slice none 0 0],.slice 209⟩ .aA))) ⟨1,8,[.map none],.map 212 4⟩ (.node 216 (.node 214 (.node 213 (.node 212 .aA ⟨2,16,[.int .i64 0,.int .i64 0],.array 2 3⟩ .aA) bg .aA) bg (.node 215 .aA ⟨1,24,[.slice none 0 0],.slice 5⟩ .aA)) bg (.node 218 (.node 217 .aA mD .aA) bg (.node 219 .aA bg .aA)))) bg (.node 230 (.node 225 (.node 223 (.node 222 (.node 221 .aA bg .aA) bg .aA) bg (.node 224 .aA bg .aA)) bg (.node 228 (.node 226 .aA mD .aA) bg (.node 229 .aA bg .aA))) bg (.node 236 (.node 233 (.node 232 .aA bg .aA) bg (.node 234 .aA bg .aA)) bg (.node 238 (.node 237 .aA bg .aA) mD (.node 239 .aA bg .aA)))))) mD (.node 277 (.node 258 (.node 249 (.node 245 (.node 243 (.node 242 (.node 241 .aA bg .aA) JR .aA) bg (.node 244 .aA mD .aA)) mD (.node 247 (.node 246 .aA aeO .aA) aeO (.node 248 .aA aeP .aA))) aeP (.node 254 (.node 252 (.node 251 (.node 250 .aA bg .aA) bg .aA) bg (.node 253 .aA ⟨1,8,[.map none],.map 9 264⟩ .aA)) bg (.node 256 (.node 255 .aA mD .aA) bg (.node 257 .aA bg .aA)))) bg (.node 268 (.node 263 (.node 261 (.node 260 (.node 259 .aA bg .aA) bg .aA) bg (.node 262 .aA mD .aA)) bg (.node 266 (.node 264 .aA bg .aA) mD (.node 267 .aA bg .aA))) mD (.node 272 (.node 270 (.node 269 .aA bg .aA) mD (.node 271 .aA bg .aA)) bg (.node 274 (.node 273 .aA ag3 .aA) ag3 (.node 276 .aA bg .aA))))) bg (.node 297 (.node 286 (.node 282 (.node 280 (.node 279 (.node 278 .aA ag2 .aA) bg .aA) bg (.node 281 .aA bg .aA)) bg (.node 284 (.node 283 .aA bg .aA) ⟨24,24,[.int .u8 0,.int .u8 0,.int .u8 0,.int .u8 0,.int .u8 0,.int .u8 0,.int .u8 0,.int .u8 0,.int .u8 0,.int .u8 0,.int .u8 0,.int .u8 0,.int .u8 0,.int .u8 0,.int .u8 0,.int .u8 0,.int .u8 0,.int .u8 0,.int .u8 0,.int .u8 0,.int .u8 0,.int .u8 0,.int .u8 0,.int .u8 0],.array 24 5⟩ (.node 285 .aA ag2 .aA))) bg (.node 292 (.node 289 (.node 287 .aA bg .aA) bg (.node 291 .aA bg .aA)) bg (.node 295 (.node 293 .aA ⟨20,160,[.int .u64 0,.int .u64 0,.int .u64 0,.int .u64 0,.int .u64 0,.int .u64 0,.int .u64 0,.int .u64 0,.int .u64 0,.int .u64 0,.int .u64 0,.int .u64 0,.int .u64 0,.int .u64 0,.int .u64 0,.int .u64 0,.int .u64 0,.int .u64 0,.int .u64 0,.int .u64 0],.array 20 285⟩ .aA) bg (.node 296 .aA bg .aA)))) bg (.node 309 (.node 303 (.node 301 (.node 300 (.node 298 .aA bg .aA) aeQ .aA) aeQ (.node 302 .aA ⟨32,32,[.int .u8 0,.int .u8 0,.int .u8 0,.int .u8 0,.int .u8 0,.int .u8 0,.int .u8 0,.int .u8 0,.int .u8 0,.int .u8 0,.int .u8 0,.int .u8 0,.int .u8 0,.int .u8 0,.int .u8 0,.int .u8 0,.int .u8 0,.int .u8 0,.int .u8 0,.int .u8 0,.int .u8 0,.int .u8 0,.int .u8 0,.int .u8 0,.int .u8 0,.int .u8 0,.int .u8 0,.int .u8 0,.int .u8 0,.int .u8 0,.int .u8 0,.int .u8 0],.array 16 301⟩ .aA)) ⟨32,32,[.int .u8 0,.int .u8 0,.int .u8 0,.int .u8 0,.int .u8 0,.int .u8 0,.int .u8 0,.int .u8 0,.int .u8 0,.int .u8 0,.int .u8 0,.int .u8 0,.int .u8 0,.int .u8 0,.int .u8 0,.int .u8 0,.int .u8 0,.int .u8 0,.int .u8 0,.int .u8 0,.int .u8 0,.int .u8 0,.int .u8 0,.int .u8 0,.int .u8 0,.int .u8 0,.int .u8 0,.int .u8 0,.int .u8 0,.int .u8 0,.int .u8 0,.int .u8 0],.array 32 5⟩ (.node 307 (.node 306 .aA bg .aA) aeR (.node 308 .aA aeR .aA))) ⟨0,0,[],.array 0 16⟩ (.node 315 (.node 313 (.node 312 .aA abx .aA) abx (.node 314 .aA bg .aA)) Xc (.node 317 (.node 316 .aA Xc .aA) aeS (.node 318 .aA aeS .aA))))))))
theorem gK:jk Tryz.prog tyT.get:=TT.ok (by kernel_rfl)
theorem mixed:Tryz.prog.follows .mixedOrders=true:=by kernel_rfl
end Go.Proofs.YtaagocopollacaaGreatDoor

namespace aw
open Go Go.RowKit

def rn (is:List Nat)(base i:Nat):Nat :=
 match dk is i with
 |some j=>j
 |none=>Nat.add base (Nat.sub i (len is))

mutual
def c8 (f:Nat→Nat):AV→AV
 | .lo i o=>.lo (f i) o
 | .el i s r j=>.el (f i) s r j
 | .vw i s r=>.vw (f i) s r
 | .ow i s=>.ow (f i) s
 | .mp i=>.mp (f i)
 | .yl i=>.yl (f i)
 | .agg l=>.agg (iu f l)
 | .cH l=>.cH (iu f l)
 | .bU g a c=>.bU g (iu f a) (iu f c)
 | .any=>.any
 | .tt=>.tt
 | .ff=>.ff
 | .d x=>.d x
 | .fs r=>.fs r
def iu (f:Nat→Nat):List AV→List AV
 |[]=>[]
 |x::l=>c8 f x::iu f l
end

def bz (f:Nat→Nat):Ob→Ob
 | .box l=>.box (iu f l)
 | .arr sz s aa=>.arr sz s aa
 | .map es=>.map (es.map fun x=>(x.1,c8 f x.2))
 | .Ii pre=>.Ii pre
 | .Ij hs aa=>.Ij hs aa
 | .Ik s pos=>.Ik s pos
 | .dead=>.dead
 | .gM T l=>.gM T (iu f l)
 | .qe e s bs=>.qe e s bs
 | .tI es=>.tI (es.map fun x=>(x.1,c8 f x.2))

theorem gF (f:Nat→Nat):∀ (l:List AV),iu f l=l.map (c8 f)
 |[]=>by simp[iu]
 |x::l=>by simp[iu,gF f l]

mutual
theorem RV.Qt {S S':Nat→Prop}{w:World}{φ ψ:List bB}{f:Nat→Nat}(hk:dE S w S' w)(h:∀i p,φ[i]? = some p→ψ[f i]? = some p):∀ {x:AV} {v:Value},RV S w φ x v→RV S' w ψ (c8 f x) v
 | .any,_,_=>by simp[RV,c8]
 | .tt,_,h=>by simpa[RV,c8]using h
 | .ff,_,h=>by simpa[RV,c8]using h
 | .d x,v,h=>by simp only[RV,c8]at h ⊢;exact h.mono hk
 | .fs aa,v,h=>by simp only[RV,c8]at h ⊢;exact⟨h.1.mono hk,h.2⟩
 | .agg l,v,hv=>by
  simp only[RV,c8]at hv ⊢;obtain⟨cs,h1,h2⟩:=hv;exact⟨cs,h1,aW.Qt hk h h2⟩
 | .lo i off,v,hv=>by
  simp only[RV,c8]at hv ⊢
  grind
 | .el i t r j,v,hv=>by
  simp only[RV,c8]at hv ⊢
  grind
 | .vw i t r,v,hv=>by
  simp only[RV,c8]at hv ⊢
  grind
 | .ow i t,v,hv=>by
  simp only[RV,c8]at hv ⊢
  grind
 | .mp i,v,hv=>by
  simp only[RV,c8]at hv ⊢
  grind
 | .yl i,v,hv=>by
  simp only[RV,c8]at hv ⊢
  grind
 | .cH l,v,hv=>by
  simp only[RV,c8]at hv ⊢;obtain⟨cs,h1,h2⟩:=hv;exact⟨cs,h1,aW.Qt hk h h2⟩
 | .bU g a c,v,hv=>by
  simp only[RV,c8]at hv ⊢;obtain⟨va,vc,h1,h2,h3⟩:=hv;exact⟨va,vc,h1,aW.Qt hk h h2,aW.Qt hk h h3⟩
theorem aW.Qt {S S':Nat→Prop}{w:World}{φ ψ:List bB}{f:Nat→Nat}(hk:dE S w S' w)(h:∀i p,φ[i]? = some p→ψ[f i]? = some p):∀ {l:List AV} {vs:List Value},aW S w φ l vs→aW S' w ψ (iu f l) vs
 |[],[],_=>by simp[aW,iu]
 |[],_::_,h=>by simp[aW]at h
 |_::_,[],h=>by simp[aW]at h
 |a::l,v::vs,hv=>by
  simp only[aW,iu]at hv ⊢;exact⟨RV.Qt hk h hv.1,aW.Qt hk h hv.2⟩
end

mutual
theorem RV.od {S S':Nat→Prop}{w:World}{φ ψ:List bB}{f:Nat→Nat}(hk:dE S w S' w)(h:∀i p,φ[f i]? = some p→ψ[i]? = some p):∀ {x:AV} {v:Value},RV S w φ (c8 f x) v→RV S' w ψ x v
 | .any,_,_=>by simp[RV]
 | .tt,_,h=>by simpa[RV,c8]using h
 | .ff,_,h=>by simpa[RV,c8]using h
 | .d x,v,h=>by simp only[RV,c8]at h ⊢;exact h.mono hk
 | .fs aa,v,h=>by simp only[RV,c8]at h ⊢;exact⟨h.1.mono hk,h.2⟩
 | .agg l,v,hv=>by
  simp only[RV,c8]at hv ⊢;obtain⟨cs,h1,h2⟩:=hv;exact⟨cs,h1,aW.od hk h h2⟩
 | .lo i off,v,hv=>by
  simp only[RV,c8]at hv ⊢
  grind
 | .el i t r j,v,hv=>by
  simp only[RV,c8]at hv ⊢
  grind
 | .vw i t r,v,hv=>by
  simp only[RV,c8]at hv ⊢
  grind
 | .ow i t,v,hv=>by
  simp only[RV,c8]at hv ⊢;obtain⟨h0,p,h1,h2⟩:=hv;exact⟨h0,p,h _ _ h1,h2⟩
 | .mp i,v,hv=>by
  simp only[RV,c8]at hv ⊢;obtain⟨b,h1,h2⟩:=hv;exact⟨b,h _ _ h1,h2⟩
 | .yl i,v,hv=>by
  simp only[RV,c8]at hv ⊢;obtain⟨l,I,B,h1,h2⟩:=hv;exact⟨l,I,B,h _ _ h1,h2⟩
 | .cH l,v,hv=>by
  simp only[RV,c8]at hv ⊢;obtain⟨cs,h1,h2⟩:=hv;exact⟨cs,h1,aW.od hk h h2⟩
 | .bU g a c,v,hv=>by
  simp only[RV,c8]at hv ⊢;obtain⟨va,vc,h1,h2,h3⟩:=hv;exact⟨va,vc,h1,aW.od hk h h2,aW.od hk h h3⟩
theorem aW.od {S S':Nat→Prop}{w:World}{φ ψ:List bB}{f:Nat→Nat}(hk:dE S w S' w)(h:∀i p,φ[f i]? = some p→ψ[i]? = some p):∀ {l:List AV} {vs:List Value},aW S w φ (iu f l) vs→aW S' w ψ l vs
 |[],[],_=>by simp[aW]
 |[],_::_,h=>by simp[aW,iu]at h
 |_::_,[],h=>by simp[aW,iu]at h
 |a::l,v::vs,hv=>by
  simp only[aW,iu]at hv ⊢;exact⟨RV.od hk h hv.1,aW.od hk h hv.2⟩
end

theorem bd.Qt {S S':Nat→Prop}{w:World}{φ ψ:List bB}{f:Nat→Nat}(hk:dE S w S' w)(h:∀i p,φ[i]? = some p→ψ[f i]? = some p){ph:bB}{ob:Ob}(ho:bd S w φ ph ob):bd S' w ψ ph (bz f ob):=by
 cases ph<;>cases ob<;>simp only[bd,bz]at ho ⊢
 ·obtain ⟨cs,T,h1,h2⟩:=ho;exact⟨cs,T,h1,h2.Qt hk h⟩
 ·obtain ⟨ents,iY,h1,h2,h3⟩:=ho;refine⟨ents,iY,h1,?_,?_⟩
  ·simpa[jw,Function.comp_def]using h2
  ·have:=h3.Qt hk h;rw[gF]at this;simpa[jw,Function.comp_def]using this
 ·exact ho
 ·obtain ⟨cs,h1,h2⟩:=ho;exact⟨cs,h1,h2.Qt hk h⟩
 ·obtain ⟨ents,iY,Ds,h0,h1,h2,h3⟩:=ho;refine⟨ents,iY,Ds.map fun x=>(x.1,c8 f x.2),h0.map _,h1,?_,?_⟩
  ·simpa[jw,Function.comp_def]using h2
  ·have:=h3.Qt hk h;rw[gF]at this;simpa[jw,Function.comp_def]using this
 ·obtain ⟨h0,Me,h1,h2⟩:=ho;exact aki
 ·exact ho
 ·exact⟨ho.1,ho.1 _ _ _ _ _ _ cP (fun _ _=>rfl) hk ho.2⟩
 ·obtain ⟨h0,Me,h1,h2⟩:=ho;exact akm

theorem wg {α β:Type}{f:α→β}{l m:List β}(h:l.Perm m):∀es:List α,m=es.map f→∃Ds:List α,Ds.Perm es∧l=Ds.map f:=by
 induction h with
 |nil =>
  simp_all
 |cons x _ ih =>
  intro es he;cases es with
  |nil=>simp at he
  |cons a es =>
   simp only[List.map_cons,List.cons.injEq]at he;obtain⟨rfl,he⟩:=he;obtain⟨Ds,h1,rfl⟩:=ih es he;exact⟨a::Ds,h1.cons a,rfl⟩
 |swap x y l =>
  intro es he;cases es with
  |nil=>simp at he
  |cons a es =>
   cases es with
   |nil=>simp at he
   |cons b es =>
    simp only[List.map_cons,List.cons.injEq]at he;obtain⟨rfl,rfl,rfl⟩:=he;exact⟨b::a::es,.swap _ _ _,rfl⟩
 |trans _ _ ih1 zY =>
  intro es he;obtain⟨es1,h1,rfl⟩:=zY es he;obtain⟨es2,h2,rfl⟩:=ih1 es1 rfl;exact⟨es2,h2.trans h1,rfl⟩

theorem bd.od {S S':Nat→Prop}{w:World}{φ ψ:List bB}{f:Nat→Nat}(hk:dE S w S' w)(h:∀i p,φ[f i]? = some p→ψ[i]? = some p){ph:bB}{ob:Ob}(ho:bd S w φ ph (bz f ob)):bd S' w ψ ph ob:=by
 cases ph<;>cases ob<;>simp only[bd,bz]at ho ⊢
 ·obtain ⟨cs,T,h1,h2⟩:=ho;exact⟨cs,T,h1,h2.od hk h⟩
 ·obtain ⟨ents,iY,h1,h2,h3⟩:=ho;refine⟨ents,iY,h1,?_,?_⟩
  ·simpa[jw,Function.comp_def]using h2
  ·rename_i es;have h4:iu f (es.map (·.2))=(es.map fun x=>(x.1,c8 f x.2)).map (·.2):=by rw[gF];simp_all
   rw[← h4]at h3;exact h3.od hk h
 ·exact ho
 ·obtain ⟨cs,h1,h2⟩:=ho;exact⟨cs,h1,h2.od hk h⟩
 ·obtain ⟨ents,iY,Ds,h0,h1,h2,h3⟩:=ho;obtain⟨es2,h4,rfl⟩:=wg h0 _ rfl;refine⟨ents,iY,es2,h4,h1,?_,?_⟩
  ·simpa[jw,Function.comp_def]using h2
  ·have h5:iu f (es2.map (·.2))=(es2.map fun x=>(x.1,c8 f x.2)).map (·.2):=by rw [gF]; simp_all
   rw[← h5]at h3;exact h3.od hk h
 ·obtain ⟨h0,Me,h1,h2⟩:=ho;exact aki
 ·exact ho
 ·exact⟨ho.1,ho.1 _ _ _ _ _ _ cP (fun _ _=>rfl) hk ho.2⟩
 ·obtain ⟨h0,Me,h1,h2⟩:=ho;exact akm

def cZ {α:Type}:List Nat→List α→List α→List α
 |[],new,l=>l++new
 |j::is,o::new,l=>cZ is new (da l j o)
 |_::_,[],l=>l

def GH (j:Nat):List Nat→Bool
 |[]=>false
 |i::is=>bif Nat.beq i j then true else GH j is

def isOk (n:Nat):List Nat→Bool
 |[]=>true
 |i::is=>bif Nat.ble (Nat.succ i) n then (bif GH i is then false else isOk n is) else false

theorem Bf {j:Nat}:∀ {is:List Nat},GH j is=true↔j∈is
 |[]=>by simp[GH]
 |i::is=>by
  simp only[GH];cases h:Nat.beq i j
  ·have:i≠j:=fun e=>by subst e; simp at h
   simp only[cond_false,Bf,eL];exact⟨.inr,fun h=>h.resolve_left fun e=>this e.symm⟩
  simp_all

theorem s6 {n:Nat}:∀ {is:List Nat},isOk n is=true→is.Nodup∧∀i∈is,i<n
 |[],_=>by simp
 |i::is,h=>by
  simp only[isOk]at h;obtain⟨h1,h2⟩:=W4 h;have h1:=ke h1;cases hm:GH i is
  ·rw [hm] at h2;obtain⟨h3,h4⟩:=s6 h2;refine⟨xL.2 ⟨fun hi=>?_,h3⟩,fun j hj=>(eL.1 hj).elim (fun e=>by rw[e];exact h1) (h4 j)⟩;rw[Bf.2 hi]at hm;cases hm
  simp_all

theorem lD {α:Type}:∀ {is:List Nat} {new l:List α},is.length≤new.length→(cZ is new l).length=l.length+(new.length - is.length)
 |[],new,l,_=>by simp[cZ]
 |j::is,[],l,h=>by simp at h
 |j::is,o::new,l,h=>by
  simp only[cZ];rw[lD l6,bq];simp

theorem ja {α:Type}:∀ {is:List Nat} {new l:List α} {j:Nat},j ∉ is→j<l.length→(cZ is new l)[j]? = l[j]?
 |[],new,l,j,_,h=>by simp only[cZ];grind
 |i::is,[],l,j,_,_=>rfl
 |i::is,o::new,l,j,hj,h=>by
  simp only[eL,not_or]at hj;simp only[cZ];rw[ja hj.2 (by rw[bq];simpa using h),bq,q6 (fun e=>hj.1 e.symm)]

theorem x5 {α:Type}:∀ {is:List Nat} {new l:List α} {i:Nat},is.Nodup→(∀j∈is,j<l.length)→is.length≤new.length→(cZ is new l)[rn is l.length i]? = new[i]?
 |[],new,l,i,_,_,_=>by simp only[cZ,rn,dk,len,MD,Nat.sub_eq];grind
 |j::is,[],l,i,_,_,h=>by simp at h
 |j::is,o::new,l,i,hn,hl,h=>by
  have AD:=xL.1 hn;have Bb:=hl j aC;simp only[cZ];cases i with
  |zero =>
   have:rn (j::is) l.length 0=j:=rfl;rw[this,ja AD.1 (by rw[bq];simpa using Bb),bq,qc Bb];rfl
  |succ i =>
   have:rn (j::is) l.length (i+1)=rn is (da l j o).length i:=by
    have e:(da l j o).length=l.length:=by rw[bq];simp
    simp only[rn,dk,Nat.beq,cond_false,Nat.pred,len,e]
    simp_all
   rw[this,x5 AD.2 (fun m hm=>by rw[bq];simp_all) l6];rfl

theorem wh {α:Type}{is:List Nat}{new l:List α}(h:is.length≤new.length){j:Nat}{x:α}(hx:(cZ is new l)[j]? = some x):(j ∉ is∧j<l.length)∨∃i,j=rn is l.length i:=by
 by_cases hj:j∈is
 ·obtain ⟨i,hi⟩:=uE.1 hj;exact .inr ⟨i,by simp only[rn,bu,hi]⟩
 ·by_cases hl:j<l.length
  ·simp_all
  ·refine .inr ⟨is.length+(j - l.length),?_⟩;have:dk is (is.length+(j - l.length))=none:=by rw[bu];simp_all
   simp only[rn,this,bj,MD,Nat.sub_eq];omega

def fE {α:Type} (l:List α):List Nat→Option (List α)
 |[]=>some []
 |i::is=>match dk l i with
  |some x=>match fE l is with
   |some r=>some (x::r)
   |none=>none
  |none=>none

theorem po {α:Type}{l:List α}:∀ {is:List Nat} {r:List α},fE l is=some r→r.length=is.length
 |[],r,h=>by simp[fE]at h;subst h;rfl
 |i::is,r,h=>by
  simp only[fE]at h;split at h
  case h_2=>cases h
  split at h
  case h_2=>cases h
  rename_i r' Dv;cases h;simp[po Dv]

theorem j4 {α:Type}{l:List α}:∀ {is:List Nat} {r:List α} {i:Nat} {x:α},fE l is=some r→r[i]? = some x→∃j,is[i]? = some j∧l[j]? = some x
 |[],r,i,x,h,hx=>by simp[fE]at h;simp_all
 |k::is,r,i,x,h,hx=>by
  simp only[fE]at h;split at h
  case h_2=>cases h
  rename_i y hy;split at h
  case h_2=>cases h
  rename_i r' Dv;cases h;cases i with
  |zero=>simp at hx;subst hx;rw[bu]at hy;simp_all
  |succ i=>simp at hx;obtain⟨j,h1,h2⟩:=j4 Dv hx;simp_all

theorem JS {α:Type}{l:List α}:∀ {is:List Nat},(∀i∈is,i<l.length)→∃r,fE l is=some r
 |[],_=>⟨[],rfl⟩
 |i::is,h=>by
  obtain⟨r,hr⟩:=JS (is:=is) (fun j hj=>h j (by simp[hj]));have:dk l i=some (l[i]'(h i aC)):=by rw[bu];simp_all
  exact⟨l[i]'(h i aC)::r,by simp only[fE,this,hr]⟩

theorem Bg {α:Type}{l:List α}:∀ {is:List Nat} {r:List α} {i j:Nat},fE l is=some r→is[i]? = some j→r[i]? = l[j]?
 |[],r,i,j,h,hx=>by simp at hx
 |k::is,r,i,j,h,hx=>by
  simp only[fE]at h;split at h
  case h_2=>cases h
  rename_i y hy;split at h
  case h_2=>cases h
  rename_i r' Dv;cases h;cases i with
  |zero=>simp at hx;subst hx;rw[bu]at hy;simp[hy]
  |succ i=>simp at hx;simpa using Bg Dv hx
end aw
namespace aw
open Go Go.RowKit

variable{gd:Option (Nat × Bool)}{args:Array Operand}{objs bT a8:List Ob}{after:Array Edge}{dM:List AV}{dst:Option Nat}{ts:Array Nat}{pos:String}{x:Operand}{Y:YP}{E:bk}{r:AV}{ty f:Nat}
def lQ (P:Program)(F:Fence)(d:Nat)(Y:YP)(l:Nat)(I:Nat→(Nat→Prop)→(Nat→Prop)→World→Prop)(S:Nat→Prop):Prop :=
 ∀ (n:Nat) (B:Nat→Prop) (w:World) (R:Nat→Prop) (x:List AV) (bL:List Value),I n B R w→(∀ b,R b→S b∧¬ B b)→gx P R w→(∀ b,w.heap.size≤b→R b)→Y.ys[n]? = some x→(n=0∨Y.go n=true)→aW R w [] x bL→kZ x=true →
  YieldAt F d P l bL.toArray w fun e w'=>e=.returned (.bool (Y.go (n+1)))∧∃ B',I (n+1) B' (fun b=>R b∧¬ B' b) w'∧w.heap.size≤w'.heap.size∧w'.os=w.os∧w'.tape=w.tape∧w'.output=w.output ∧
   (∀b,b<w.heap.size→¬ B b→w'.heap[b]? = w.heap[b]?)∧(∀b,B' b→B b∨(w.heap.size≤b∧b<w'.heap.size))

theorem lQ.sub{P:Program}{F:Fence}{d:Nat}{l:Nat}{I:Nat→(Nat→Prop)→(Nat→Prop)→World→Prop}{S S':Nat→Prop}(h:lQ P F d Y l I S)(hs:∀b,S' b→S b):lQ P F d Y l I S' :=
 fun n B w R x bL h1 h2 ha h3 h4 h5 h6 h7=>h n B w R x bL h1 (fun b hb=>⟨hs b (h2 b hb).1,(h2 b hb).2⟩) ha h3 h4 h5 h6 h7

structure aU (P:Program) (Y:YP) (f:Nat) (args:List AV) (objs:List Ob) (r:AV) (a8:List Ob):Prop where
 call:rJ P f
 run:∀ (S:Nat→Prop) (φ:List bB) (w:World) (bL:List Value),gx P (SS S φ) w→HS S φ objs w→(∀ b,eD φ b→S b)→(∀ (i l:Nat) (I:Nat→(Nat→Prop)→(Nat→Prop)→World→Prop) (B:Nat→Prop),φ[i]? = some (bB.ext l I B)→lQ P Fence.wide 0 Y l I S)→aW (SS S φ) w φ args bL →
  Calls P f bL.toArray w fun e w'=>∃v φ',e=.returned v∧RV (SS S φ') w' φ' r v∧jJ S φ w φ' a8 w'
 len:objs.length≤a8.length
section
variable {g:G} {pf:Nat→cC} {ad:Array Oper} {Fin:Exit→Act→World→Prop}

theorem JT{φ φ0:List bB}{is:List Nat}(h:fE φ is=some φ0){b:Nat}(hb:eD φ0 b):∃i∈is,∃p,φ[i]? = some p∧p.bl b:=by
 obtain⟨i,p,h1,h2⟩:=hb;obtain⟨j,h3,h4⟩:=j4 h h1
 grind

theorem Bh{φ:List bB}{w:World}(hA:gx g.P (SS g.S0 φ) w)(hu:Iu g)(hY:∀ (i l:Nat) (I:Nat→(Nat→Prop)→(Nat→Prop)→World→Prop) (B:Nat→Prop),g.φ0[i]? = some (bB.ext l I B)→lQ g.P Fence.wide 0 g.Y l I g.S0)(is:List Nat)(dV:bT.length≤a8.length)(uH:(∃ (i l:Nat) (I:Nat→(Nat→Prop)→(Nat→Prop)→World→Prop) (B:Nat→Prop),g.φ0[i]? = some (bB.ext l I B))→Y=g.Y){o₁:List Ob}{bL:List Value}
  (dw:isOk (len o₁) is=true) (jE:fE o₁ is=some (bT.map (bz (rn is (len o₁))))) (h1:HS g.S0 φ o₁ w) (h2:∀b,eD φ b→g.w0.heap.size≤b∨g.X0 b) (h6:Fr0 g φ w) (eK:aW (SS g.S0 φ) w φ (iu (rn is (len o₁)) dM) bL) :
  ∃ (S:Nat→Prop) (φ0:List bB),gx g.P (SS S φ0) w∧HS S φ0 bT w∧(∀ b,eD φ0 b→S b)∧(∀ (i l:Nat) (I:Nat→(Nat→Prop)→(Nat→Prop)→World→Prop) (B:Nat→Prop),φ0[i]? = some (bB.ext l I B)→lQ g.P Fence.wide 0 Y l I S)∧aW (SS S φ0) w φ0 dM bL ∧
   ∀ (w':World) (φ1:List bB) (v:Value),RV (SS S φ1) w' φ1 r v→jJ S φ0 w φ1 a8 w'→∃φ',jJ g.S0 φ w φ' (cZ is (a8.map (bz (rn is (len o₁)))) o₁) w'∧RV (SS g.S0 φ') w' φ' (c8 (rn is (len o₁)) r) v:=by
 have JO:∀b,eD φ b→g.S0 b:=fun b hb=>(h2 b hb).elim (hu.up b) (hu.x b)
 obtain⟨p8,fu⟩:=s6 dw;rw[bj,← h1.len]at fu;obtain⟨φ0,Md⟩:=JS fu;have Qu:φ0.length=bT.length:=by rw[po Md,← po jE];simp
 have aoq:is.length=φ0.length:=(po Md).symm
 have EJ:∀i p,φ[rn is (len o₁) i]? = some p→φ0[i]? = some p:=fun i p hp=>by
  simp only[rn,bu]at hp;cases hi:is[i]? with
  |some j=>rw[hi]at hp;simp only at hp;rw[Bg Md hi];exact hp
  |none =>
   rw[hi]at hp;simp only[MD]at hp;have:=(bC.1 hp).1;rw[h1.len,← bj]at this;omega
 have Bi:∀b,eD φ0 b→eD φ b:=fun b hb=>by
  obtain⟨i,_,p,h7,h8⟩:=JT Md hb;exact⟨i,p,h7,h8⟩
 have hK0:dE (SS g.S0 φ) w (SS (fun b=>SS g.S0 φ b∨eD φ0 b) φ0) w:=fun b hb _=>⟨⟨.inl hb,fun hc=>hb.2 (Bi b hc)⟩,rfl⟩
 have aos:HS (fun b=>SS g.S0 φ b∨eD φ0 b) φ0 bT w:=by
  refine⟨Qu,fun i ph ob hi ho=>?_,fun i j p q b hi hj hp hq=>?_,fun b hb=>h1.lt b (Bi b hb),fun b hb=>.inl ⟨h1.up b hb,fun hc=>by have:=h1.lt b hc;omega⟩⟩
  ·obtain ⟨j,hj,alm⟩:=j4 Md hi;obtain⟨j',hj',hoj⟩:=j4 jE (i:=i) (x:=bz (rn is (len o₁)) ob) (by rw[eU,ho];rfl);rw[hj]at hj';cases hj';exact(h1.ok j ph _ alm hoj).od hK0 EJ
  ·obtain ⟨i',SV,arL⟩:=j4 Md hi;obtain⟨j',hj',alm⟩:=j4 Md hj;have:=h1.jA i' j' p q b arL alm hp hq;subst this;have h7:=(List.getElem?_inj (bC.1 SV).1 p8).1 (SV.trans hj'.symm);exact h7
 have ag4:∀ (i l:Nat) (I:Nat→(Nat→Prop)→(Nat→Prop)→World→Prop) (B:Nat→Prop),φ0[i]? = some (bB.ext l I B)→lQ g.P Fence.wide 0 Y l I (fun b=>SS g.S0 φ b∨eD φ0 b):=fun i l I B hi=>by
  obtain⟨j,_,alm⟩:=j4 Md hi;obtain⟨B0,h7⟩:=h6.gen j l I B alm;rw[uH ⟨j,l,I,B0,h7⟩];exact(hY j l I B0 h7).sub fun b hb=>hb.elim (fun h=>h.1) (fun h=>JO b (Bi b h))
 refine⟨_,φ0,hA.iS hK0,aos,fun b hb=>.inr hb,ag4,eK.od hK0 EJ,fun w' φ1 v hv cS=>?_⟩;have Du:φ1.length=a8.length:=cS.hs.len;have Xd:is.length≤φ1.length:=by rw[Du,aoq,Qu];exact dV
 have aZ:len o₁=φ.length:=by rw[bj,h1.len]
 rw[aZ]at EJ ⊢;have hrn:∀i,(cZ is φ1 φ)[rn is φ.length i]? = φ1[i]? := fun i=>x5 p8 fu Xd
 have Bj:∀ {j:Nat} {p:bB},(cZ is φ1 φ)[j]? = some p→(j ∉ is∧φ[j]? = some p)∨∃i,j=rn is φ.length i∧φ1[i]? = some p:=fun {j p} hj=>by
  rcases wh Xd hj with ⟨h7,h8⟩ |⟨i,rfl⟩
  ·rw[ja h7 h8]at hj;exact .inl ⟨h7,hj⟩
  ·rw[hrn]at hj;exact .inr ⟨i,rfl,hj⟩
 have Bk:∀ {b:Nat},eD (cZ is φ1 φ) b→(∃j p,j ∉ is∧φ[j]? = some p∧p.bl b)∨eD φ1 b:=fun {b} hb=>by
  obtain⟨j,p,h7,h8⟩:=hb;rcases Bj h7 with ⟨h9,mm⟩ |⟨i,_,mm⟩
  ·exact .inl ⟨j,p,h9,mm,h8⟩
  ·exact .inr ⟨i,p,mm,h8⟩
 have iI:∀ {j:Nat} {p:bB} {b:Nat},j ∉ is→φ[j]? = some p→p.bl b→¬ eD φ0 b:=fun {j p b} h7 h8 h9 mm=>by
  obtain⟨i,hi,q,Xe,h12⟩:=JT Md mm;have:=h1.jA i j q p b Xe h8 h12 h9;subst this;exact h7 hi
 have rv:∀ {j:Nat} {p:bB} {b:Nat},j ∉ is→φ[j]? = some p→p.bl b→w'.heap[b]? = w.heap[b]? := fun {j p b} h7 h8 h9 =>
  cS.fr b (h1.lt b ⟨j,p,h8,h9⟩) (iI h7 h8 h9)
 have hK:dE (SS g.S0 φ) w (SS g.S0 (cZ is φ1 φ)) w':=.of fun b hb GF=>by
  have qP:¬ eD φ0 b:=fun hc=>hb.2 (Bi b hc)
  refine⟨⟨hb.1,fun hc=>?_⟩,cS.fr b GF qP⟩;rcases Bk hc with ⟨j,p,h7,h8,h9⟩ |h7
  ·exact hb.2 ⟨j,p,h8,h9⟩
  ·rcases cS.own b h7 with h8 | h8
   ·exact qP h8
   ·omega
 have hK1:dE (SS (fun b=>SS g.S0 φ b∨eD φ0 b) φ1) w' (SS g.S0 (cZ is φ1 φ)) w':=fun b hb _=>by
  refine⟨⟨hb.1.elim (fun h=>h.1) (fun h=>JO b (Bi b h)),fun hc=>?_⟩,rfl⟩;rcases Bk hc with ⟨j,p,h7,h8,h9⟩ |h7
  ·rcases hb.1 with mm | mm
   ·exact mm.2 ⟨j,p,h8,h9⟩
   ·exact iI h7 h8 h9 mm
  ·exact hb.2 h7
 have hle:jZ φ (cZ is φ1 φ):=fun j p hj=>by
  by_cases nc:j∈is
  ·obtain ⟨i,hi⟩:=uE.1 nc;obtain⟨p',h7,h8⟩:=cS.le i p (by rw[Bg Md hi];exact hj);have:j=rn is φ.length i:=by simp only[rn,bu,hi]
   exact⟨p',by rw[this,hrn];exact h7,h8⟩
  ·exact⟨p,by rw[ja nc (bC.1 hj).1];exact hj,.inl rfl⟩
 have alo:∀i p,φ1[i]? = some p→(cZ is φ1 φ)[rn is φ.length i]? = some p:=fun i p hp=>by rw[hrn];exact hp
 have Qp:o₁.length=φ.length:=h1.len.symm
 have Xf:∀ {j:Nat} {ob:Ob},(cZ is (a8.map (bz (rn is φ.length))) o₁)[j]? = some ob→(j ∉ is∧o₁[j]? = some ob)∨∃i,j=rn is φ.length i∧∃Sx,a8[i]? = some Sx∧ob=bz (rn is φ.length) Sx:=fun {j ob} hj=>by
  have hlO:is.length≤(a8.map (bz (rn is φ.length))).length:=by rw[eS,← Du];exact Xd
  rcases wh hlO hj with ⟨h7,h8⟩ |⟨i,rfl⟩
  ·rw[ja h7 h8]at hj;exact .inl ⟨h7,hj⟩
  ·rw [x5 p8 (by rw [Qp]; exact fu) hlO,eU] at hj;rw[Qp];cases ho:a8[i]? with
   |none=>rw[ho]at hj;cases hj
   |some Sx=>rw[ho]at hj;simp at hj;exact .inr ⟨i,rfl,Sx,ho,hj.symm⟩
 have ag5:∀ {i i':Nat},rn is φ.length i=rn is φ.length i'→i<φ1.length→i'<φ1.length→i=i':=fun {i i'} h7 h8 h9=>by
  simp only[rn,bu,bj,MD,Nat.sub_eq]at h7;cases hi:is[i]?<;>cases SV:is[i']?<;>rw[hi,SV]at h7<;>simp only at h7
  ·have:=List.getElem?_eq_none_iff.1 hi;have:=List.getElem?_eq_none_iff.1 SV;omega
  ·have:=fu _ (gZ SV);omega
  ·have:=fu _ (gZ hi);omega
  ·subst h7;exact(List.getElem?_inj (bC.1 hi).1 p8).1 (hi.trans SV.symm)
 have lR:jJ g.S0 φ w (cZ is φ1 φ) (cZ is (a8.map (bz (rn is φ.length))) o₁) w':=by
  refine⟨⟨?_,?_,?_,?_,fun b hb=>h1.up b (tP cS.size hb)⟩,hK,hle,cS.size,cS.os,cS.tape,cS.out,fun b hb hn=>cS.fr b hb fun hc=>hn (Bi b hc),?_,?_⟩
  ·rw[lD Xd,lD (by rw[eS,← Du];exact Xd),eS,Du,h1.len]
  ·intro j ph ob hj vX;rcases Bj hj with ⟨h7,h8⟩ |⟨i,rfl,h8⟩
   ·rcases Xf vX with ⟨_,h9⟩ | ⟨i,nc,Sx,h9,_⟩
    ·exact(h1.ok j ph ob h8 h9).mono hK hle cS.size fun b hb=>rv h7 h8 hb
    ·exfalso;simp only[rn,bu]at nc;cases hi:is[i]? with
     |some m=>rw[hi]at nc;simp only at nc;subst nc;exact h7 (gZ hi)
     |none =>
      rw[hi]at nc;simp only[MD]at nc;have:=(bC.1 h8).1;omega
   ·rcases Xf vX with ⟨h7,h9⟩ | ⟨i',nc,Sx,h9,rfl⟩
    ·exfalso;have Bb:=(bC.1 h9).1;rw[Qp]at Bb;simp only[rn,bu]at h7 Bb;cases hi:is[i]? with
     |some m=>rw[hi]at h7;exact h7 (gZ hi)
     |none=>rw[hi]at Bb;simp only[MD]at Bb;omega
    ·have:=ag5 nc (bC.1 h8).1 (by rw [Du]; exact (bC.1 h9).1);subst this;exact(cS.hs.ok i ph Sx h8 h9).Qt hK1 alo
  ·intro i j p q b hi hj hp hq;rcases Bj hi with ⟨h7,h8⟩ |⟨i',rfl,h8⟩<;>rcases Bj hj with ⟨h9,mm⟩ |⟨j',rfl,mm⟩
   ·exact h1.jA i j p q b h8 mm hp hq
   ·exfalso;rcases cS.own b ⟨j',q,mm,hq⟩ with Xe |Xe
    ·exact iI h7 h8 hp Xe
    ·have:=h1.lt b ⟨i,p,h8,hp⟩;omega
   ·exfalso;rcases cS.own b ⟨i',p,h8,hp⟩ with Xe |Xe
    ·exact iI h9 mm hq Xe
    ·have:=h1.lt b ⟨j,q,mm,hq⟩;omega
   ·rw[cS.hs.jA i' j' p q b h8 mm hp hq]
  ·intro b hb;rcases Bk hb with ⟨j,p,h7,h8,h9⟩ |h7
   ·exact I9 (h1.lt b ⟨j,p,h8,h9⟩) cS.size
   ·exact cS.hs.lt b h7
  ·intro b hb;rcases Bk hb with ⟨j,p,h7,h8,h9⟩ |h7
   ·exact .inl ⟨j,p,h8,h9⟩
   ·exact(cS.own b h7).imp (Bi b) id
  ·intro j l I B hj;rcases Bj hj with ⟨h7,h8⟩ |⟨i,rfl,h8⟩
   ·exact⟨B,h8⟩
   ·obtain ⟨B0,h9⟩:=cS.ext i l I B h8;obtain⟨m,mm,Xe⟩:=j4 Md h9;refine⟨B0,?_⟩;have:rn is φ.length i=m:=by simp only[rn,bu,mm]
    rw[this];exact Xe
 exact⟨_,lR,hv.Qt hK1 alo⟩

theorem mM(hg:c9 g)(hu:Iu g)(hF:g.F=Fence.wide∧g.dep=0)(hY:∀ (i l:Nat) (I:Nat→(Nat→Prop)→(Nat→Prop)→World→Prop) (B:Nat→Prop),g.φ0[i]? = some (bB.ext l I B)→lQ g.P Fence.wide 0 g.Y l I g.S0)(is:List Nat)(hc:aU g.P Y f dM bT r a8)(uH:(∃ (i l:Nat) (I:Nat→(Nat→Prop)→(Nat→Prop)→World→Prop) (B:Nat→Prop),g.φ0[i]? = some (bB.ext l I B))→Y=g.Y)
    {fs cs:List AV}
  (bm:aG ad.toList E gd=some true) (hd:aO ⟨g.ty,g.N⟩ dst=true) (hx:ev E x=.bU f fs cs) (dw:isOk (len objs) is=true) (jE:fE objs is=some (bT.map (bz (rn is (len objs)))))
  (has:(fs++args.toList.map (ev E)++cs).map lB=iu (rn is (len objs)) dM) :
  aI g ad ⟨dst,.call { callee:=.value x,args:=args,argTypes:=ts },ty,pos,after,gd⟩ E objs .ji (c8 (rn is (len objs)) r) (cZ is (a8.map (bz (rn is (len objs)))) objs):=by
 refine⟨fun h=>absurd rfl (h _),(fun b h hb=>by cases h;omega),fun E₁ o₁ jl a w he ho hs Q=>?_⟩;rcases ho with ⟨h,_⟩ |⟨_,h,_⟩ |⟨nQ,rM⟩
 ·cases h
 ·cases h
 subst nQ;subst rM;obtain⟨φ,h1,h2,h3,h4,h5,h6⟩:=hs;rw[mL (cK bm) he h3];simp only[if_true];refine⟨pk hg _ w a,?_⟩;have hρ:=lf (o:=⟨dst,.call { callee:=.value x,args:=args,argTypes:=ts },ty,pos,after,gd⟩) he h3;simp only[Op.operands,Call.operands]at hρ;have aN:=hρ x aC;rw[hx]at aN;simp only[RV]at aN;obtain⟨va,vc,aN,WX,qg⟩:=aN;have mr:aW (SS g.S0 φ) w φ (args.toList.map (ev E)) (args.toList.map a.eval):=aW.map _ _ _ fun y hy=>hρ y kb
 have eK:=((WX.append mr).append qg).qi lB bM.lB;rw[has]at eK;rw[Oper.semAt_eq _ _ _ aC,xW rfl aN hc.call];refine⟨fun h=>by rw[hg.depth]at h;simp at h,?_⟩;obtain⟨S,φ0,gA,g1,g2,g3,g4,g5⟩:=Bh (hg.Eu h2 h6) hu hY is hc.len uH dw jE h1 h2 h6 eK;have fx:=hc.run S φ0 w _ gA g1 g2 g3 g4;refine(qj hg fx).mono ?_;rintro e w' ⟨v,φ1,rfl,hv,cS⟩;obtain⟨φ',lR,rp⟩:=g5 w' φ1 v hv cS;exact fe.P4 h2 h3 h4 h5 h6 lR (dD hd) fun _=>rp

theorem wi(hg:c9 g)(hu:Iu g)(hF:g.F=Fence.wide∧g.dep=0)(hY:∀ (i l:Nat) (I:Nat→(Nat→Prop)→(Nat→Prop)→World→Prop) (B:Nat→Prop),g.φ0[i]? = some (bB.ext l I B)→lQ g.P Fence.wide 0 g.Y l I g.S0)(is:List Nat)(hc:aU g.P Y f dM bT r a8)(uH:(∃ (i l:Nat) (I:Nat→(Nat→Prop)→(Nat→Prop)→World→Prop) (B:Nat→Prop),g.φ0[i]? = some (bB.ext l I B))→Y=g.Y)
  {ax:List Oper} {k:List It}   {fs cs:List AV}
  (bm:aG ad.toList E gd=some true) (hd:aO ⟨g.ty,g.N⟩ dst=true) (dV:bI pf (.call { callee:=.value x,args:=args,argTypes:=ts })=.ji) (hx:ev E x=.bU f fs cs) (dw:isOk (len objs) is=true) (jE:fE objs is=some (bT.map (bz (rn is (len objs)))))
  (has:(fs++args.toList.map (ev E)++cs).map lB=iu (rn is (len objs)) dM)
  (hr:R g pf Fin (.dr ad ax::k) (bf E dst (c8 (rn is (len objs)) r)) (cZ is (a8.map (bz (rn is (len objs)))) objs)) :
  R g pf Fin (.dr ad (⟨dst,.call { callee:=.value x,args:=args,argTypes:=ts },ty,pos,after,gd⟩::ax)::k) E objs:=by
 refine cL ?_ hr;show aI g ad _ E objs (bI pf (.call { callee:=.value x,args:=args,argTypes:=ts })) _ _
 rw[dV];exact mM hg hu hF hY is hc uH bm hd hx dw jE has

theorem aI.as{o:Oper}{v:AV}{c:cC}(hc:oc c=false)(h:aI g ad o E objs .ji v objs):aI g ad o E objs c v objs :=
 ⟨fun _=>rfl,fun _ _ _=>.refl _,fun E₁ o₁ jl a w h1 h2 h3=>h.step E₁ o₁ jl a w h1 (by
  rcases h2 with ⟨h2,_⟩ |⟨m,h2,_⟩ |h2
  ·subst h2;simp[oc]at hc
  ·subst h2;have:Nat.blt 0 (m+1)=true:=by rw[Nat.blt_eq];omega
   simp only[oc]at hc;rw[this]at hc;cases hc
  simp_all) h3⟩

theorem iT(hg:c9 g)(hu:Iu g)(hF:g.F=Fence.wide∧g.dep=0)(hY:∀ (i l:Nat) (I:Nat→(Nat→Prop)→(Nat→Prop)→World→Prop) (B:Nat→Prop),g.φ0[i]? = some (bB.ext l I B)→lQ g.P Fence.wide 0 g.Y l I g.S0)(is:List Nat)(hc:aU g.P Y f dM bT r a8)(uH:(∃ (i l:Nat) (I:Nat→(Nat→Prop)→(Nat→Prop)→World→Prop) (B:Nat→Prop),g.φ0[i]? = some (bB.ext l I B))→Y=g.Y)
  {ax:List Oper} {k:List It}   {fs cs:List AV}
  (bm:aG ad.toList E gd=some true) (hd:aO ⟨g.ty,g.N⟩ dst=true) (dV:oc (bI pf (.call { callee:=.value x,args:=args,argTypes:=ts }))=false) (hx:ev E x=.bU f fs cs) (dw:isOk (len objs) is=true) (jE:fE objs is=some (bT.map (bz (rn is (len objs)))))
  (has:(fs++args.toList.map (ev E)++cs).map lB=iu (rn is (len objs)) dM)
  (kh:cZ is (a8.map (bz (rn is (len objs)))) objs=objs)
  (hr:R g pf Fin (.dr ad ax::k) (bf E dst (c8 (rn is (len objs)) r)) objs) :
  R g pf Fin (.dr ad (⟨dst,.call { callee:=.value x,args:=args,argTypes:=ts },ty,pos,after,gd⟩::ax)::k) E objs:=by
 refine cL (aI.as dV ?_) hr;have h:=mM (ad:=ad) (after:=after) (pos:=pos) (ty:=ty) (ts:=ts) (dst:=dst) hg hu hF hY is hc uH bm hd hx dw jE has
 simp_all
end
end aw
namespace aw
open Go Go.RowKit

variable{bT objs:List Ob}{fn:Func}{E:bk}
def Jl (P:Program)(ty:Nat→Option Ty)(N:Nat)(w:World)(S:Nat→Prop)(φ:List bB)(Y:YP):G :=
 { P:=P,F:=Fence.wide,dep:=0,ty:=ty,N:=N,w0:=w,S0:=S,X0:=eD φ,φ0:=φ,Y:=Y,WH:=true }

structure GS (g:G) (bT:List Ob):Prop where
 ok:c9 g
 wide:g.F=Fence.wide∧g.dep=0
 j5:HS g.S0 g.φ0 bT g.w0
 x:∀b,g.X0 b→eD g.φ0 b
 bl:∀b,eD g.φ0 b→g.S0 b
 Y:∀ (i l:Nat) (I:Nat→(Nat→Prop)→(Nat→Prop)→World→Prop) (B:Nat→Prop),g.φ0[i]? = some (bB.ext l I B)→lQ g.P Fence.wide 0 g.Y l I g.S0
theorem GS.cm{g:G}(h:GS g bT):Iu g:=⟨h.j5.up,fun b hb=>h.bl b (h.x b hb)⟩

def bQ (nz:Bool) (n0:Nat) (objs:List Ob):Nat→AV→AV
 |0,_=>.any
 |n+1,x=>match x with
  | .agg l=>.agg (l.map (bQ nz n0 objs n))
  | .cH l=>.cH (l.map (bQ nz n0 objs n))
  | .bU f a c=>.bU f (a.map (bQ nz n0 objs n)) (c.map (bQ nz n0 objs n))
  | .ow i s=>bif Nat.ble (Nat.succ i) n0 then .ow i s else (match dk objs i with
   |some (.arr _ s' aa)=>bif Nat.beq s s' then .d (.sl aa) else .any
   |_=>.any)
  | .lo i off=>bif Nat.ble (Nat.succ i) n0 then .lo i off else (match dk objs i with
   |some (.box l)=>(match xP (l.map (bQ true n0 objs n)) with
    |some ds=>.d (.bG (ds.drop off))
    |none=>.any)
   |_=>.any)
  | .mp i=>bif Nat.ble (Nat.succ i) n0 then .mp i else .any
  | .yl i=>bif Nat.ble (Nat.succ i) n0 then .yl i else .any
  | .el i s r j=>bif Nat.ble (Nat.succ i) n0 then .el i s r j else .any
  | .vw i s r=>bif Nat.ble (Nat.succ i) n0 then .vw i s r else .any
  | .tt=>.d (.v (.bool true))
  | .ff=>.d (.v (.bool false))
  | .fs aa=>.d (.sl aa)
  | .d (.v (.slice none 0 0))=>bif nz then .d (.sl []) else .d (.v (.slice none 0 0))
  | .d y=>.d y
  | .any=>.any
section
variable {S0:Nat→Prop} {φ:List bB} {objs:List Ob} {w:World}

theorem aby{S:Nat→Prop}{n0 i s sz s':Nat}{aa:List (List D)}{v:Value}(hs:HS S0 φ objs w)(hv:RV S w φ (.ow i s) v)(ho:dk objs i=some (.arr sz s' aa))(Qb:s=s'){φ':List bB}
  (zI:∀b p,φ[i]? = some p→p.bl b→SS S0 φ' b) (hk:dE (SS S0 φ) w (SS S0 φ') w) :
  Rd (SS S0 φ') w (.sl aa) v:=by
 simp only[RV]at hv;obtain⟨_,ph,eQ,hx⟩:=hv;have aR:=cG hs eQ ho;cases ph<;>try (simp only[bd]at aR;done)
 rename_i Ip s2 v2 Gk;simp only[bd]at aR;obtain⟨rfl,he,aZ,aR⟩:=aR;obtain⟨_,hx⟩:=hx _ _ _ _ rfl;have hx:=hx an;subst hx;rcases aR with ⟨a2,rfl,rfl,_⟩ |⟨b,o,cap,cs,T,rfl,rfl,bc,hn,rF,hle,vR⟩
 ·exact .nil _ _
 ·refine Rd.sl (sz:=sz) (fun i j=>(cs[o+i * sz+j]?).getD undef) (zI b _ eQ rfl) bc hn rF (fun i r hi=>aZ r (gZ hi)) (fun i r j x hi hj=>?_) (fun i r j x hi hj=>?_)
  ·grind
  ·obtain ⟨y,h1,h2⟩:=vR i r j x hi hj;rw[h1];exact h2.mono hk

theorem JU(gQ:∀b,eD φ b→S0 b)(hs:HS S0 φ objs w)(n0:Nat):∀ (n:Nat) (nz:Bool) (x:AV) (v:Value),RV (SS S0 φ) w φ x v→RV (SS S0 (φ.take n0)) w (φ.take n0) (bQ nz n0 objs n x) v:=by
 have hp:∀i,i<n0→(φ.take n0)[i]? = φ[i]? := fun i hi=>qb hi
 have Xg:∀b,eD (φ.take n0) b→∃j p,j<n0∧φ[j]? = some p∧p.bl b:=by
  rintro b ⟨i,p,g1,g2⟩
  grind
 have bx:dE (SS S0 φ) w (SS S0 (φ.take n0)) w:=fun b hb _=>⟨⟨hb.1,fun hc=>by
  obtain⟨j,p,_,h1,h2⟩:=Xg b hc;exact hb.2 ⟨j,p,h1,h2⟩⟩,rfl⟩
 have zI:∀ {i:Nat},¬ i<n0→∀b p,φ[i]? = some p→p.bl b→SS S0 (φ.take n0) b:=fun {i} hi b p h1 h2=>⟨gQ b ⟨i,p,h1,h2⟩,fun hc=>by
  obtain⟨j,q,h3,h4,h5⟩:=Xg b hc;have:=hs.jA i j p q b h1 h4 h2 h5;omega⟩
 have alp:∀ {i:Nat},Nat.ble (Nat.succ i) n0=false→¬ i<n0:=fun {i} h hc=>by
  have:Nat.ble (Nat.succ i) n0=true:=Wa hc
  simp_all
 intro n;induction n with
 |zero=>intro nz x v _;simp[bQ,RV]
 |succ n ih =>
  intro nz x v hx;simp only[bQ];split
  case h_1 l =>
   simp only[RV]at hx ⊢;exact akL
  case h_2 l =>
   simp only[RV]at hx ⊢;exact akL
  case h_3 f a c =>
   simp only[RV]at hx ⊢;obtain⟨va,vc,h1,h2,h3⟩:=hx;exact⟨va,vc,h1,h2.map' _ fun x v h=>ih nz x v h,h3.map' _ fun x v h=>ih nz x v h⟩
  case h_4 i s =>
   cases hi:Nat.ble (Nat.succ i) n0
   ·simp only [cond_false];split
    ·rename_i sz s' aa ho;cases Qb:Nat.beq s s'
     ·simp[RV]
     ·simp only [cond_true,RV];exact aby (n0:=n0) hs hx ho (cp Qb) (zI (alp hi)) bx
    ·simp[RV]
   ·simp only [cond_true,RV] at hx ⊢;rw[hp i (ke hi)];exact hx
  case h_5 i off =>
   cases hi:Nat.ble (Nat.succ i) n0
   ·simp only [cond_false];split
    ·rename_i l ho;split
     ·rename_i ds kq;simp only[RV]at hx;obtain⟨b,hb,rfl⟩:=hx;have hk:=cG hs hb ho;simp only[bd]at hk;obtain⟨cs,T,bc,lz⟩:=hk;have h1:=lz.map' (bQ true n0 objs n) fun x v h=>ih true x v h
      have h2:=pd h1 kq;simp only[RV];refine Rd.bG (fun j=>(cs[off+j]?).getD undef) (zI (alp hi) b _ hb rfl) bc (fun j x hj=>?_) (fun j x hj=>?_)
      ·obtain ⟨u,h3,_⟩:=h2.get (off+j) (x:=.d x) k8;simp[h3]
      ·obtain ⟨u,h3,h4⟩:=h2.get (off+j) (x:=.d x) k8;rw[h3];simpa[RV]using h4
     ·simp[RV]
    ·simp[RV]
   ·simp only [cond_true,RV] at hx ⊢;rw[hp i (ke hi)];exact hx
  case h_6 i =>
   cases hi:Nat.ble (Nat.succ i) n0
   ·simp[RV]
   ·simp only [cond_true,RV] at hx ⊢;rw[hp i (ke hi)];exact hx
  case h_7 i =>
   cases hi:Nat.ble (Nat.succ i) n0
   ·simp[RV]
   ·simp only [cond_true,RV] at hx ⊢;rw[hp i (ke hi)];exact hx
  case h_8 i s r j =>
   cases hi:Nat.ble (Nat.succ i) n0
   ·simp[RV]
   ·simp only [cond_true,RV] at hx ⊢;rw[hp i (ke hi)];exact hx
  case h_9 i s r =>
   cases hi:Nat.ble (Nat.succ i) n0
   ·simp[RV]
   ·simp only [cond_true,RV] at hx ⊢;rw[hp i (ke hi)];exact hx
  case h_10=>simp only[RV]at hx ⊢;subst hx;exact .v _
  case h_11=>simp only[RV]at hx ⊢;subst hx;exact .v _
  case h_12=>simp only[RV]at hx ⊢;exact hx.1.mono bx
  case h_13 =>
   cases nz
   ·simp only[cond_false,RV]at hx ⊢;exact hx.mono bx
   ·simp only[cond_true,RV]at hx ⊢;cases hx;exact .nil _ _
  case h_14=>simp only[RV]at hx ⊢;exact hx.mono bx
  case h_15=>simp[RV]
end
section
variable {g:G} {pf:Nat→cC}

def zE (g:G)(fn:Func)(r:AV)(a8:List Ob):Exit→Act→World→Prop :=
 bodyPostM g.F g.dep g.P fn fun e w'=>∃v φ',e=.returned v∧RV (SS g.S0 φ') w' φ' r v∧jJ g.S0 g.φ0 g.w0 φ' a8 w'

theorem zZ(hg:GS g bT)(jB:g.rr=[]){av:AV}(n0 n:Nat)(qP:bT.length≤n0)(mZ:n9 g.ty E objs fn.results.toList=some av){a:Act}{w:World}(hs:fe g E objs a w) :
  zE g fn (bQ true n0 objs n av) ((objs.take n0).map (aQ (bQ false n0 objs n))) .ret a w∧zE g fn (bQ true n0 objs n av) ((objs.take n0).map (aQ (bQ false n0 objs n))) .normal a w:=by
 suffices hl:LeavesInM g.F g.dep g.P fn a.tmps (fun e w'=>∃v φ',e=.returned v∧RV (SS g.S0 φ') w' φ' (bQ true n0 objs n av) v∧jJ g.S0 g.φ0 g.w0 φ' ((objs.take n0).map (aQ (bQ false n0 objs n))) w') a.defers .returning w from⟨hl,hl⟩
 refine EA jB (E:=E) (objs:=objs) (fun tmps w fh=>?_) a w hs;clear hs;have hs:=fh;obtain⟨φ,h1,h2,h3,h4,h5,h6⟩:=hs;obtain⟨vv,h7,h8⟩:=JG hg.ok.ty h1 h3 mZ;have gQ:∀b,eD φ b→g.S0 b:=fun b hb=>(h2 b hb).elim (hg.cm.up b) (hg.cm.x b)
 have h9:=JU gQ h1 n0 n true av vv h8;have hp:∀i,i<n0→(φ.take n0)[i]? = φ[i]? := fun i hi=>qb hi
 have Xg:∀b,eD (φ.take n0) b→eD φ b:=by
  rintro b ⟨i,p,g1,g2⟩
  have hi:i<n0:=by
   have:=(bC.1 g1).1;simp at this;omega
  exact⟨i,p,by rw[← hp i hi];exact g1,g2⟩
 have cS:jJ g.S0 g.φ0 g.w0 (φ.take n0) ((objs.take n0).map (aQ (bQ false n0 objs n))) w:=by
  refine⟨h1.JM (bQ false n0 objs n) (by simp[h1.len]) (fun i p b hi hb=>⟨p,?_,hb⟩) (fun i oT hi=>.inr (.inl ?_)) (JU gQ h1 n0 n false),.of fun b hb GF=>?_,fun i p hi=>?_,h6.size,h6.os,h6.tape,h6.out,fun b hb hn=>h6.fr b hb fun hc=>hn (hg.x b hc),fun b hb=>?_,fun i l I B hi=>?_⟩
  ·have zI:i<n0:=by
    have:=(bC.1 hi).1;simp at this;omega
   rw[← hp i zI];exact hi
  ·have zI:i<n0:=by
    have:=(bC.1 hi).1;simp at this;omega
   rw[eU,qb zI]at hi;cases ho:objs[i]? with
   |none=>rw[ho]at hi;cases hi
   |some ob=>rw[ho]at hi;exact⟨ob,rfl,hp i zI,by simpa using hi.symm⟩
  ·refine ⟨⟨hb.1,fun hc=>?_⟩,h6.fr b GF fun hc=>hb.2 (hg.x b hc)⟩;rcases h2 b (Xg b hc) with h |h
   ·omega
   ·exact hb.2 (hg.x b h)
  ·obtain ⟨p',mm,Xe⟩:=h6.le i p hi;exact⟨p',by rw[hp i (I9 (bC.1 hi).1 (by rw[hg.j5.len];exact qP))];exact mm,Xe⟩
  ·exact(h2 b (Xg b hb)).symm.imp (hg.x b) id
  ·have zI:i<n0:=by
    have:=(bC.1 hi).1;simp at this;omega
   rw[hp i zI]at hi;exact h6.gen i l I B hi
 grind

theorem aK(hg:GS g bT){k:List It}{objs a8:List Ob}{av r:AV}(n0 n:Nat)(qP:bT.length≤n0)(mZ:n9 g.ty E objs fn.results.toList=some av)(hr:bQ true n0 objs n av=r)(ho:(objs.take n0).map (aQ (bQ false n0 objs n))=a8)(jB:g.rr=[]:=by rfl):R g pf (zE g fn r a8) (.code .ret::k) E objs:=by
 subst hr;subst ho;intro _ a w hs;exact wpIn_ret (qk k (zZ hg jB n0 n qP mZ hs).1)

theorem l3(hg:GS g bT){objs a8:List Ob}{av r:AV}(n0 n:Nat)(qP:bT.length≤n0)(mZ:n9 g.ty E objs fn.results.toList=some av)(hr:bQ true n0 objs n av=r)(ho:(objs.take n0).map (aQ (bQ false n0 objs n))=a8)(jB:g.rr=[]:=by rfl):R g pf (zE g fn r a8) [] E objs:=by
 subst hr;subst ho;intro _ a w hs;exact(zZ hg jB n0 n qP mZ hs).2

theorem aU.ej{P:Program}{ty:Nat→Option Ty}{Y:YP}{f:Nat}{fn:Func}{cd:Code}{args:List AV}{objs a8:List Ob}{r:AV}(fY:jk P ty)(hm:P.follows .mixedOrders=true)(hf:P.funcs[f]? = some fn)(hb:fn.body=some cd)
  (hn:(fn.name == "runtime.NumGoroutine")=false) (dw:fB pf cd=true) (hN:args.length≤fn.ntmps) (aZ:objs.length≤a8.length)
  (h:∀ (w:World) (S:Nat→Prop) (φ:List bB),GS (Jl P ty fn.ntmps w S φ Y) objs→R (Jl P ty fn.ntmps w S φ Y) pf (zE (Jl P ty fn.ntmps w S φ Y) fn r a8) [.code cd] (lP args 0) objs):aU P Y f args objs r a8:=by
 refine⟨iJ hf hb hn,fun S φ w bL ha Vb gQ hY hv=>?_,aZ⟩;have hg:GS (Jl P ty fn.ntmps w S φ Y) objs:=⟨⟨fun _=>trivial,(ha.at0 fun _ h=>h.2).iS fun _ h _=>⟨⟨h.1.1,h.2⟩,rfl⟩,rfl,rfl,fY,hm⟩,⟨rfl,rfl⟩,Vb,fun _ h=>h,gQ,hY⟩;have aZ:=hv.length;refine callsIn_wide.1 (callsIn_of_wp_marks (F:=Fence.wide) (n:=0) hf hb trivial ?_)
 have hs:fe (Jl P ty fn.ntmps w S φ Y) (lP args 0) objs { tmps:=bL.toArray++Array.replicate (fn.ntmps - bL.toArray.size) undef,defers:=[] } w:=by
  refine⟨φ,Vb,fun b hb=>.inr hb,fun t=>?_,by simp[Jl];omega,.none rfl ⟨fun _=>rfl,.nil,by simp⟩,⟨ef _,rfl,rfl,rfl,fun _ _ _=>rfl,fun i l I B h=>⟨B,h⟩,.refl _⟩⟩;rw[vU];simp only[aa2,if_false,So];cases ha:args[t]? with
  |none=>simp[RV]
  |some x =>
   exact mB8
 have hR:=RK.ej (pf:=pf) (k:=[.code cd]) ⟨dw,trivial⟩ (h w S φ hg) aC _ _ hs;refine wpIn_mono hR ?_;intro e a' w' hk;cases e<;>exact hk
end
end aw
namespace aw
open Go Go.RowKit

variable{objs bT a8:List Ob}{fn:Func}{E:bk}{r:AV}
structure DQ (P:Program) (Y:YP) (f:Nat) (args:List AV) (objs:List Ob) (r:AV) (a8:List Ob):Prop where
 call:rJ P f
 run:∀ (S:Nat→Prop) (φ:List bB) (w:World) (bL:List Value) (u:FrameMode),gx P (SS S φ) w→HS S φ objs w→(∀ b,eD φ b→S b)→(∀ (i l:Nat) (I:Nat→(Nat→Prop)→(Nat→Prop)→World→Prop) (B:Nat→Prop),φ[i]? = some (bB.ext l I B)→lQ P Fence.wide 0 Y l I S)→aW (SS S φ) w φ args bL →
  CallsDIn Fence.wide 0 P f bL.toArray u w fun e u' w'=>u'=u∧∃v φ',e=.returned v∧RV (SS S φ') w' φ' r v∧jJ S φ w φ' a8 w'
 len:objs.length≤a8.length
section
variable {g:G} {pf:Nat→cC}

def Bl (g:G)(fn:Func)(r:AV)(a8:List Ob):Exit→Act→World→Prop:=fun e a w=>zE g fn r a8 e a w∧a.defers=[]

theorem Qv(hg:GS g bT)(jB:g.rr=[])(hm:g.WH=false){av:AV}(n0 n:Nat)(qP:bT.length≤n0)(mZ:n9 g.ty E objs fn.results.toList=some av){a:Act}{w:World}(hs:fe g E objs a w) :
  Bl g fn (bQ true n0 objs n av) ((objs.take n0).map (aQ (bQ false n0 objs n))) .ret a w∧Bl g fn (bQ true n0 objs n av) ((objs.take n0).map (aQ (bQ false n0 objs n))) .normal a w:=by
 have h:=zZ hg jB n0 n qP mZ hs
 have hd:a.defers=[]:=by
  obtain⟨φ,h1,h2,h3,h4,h5,h6⟩:=hs;exact(h5.only jB).1 hm
 exact⟨⟨h.1,hd⟩,⟨h.2,hd⟩⟩

theorem ag6(hg:GS g bT){k:List It}{av r:AV}(n0 n:Nat)(qP:bT.length≤n0)(mZ:n9 g.ty E objs fn.results.toList=some av)(hr:bQ true n0 objs n av=r)(ho:(objs.take n0).map (aQ (bQ false n0 objs n))=a8)(jB:g.rr=[]:=by rfl)(hm:g.WH=false:=by rfl):R g pf (Bl g fn r a8) (.code .ret::k) E objs:=by
 subst hr;subst ho;intro _ a w hs;exact wpIn_ret (qk k (Qv hg jB hm n0 n qP mZ hs).1)

theorem M3(hg:GS g bT){av r:AV}(n0 n:Nat)(qP:bT.length≤n0)(mZ:n9 g.ty E objs fn.results.toList=some av)(hr:bQ true n0 objs n av=r)(ho:(objs.take n0).map (aQ (bQ false n0 objs n))=a8)(jB:g.rr=[]:=by rfl)(hm:g.WH=false:=by rfl):R g pf (Bl g fn r a8) [] E objs:=by
 subst hr;subst ho;intro _ a w hs;exact(Qv hg jB hm n0 n qP mZ hs).2

def AR (P:Program)(ty:Nat→Option Ty)(N:Nat)(w:World)(S:Nat→Prop)(φ:List bB)(Y:YP):G:={ Jl P ty N w S φ Y with WH:=false }

theorem DQ.ej{P:Program}{ty:Nat→Option Ty}{Y:YP}{f:Nat}{fn:Func}{cd:Code}{args:List AV}{objs a8:List Ob}{r:AV}(fY:jk P ty)(hm:P.follows .mixedOrders=true)(hf:P.funcs[f]? = some fn)(hb:fn.body=some cd)
  (hn:(fn.name == "runtime.NumGoroutine")=false) (dw:fB pf cd=true) (hN:args.length≤fn.ntmps) (aZ:objs.length≤a8.length)
  (h:∀ (w:World) (S:Nat→Prop) (φ:List bB),GS (AR P ty fn.ntmps w S φ Y) objs→R (AR P ty fn.ntmps w S φ Y) pf (Bl (AR P ty fn.ntmps w S φ Y) fn r a8) [.code cd] (lP args 0) objs):DQ P Y f args objs r a8:=by
 refine⟨iJ hf hb hn,fun S φ w bL u ha Vb gQ hY hv=>?_,aZ⟩;have hg:GS (AR P ty fn.ntmps w S φ Y) objs:=⟨⟨fun _=>trivial,(ha.at0 fun _ h=>h.2).iS fun _ h _=>⟨⟨h.1.1,h.2⟩,rfl⟩,rfl,rfl,fY,hm⟩,⟨rfl,rfl⟩,Vb,fun _ h=>h,gQ,hY⟩;have aZ:=hv.length;refine callsDIn_of_wp (F:=Fence.wide) (n:=0) hf hb trivial ?_
 have hs:fe (AR P ty fn.ntmps w S φ Y) (lP args 0) objs { tmps:=bL.toArray++Array.replicate (fn.ntmps - bL.toArray.size) undef,defers:=[] } w:=by
  exact akN
 have hR:=RK.ej (pf:=pf) (k:=[.code cd]) ⟨dw,trivial⟩ (h w S φ hg) aC _ _ hs;refine wpIn_mono hR ?_;intro e a' w' hk;cases e with
 |normal =>
  have hk:Bl _ fn r a8 .normal a' w':=hk;exact akG
 |ret =>
  have hk:Bl _ fn r a8 .ret a' w':=hk;exact akG
 |panic chain =>
  have hk:Bl _ fn r a8 (.panic chain) a' w':=hk;obtain⟨h1,h2⟩:=hk;simp only[zE,bodyPostM,h2,LeavesInM,LeavesIn]at h1
  simp_all
 |exit i=>exact(hk:Bl _ fn r a8 (.exit i) a' w').1.elim
 |goto l=>exact(hk:Bl _ fn r a8 (.goto l) a' w').1.elim
 |outgrown =>
  have hk:Bl _ fn r a8 .outgrown a' w':=hk;obtain⟨v,φ',h,_⟩:=hk.1;cases h

theorem aU.aeU{P:Program}{ty:Nat→Option Ty}{Y:YP}{f:Nat}{cd:Code}{args:List AV}(fY:jk P ty)(hm:P.follows .mixedOrders=true)(hf:P.funcs[f]? = some fn)(hb:fn.body=some cd)
  (hn:(fn.name == "runtime.NumGoroutine")=false) (dw:fB pf cd=true) (hN:args.length≤fn.ntmps) (aZ:objs.length≤a8.length)
  (h:∀ (w:World) (S:Nat→Prop) (φ:List bB),GS (AR P ty fn.ntmps w S φ Y) objs→R (AR P ty fn.ntmps w S φ Y) pf (zE (AR P ty fn.ntmps w S φ Y) fn r a8) [.code cd] (lP args 0) objs):aU P Y f args objs r a8:=by
 refine⟨iJ hf hb hn,fun S φ w bL ha Vb gQ hY hv=>?_,aZ⟩;have hg:GS (AR P ty fn.ntmps w S φ Y) objs:=⟨⟨fun _=>trivial,(ha.at0 fun _ h=>h.2).iS fun _ h _=>⟨⟨h.1.1,h.2⟩,rfl⟩,rfl,rfl,fY,hm⟩,⟨rfl,rfl⟩,Vb,fun _ h=>h,gQ,hY⟩;have aZ:=hv.length;refine callsIn_wide.1 (callsIn_of_wp_marks (F:=Fence.wide) (n:=0) hf hb trivial ?_)
 have hs:fe (AR P ty fn.ntmps w S φ Y) (lP args 0) objs { tmps:=bL.toArray++Array.replicate (fn.ntmps - bL.toArray.size) undef,defers:=[] } w:=by
  exact akN
 have hR:=RK.ej (pf:=pf) (k:=[.code cd]) ⟨dw,trivial⟩ (h w S φ hg) aC _ _ hs;refine wpIn_mono hR ?_;intro e a' w' hk;cases e<;>exact hk

def EK (g:G)(l:List (Nat × List AV × List AV)):G:={ g with rr:=l }
theorem GS.sw(h:GS g bT)(l:List (Nat × List AV × List AV)):GS (EK g l) bT:=⟨⟨h.ok.fn,h.ok.amb,h.ok.depth,h.ok.alive,h.ok.ty,h.ok.mixed⟩,h.wide,h.j5,h.x,h.bl,h.Y⟩

def Lv (g:G)(fn:Func)(r:AV)(a8:List Ob)(l:List (Nat × List AV × List AV))(E:bk)(objs:List Ob):Prop :=
 ∀ (ds:List Deferred) (tmps:Array Value) (w:World),MX (EK g l) E objs tmps [] ds w→LeavesInM g.F g.dep g.P fn tmps (fun e w'=>∃v φ',e=.returned v∧RV (SS g.S0 φ') w' φ' r v∧jJ g.S0 g.φ0 g.w0 φ' a8 w') ds .returning w

theorem Lv.nil{bT:List Ob}(hg:GS g bT){fn:Func}{E:bk}{objs a8:List Ob}{av r:AV}(n0 n:Nat)(qP:bT.length≤n0)(mZ:n9 g.ty E objs fn.results.toList=some av)(hr:bQ true n0 objs n av=r)(ho:(objs.take n0).map (aQ (bQ false n0 objs n))=a8):Lv g fn r a8 [] E objs:=by
 subst hr;subst ho;intro ds tmps w hs;obtain⟨φ,h1,h2,h3,h4,h5,h6,h7⟩:=hs;have:=h7.nil;subst this;exact(zZ (g:=EK g []) (hg.sw []) rfl n0 n qP mZ (a:={ tmps:=tmps,defers:=[] }) ⟨φ,h1,h2,h3,h4,.none rfl h5,⟨h6.size,h6.os,h6.tape,h6.out,h6.fr,h6.gen,h6.le⟩⟩).1

theorem Lv.cons{bT:List Ob}(hg:GS g bT){fn:Func}{E:bk}{objs a8 objs':List Ob}{r:AV}{l:List (Nat × List AV × List AV)}{f:Nat}{fs cs:List AV}(is:List Nat){Y:YP}{dM:List AV}{o0 o1:List Ob}{q:AV}(hc:DQ g.P Y f dM o0 q o1)(uH:(∃ (i l:Nat) (I:Nat→(Nat→Prop)→(Nat→Prop)→World→Prop) (B:Nat→Prop),g.φ0[i]? = some (bB.ext l I B))→Y=g.Y)
  (dw:isOk (len objs) is=true) (jE:fE objs is=some (o0.map (bz (rn is (len objs))))) (has:(fs++cs).map lB=iu (rn is (len objs)) dM) (ho:cZ is (o1.map (bz (rn is (len objs)))) objs=objs')
  (hr:Lv g fn r a8 l E objs'):Lv g fn r a8 ((f,fs,cs)::l) E objs:=by
 subst ho;intro ds tmps w hs;obtain⟨φ,h1,h2,h3,h4,h5,h6,h7⟩:=hs;cases ds with
 |nil=>simp[EK,vW]at h7
 |cons d ds =>
  have h7:vW (SS g.S0 φ) w φ ((f,fs,cs)::l) (d::ds):=h7;simp only[vW]at h7;obtain⟨⟨va,vc,rfl,hva,hvc⟩,h8⟩:=h7;have eK:=(hva.append hvc).qi lB bM.lB;rw[has]at eK;have hu:=hg.cm;obtain⟨S,φ0,gA,g1,g2,g3,g4,g5⟩:=Bh (hg.ok.Eu h2 ⟨h6.size,h6.os,h6.tape,h6.out,h6.fr,h6.gen,h6.le⟩) hu hg.Y is hc.len uH dw jE h1 h2 ⟨h6.size,h6.os,h6.tape,h6.out,h6.fr,h6.gen,h6.le⟩ eK;have fx:=hc.run S φ0 w _ .returning gA g1 g2 g3 g4;simp only[LeavesInM];have hF:=hg.wide.1;have hd:=hg.wide.2;refine⟨by simp,.inr ⟨fun h=>(by rw[hF]at h;cases h),.func f,vc.toArray,f,(va++vc).toArray,rfl,?_,fun _ _=>hg.ok.fn _,?_⟩⟩
  ·simp only [invoke];rw[show va.toArray++vc.toArray=(va++vc).toArray by simp];exact hc.call _ _
  ·rw [hF,hd];refine fx.mono ?_;rintro e u' w' ⟨rfl,v,φ1,rfl,hv,cS⟩;obtain⟨φ',lR,_⟩:=g5 w' φ1 v hv cS;simp only[settle];have:=hr ds tmps w' ⟨φ',lR.hs,fun b hb=>?_,fun t=>(h3 t).mono lR.iS lR.le,h4,h5.P4 lR,⟨tP h6.size lR.size,lR.os.trans h6.os,lR.tape.trans h6.tape,lR.out.trans h6.out,fun b hb hx=>?_,fun i l I B hi=>?_,h6.le.trans lR.le⟩,h8.mono lR.iS lR.le⟩
   ·simp_all
   ·rcases lR.own b hb with h | h
    ·exact h2 b h
    ·left;have:=h6.size;simp only[EK]at this ⊢;omega
   ·rw [lR.fr b (I9 hb h6.size) fun hc=>?_]
    ·exact h6.fr b hb hx
    ·rcases h2 b hc with h | h
     ·have:b<g.w0.heap.size:=hb;simp only[EK]at h;omega
     ·exact hx h
   ·obtain ⟨B0,h⟩:=lR.ext i l I B hi;exact h6.gen i l I B0 h

theorem ag7{k:List It}(hl:Lv g fn r a8 g.rr E objs):R g pf (zE g fn r a8) (.code .ret::k) E objs:=by
 intro _ a w hs;refine wpIn_ret (qk k ?_);exact akp

theorem Xh(hl:Lv g fn r a8 g.rr E objs):R g pf (zE g fn r a8) [] E objs:=by
 intro _ a w hs;exact akp
end
end aw
namespace aw
open Go Go.RowKit
section
variable {g:G} {pf:Nat→cC} {ad:Array Oper} {Fin:Exit→Act→World→Prop}

theorem abz {bT:List Ob}(hgs:GS g bT){dst:Option Nat}{x:Operand}{args:Array Operand}{ts:Array Nat}{ty:Nat}{pos:String}{after:Array Edge}{gd:Option (Nat × Bool)}
  {ax:List Oper} {k:List It} {E:bk} {objs:List Ob} {i n:Nat} {avs:List AV}
  (bm:aG ad.toList E gd=some true) (hd:aO ⟨g.ty,g.N⟩ dst=true) (dV:bI pf (.call { callee:=.value x,args:=args,argTypes:=ts })=.ji) (hx:ev E x=.yl i) (ho:dk objs i=some (.Ii n))
  (has:(args.toList.map (ev E)).map lB=avs) (hp:kZ avs=true) (hy:g.Y.ys[n]? = some avs) (xA:n=0∨g.Y.go n=true)
  (hr:R g pf Fin (.dr ad ax::k) (bf E dst (bV (g.Y.go (n+1)))) (da objs i (.Ii (n+1)))) :
  R g pf Fin (.dr ad (⟨dst,.call { callee:=.value x,args:=args,argTypes:=ts },ty,pos,after,gd⟩::ax)::k) E objs:=by
 refine cL ?_ hr;show aI g ad _ E objs (bI pf (.call { callee:=.value x,args:=args,argTypes:=ts })) _ _
 rw[dV];have hg:=hgs.ok;refine⟨fun h=>absurd rfl (h _),(fun b h hb=>by cases h;omega),fun E₁ o₁ jl a w he hoo hs Q=>?_⟩;rcases hoo with ⟨h,_⟩ |⟨_,h,_⟩ |⟨nQ,rM⟩
 ·cases h
 ·cases h
 subst nQ;subst rM;obtain⟨φ,h1,h2,h3,h4,h5,h6⟩:=hs;rw[mL (cK bm) he h3];simp only[if_true];refine⟨pk hg _ w a,?_⟩;have hρ:=lf (o:=⟨dst,.call { callee:=.value x,args:=args,argTypes:=ts },ty,pos,after,gd⟩) he h3;simp only[Op.operands,Call.operands]at hρ;have aN:=hρ x aC;rw[hx]at aN;simp only[RV]at aN;obtain⟨l,I,B,hφ,aN⟩:=aN;have mr:aW (SS g.S0 φ) w φ (args.toList.map (ev E)) (args.toList.map a.eval):=aW.map _ _ _ fun y hy=>hρ y kb
 have eK:=mr.qi lB bM.lB;rw[has]at eK;have als:=aW.pure (φ':=[]) (dE.refl _ _) hp eK;have hk:=cG h1 hφ ho;simp only[bd]at hk;obtain⟨B0,hg0⟩:=h6.gen i l I B hφ;have hbB:∀b,B b→eD φ b:=fun b hb=>⟨i,_,hφ,hb⟩
 obtain ⟨fn,tmps,assign,body,hyr,MZ⟩:=hgs.Y i l I B0 hg0 n B w (SS g.S0 φ) avs _ hk.2 (fun b hb=>⟨hb.1,fun hc=>hb.2 (hbB b hc)⟩) (hg.Eu h2 h6)
  (fun b hb=>⟨h1.up b hb,fun hc=>by have:=h1.lt b hc;omega⟩) hy xA als hp
 have fm:(execOp a.eval ⟨dst,.call { callee:=.value x,args:=args,argTypes:=ts },ty,pos,after,gd⟩).run g.P w=.ok (.round l fn tmps assign body) w:=by
  have h7:(resolve a.eval { callee:=.value x,args:=args,argTypes:=ts } ty).run g.P w=.ok { target:=.fn (.yield l) #[],args:=(args.toList.map a.eval).toArray } w:=by
   simp only[resolve,aN,Deferred.ofValue,Sem.run_bind,Sem.run_pure,Result.andThen_ok];congr 2;apply Array.toList_inj.1;simp
  simp only[execOp,Sem.run_bind,h7,Result.andThen_ok,invoke];exact hyr
 rw[Oper.semAt_eq _ _ _ aC,fm];refine⟨fun h=>by rw[hg.depth]at h;simp at h,?_⟩;obtain⟨hF,hd0⟩:=hgs.wide;rw[hF,hd0];refine MZ.mono ?_;rintro e w' ⟨rfl,B',hI,hsz,hos,JI,iI,hfr,hB'⟩;have fu:i<φ.length:=(bC.1 hφ).1
 have cS:jJ g.S0 φ w (φ.set i (.ext l I B')) (o₁.set i (.Ii (n+1))) w':=by
  refine jJ.swap h1 hφ (.inr (.inr (.inr (.inl ⟨_,_,_,_,rfl,rfl⟩)))) hsz (fun c hc hn=>hfr c hc hn) (fun b hb=>hB' b hb) hos JI iI (fun bx _=>?_) (fun l' I' B'' he=>by simp_all);simp only[bd];refine⟨hk.1,hk.1 _ _ _ _ _ _ cP (fun _ _=>rfl) (fun b hb _=>⟨?_,rfl⟩) hI⟩;refine⟨hb.1.1,fun hc=>?_⟩;rcases lC hc with ⟨j,q,hj,g1,g2⟩ |g1
  ·exact hb.1.2 ⟨j,q,g1,g2⟩
  ·exact hb.2 g1
 have abw:=fe.P4 (v:=bV (g.Y.go (n+1))) (vv:=.bool (g.Y.go (n+1))) h2 h3 h4 h5 h6 cS (dD hd) fun _=>by simp only[RV,bV];exact .v _
 rw[bq];exact abw
end
end aw
namespace aw
open Go Go.RowKit

variable{objs:List Ob}{E:bk}{φ:List bB}{w:World}{k:List It}{g:G}
structure HC (R:Nat→Prop) (φ:List bB) (objs:List Ob) (w:World):Prop where
 len:φ.length=objs.length
 ok:∀ (i:Nat) (ph:bB) (ob:Ob),φ[i]? = some ph→objs[i]? = some ob→bd R w φ ph ob
 jA:abk φ
 lt:∀b,eD φ b→b<w.heap.size
theorem HS.hc{S0:Nat→Prop}(h:HS S0 φ objs w):HC (SS S0 φ) φ objs w:=⟨h.len,h.ok,h.jA,h.lt⟩

theorem HC.mono{R R':Nat→Prop}{φ:List bB}{objs:List Ob}{w w':World}(h:HC R φ objs w)(hsz:w.heap.size≤w'.heap.size)(hk:dE R w R' w')(hb:∀b,eD φ b→w'.heap[b]? = w.heap[b]?):HC R' φ objs w' :=
 ⟨h.len,fun i ph ob h1 h2=>(h.ok i ph ob h1 h2).mono hk (.refl _) hsz fun b uc=>hb b ⟨i,ph,h1,uc⟩,h.jA,fun b uc=>I9 (h.lt b uc) hsz⟩
theorem HC.hs{S0:Nat→Prop}(h:HC (SS S0 φ) φ objs w)(SL:∀b,w.heap.size≤b→S0 b):HS S0 φ objs w:=⟨h.len,h.ok,h.jA,h.lt,SL⟩

def kj (g:G)(l:Nat)(w:World)(R X:Nat→Prop)(φ0:List bB):G :=
 { P:=g.P,F:=Fence.wide.inRound l,dep:=0,ty:=g.ty,N:=g.N,w0:=w,S0:=R,X0:=X,φ0:=φ0,Y:=⟨[],fun _=>true⟩,WH:=false }
theorem sL(hg:c9 g)(l:Nat)(w:World)(R X:Nat→Prop)(φ0:List bB)(ha:gx g.P (fun b=>R b∧¬ X b∧b<w.heap.size) w):c9 (kj g l w R X φ0):=⟨fun _=>trivial,ha,rfl,rfl,hg.ty,hg.mixed⟩

def GI:List AV→List AV→Prop
 |[],[]=>True
 |x::l,y::m=>bM x y∧GI l m
 |_,_=>False

def nR:Ob→Ob→Prop
 | .box l,.box m=>GI l m
 |_,.dead=>True
 |a,b=>a=b

def wj:List Ob→List Ob→Prop
 |[],[]=>True
 |a::l,b::m=>nR a b∧wj l m
 |_,_=>False

theorem GI.rvs{S:Nat→Prop}{w:World}{φ:List bB}:∀ {l m:List AV} {vs:List Value},GI l m→aW S w φ l vs→aW S w φ m vs
 |[],[],_,_,h=>h
 |[],_::_,_,h,_=>by simp[GI]at h
 |_::_,[],_,h,_=>by simp[GI]at h
 |x::l,y::m,[],_,h=>by simp[aW]at h
 |x::l,y::m,v::vs,h,hv=>by
  simp only[GI]at h;simp only[aW]at hv ⊢;exact⟨h.1 _ _ _ _ hv.1,h.2.rvs hv.2⟩

theorem nR.ok{S:Nat→Prop}{ph:bB}{a b:Ob}(h:nR a b)(ho:bd S w φ ph a):bd S w φ ph b:=by
 unfold nR at h;split at h
 ·cases ph <;> simp only [bd] at ho ⊢
  obtain⟨cs,T,h1,h2⟩:=ho;exact⟨cs,T,h1,h.rvs h2⟩
 ·simp only[bd]
 simp_all

theorem wj.get:∀ {l m:List Ob},wj l m→l.length=m.length∧∀ (i:Nat) (b:Ob),m[i]? = some b→∃a,l[i]? = some a∧nR a b
 |[],[],_=>⟨rfl,by simp⟩
 |[],_::_,h=>by simp[wj]at h
 |_::_,[],h=>by simp[wj]at h
 |x::l,y::m,h=>by
  simp only[wj]at h;obtain⟨h1,h2⟩:=h.2.get
  grind

theorem fe.obs{objs objs':List Ob}{a:Act}(h:wj objs objs')(hs:fe g E objs a w):fe g E objs' a w:=by
 obtain⟨φ,h1,h2⟩:=hs;obtain⟨h3,h4⟩:=h.get;exact⟨φ,⟨h1.len.trans h3,fun i ph b hi hb=>by obtain⟨a,h5,h6⟩:=h4 i b hb;exact h6.ok (h1.ok i ph a hi h5),h1.jA,h1.lt,h1.up⟩,h2⟩

theorem nR.refl(a:Ob):nR a a:=by
 cases a<;>simp only[nR]
 rename_i l;induction l with
 |nil=>simp[GI]
 |cons x l ih=>exact⟨.refl x,ih⟩

theorem vB{pf:Nat→cC}{Fin:Exit→Act→World→Prop}(objs':List Ob)(h:wj objs objs')(ht:gz k=true)(hr:R g pf Fin k E objs'):R g pf Fin k E objs :=
 mC ht (fun _ _ hs=>hs.obs h) hr

def alv (g:G) (E:bk) (objs:List Ob):Exit→Act→World→Prop
 | .normal,a,w=>fe g E objs a w
 |_,_,_=>False

def ag9 (g:G) (objs:List Ob) (go:Bool) (jmp:Code):Exit→Act→World→Prop
 | .normal,a,w=>go=true∧∃E,fe g E objs a w
 | .ret,a,w=>go=false∧jmp=.ret∧∃E,fe g E objs a w
 | .exit id,a,w=>go=false∧jmp=.exit id∧∃E,fe g E objs a w
 |_,_,_=>False
section
variable {g:G} {pf:Nat→cC} {Fin:Exit→Act→World→Prop}

theorem M4{E E1:bk}{objs a8:List Ob}(hE:n8 E E1)(ho:objs=a8):R g pf (alv g E1 a8) [] E objs:=by
 subst ho;exact fun _ a w hs=>hs.zH hE.SK

theorem xG{objs a8:List Ob}{go:Bool}{jmp:Code}(xA:go=true)(ho:objs=a8):R g pf (ag9 g a8 go jmp) [] E objs:=by
 subst ho;exact fun _ a w hs=>⟨xA,E,hs⟩

theorem M5{objs a8:List Ob}{go:Bool}{jmp:Code}(xA:go=false)(hj:jmp=.ret)(ho:objs=a8):R g pf (ag9 g a8 go jmp) (.code .ret::k) E objs:=by
 subst ho;intro _ a w hs;exact wpIn_ret (qk k ⟨xA,hj,E,hs⟩)

def EL (E:bk):List Nat→List AV→bk
 |p::ps,x::xs=>EL (put E p x) ps xs
 |_,_=>E

theorem JV{S:Nat→Prop}{w:World}{φ:List bB}:∀ (ps:List Nat) (xs:List AV) (vs:List Value) (E:bk) (tmps:Array Value),kY S w φ E { tmps:=tmps,defers:=[] }→(∀p∈ps,p<tmps.size)→ps.length=xs.length→aW S w φ xs vs →
  kY S w φ (EL E ps xs) { tmps:=(ps.zip vs).foldl (fun t (p:Nat × Value)=>t.setIfInBounds p.1 p.2) tmps,defers:=[] }∧((ps.zip vs).foldl (fun t (p:Nat × Value)=>t.setIfInBounds p.1 p.2) tmps).size=tmps.size
 |[],xs,vs,E,tmps,h,_,_,_=>by simpa[EL]using h
 |p::ps,[],vs,E,tmps,h,_,hl,_=>by simp at hl
 |p::ps,x::xs,[],E,tmps,h,_,_,hv=>by simp[aW]at hv
 |p::ps,x::xs,v::vs,E,tmps,h,hp,hl,hv=>by
  simp only[aW]at hv
  have h1:kY S w φ (put E p x) { tmps:=tmps.setIfInBounds p v,defers:=[] }:=by
   have:=Qk (d:=some p) (v:=x) (vv:=v) h rfl (fun t ht=>by cases ht;exact hp p aC) (fun _=>hv.1);simpa[bf,Act.put]using this
  obtain⟨h2,h3⟩:=JV ps xs vs (put E p x) (tmps.setIfInBounds p v) h1 (fun q hq=>by simpa using hp q Er) PU hv.2;refine⟨by simpa[EL]using h2,?_⟩
  simp_all

theorem SW{ps:Array Nat}{vs:List Value}{tmps:Array Value}:(ps.zip vs.toArray).foldl (fun t (p,v)=>t.setIfInBounds p v) tmps=(ps.toList.zip vs).foldl (fun t (p:Nat × Value)=>t.setIfInBounds p.1 p.2) tmps:=by
 rw[← Array.foldl_toList];simp_all

def Qw:List Nat→Nat→Bool
 |[],_=>true
 |x::l,n=>bif Nat.ble (Nat.succ x) n then Qw l n else false

theorem JW:∀ {l:List Nat} {n:Nat},Qw l n=true→∀p∈l,p<n
 |[],_,_=>by simp
 |x::l,n,h=>by
  simp only[Qw]at h;obtain⟨h1,h2⟩:=W4 h;intro p hp;rcases eL.1 hp with rfl |hp
  ·exact ke h1
  ·exact JW h2 p hp

theorem GJ(hg:c9 g)(hu:Iu g)(hw:g.F=Fence.wide∧g.dep=0)(hm:g.WH=true){gop:Operand}{ps:Array Nat}{assign body:Code}
  {α:Type} (gV:List α) (enc:α→List AV) (Y:YP) (hys:Y.ys=gV.map enc) (ob:Nat→List Ob) (E1:Nat→α→bk) (Sx:Nat→α→List Ob) (m:Nat) (jmp:Code) {f:Nat} {cs Vf:List AV} {r:AV} (hx:ev E gop=.bU f [] cs) (qg:cs.map lB=Vf) (hcp:kZ Vf=true)
  (hc:aU g.P Y f (.yl 0::Vf) [.Ii 0] r [.Ii m]) (h0:objs=ob 0) (hps:∀x∈gV,(enc x).length=ps.size) (hN':Qw ps.toList g.N=true)
  (abA:∀ (n:Nat) (x:α),gV[n]? = some x→(n=0∨Y.go n=true)→∀ (l:Nat) (w:World) (R0 X:Nat→Prop) (φ0:List bB),φ0.length=(ob n).length→gx g.P (fun b=>R0 b∧¬ X b∧b<w.heap.size) w →
   R (kj g l w R0 X φ0) pf (alv (kj g l w R0 X φ0) (E1 n x) (Sx n x)) [.code assign] (EL E ps.toList (enc x)) (ob n))
  (alw:∀ (n:Nat) (x:α),gV[n]? = some x→(n=0∨Y.go n=true)→∀ (l:Nat) (w:World) (R0 X:Nat→Prop) (φ0:List bB),φ0.length=(ob n).length→gx g.P (fun b=>R0 b∧¬ X b∧b<w.heap.size) w →
   R (kj g l w R0 X φ0) pf (ag9 (kj g l w R0 X φ0) (ob (n+1)) (Y.go (n+1)) jmp) [.code body] (E1 n x) (Sx n x))
  (hk:(m=0∨Y.go m=true)→R g pf Fin k E (ob m)) (p8:mA k=true) (hjc:fB pf jmp=true) (hj:m≠0→Y.go m=false→R g pf Fin (.code jmp::k) E (ob m)) (jB:g.rr=[]:=by rfl) :
  R g pf Fin (.code (.rangeFunc gop ps assign body)::k) E objs:=by
 have hN:=JW hN';rintro⟨dw,alx⟩ a w hs;simp only[fB,aV]at dw;subst h0;simp only[KP];obtain⟨φ,h1,h2,h3,h4,h5,h6⟩:=hs;obtain⟨hF,hd0⟩:=hw;have aN:=aeq h3 gop;rw[hx]at aN;simp only[RV]at aN;obtain⟨va,vc,aN,hva,hvc⟩:=aN
 have hva:va=[]:=by
  cases va with
  |nil=>rfl
  |cons _ _=>simp[aW]at hva
 subst hva;have aly:=hvc.qi lB bM.lB;rw[qg]at aly;refine wpIn_rangeFunc fun fn hfn=>?_
 rw[hF,hd0];obtain⟨rec,ahb⟩:∃rec:LoopState→Option Code→Loop,rec=fun st pe=>{ state:=st,pending:=pe,fn,tmps:=a.tmps,params:=ps,assign,body,defers:=w.heap.size }:=⟨_,rfl⟩
 obtain⟨W1,hW1⟩:∃W1,(w.alloc (.deferred (some []))).alloc (.loop (rec .ready none))=W1:=⟨_,rfl⟩;have aoy:W1.heap.size=w.heap.size+2:=by rw[← hW1];simp
 have hL1:W1.heap[w.heap.size+1]? = some (.loop (rec .ready none)):=by
  rw[← hW1];have:=World.alloc_heap_new (w.alloc (.deferred (some []))) (.loop (rec .ready none));simp_all
 have hD1:W1.heap[w.heap.size]? = some (.deferred (some [])):=by
  rw[← hW1];exact(Below.heap_alloc _ _ _ aC).trans (World.alloc_heap_new w _)
 have hold:∀b,b<w.heap.size→W1.heap[b]? = w.heap[b]? := fun b hb=>by
  rw[← hW1];exact(Below.heap_alloc _ _ _ zw).trans (Below.heap_alloc _ _ _ hb)
 have alz:∀ {b},eD φ b→b<w.heap.size:=fun {b} hb=>h1.lt b hb
 refine⟨w.heap.size+1,[{ target:=.collected w.heap.size,args:=#[] }],W1,{ target:=.fn (.func f) vc.toArray,args:=#[.func (.yield (w.heap.size+1)) #[] #[]] },W1,f,
  #[.func (.yield (w.heap.size+1)) #[] #[]]++vc.toArray,W1,?_,?_,?_,?_,fun h=>by simp[Fence.wide]at h,?_⟩
 ·rw[← hW1,ahb];exact run_enterLoop_outer _ _ _ _ _
 ·simp only [resolve,aN];simp[go_sem]
 ·intro f' _;exact trivial
 ·simp only[invoke];exact hc.call _ _
 obtain⟨st,cS⟩:∃st:Nat→LoopState × Option Code,st=fun n=>if n=0∨Y.go n=true then (.ready,none) else (.done,some jmp):=⟨_,rfl⟩
 let I:Nat→(Nat→Prop)→(Nat→Prop)→World→Prop:=fun n B Rr W=>∃ φ',HC Rr φ' (ob n) W∧kY Rr W φ' E a∧(∀ b,B b↔eD φ' b∨b=w.heap.size+1∨b=w.heap.size) ∧
  W.heap[w.heap.size]? = some (.deferred (some []))∧W.heap[w.heap.size+1]? = some (.loop (rec (st n).1 (st n).2))∧(∀b,eD φ' b→b≠w.heap.size∧b≠w.heap.size+1) ∧
  (∀b,eD φ' b→eD φ b∨w.heap.size≤b)∧jZ g.φ0 φ'∧(∀ (i l:Nat) (J:Nat→(Nat→Prop)→(Nat→Prop)→World→Prop) (B:Nat→Prop),φ'[i]? = some (.ext l J B)→∃B0,g.φ0[i]? = some (.ext l J B0))
 have alA:akS I:=by
  rintro n B Rr Rr' W W' hsz hB hkp ⟨φ',e1,e2,e3,e4,e5,e6,e7,e8,e9⟩;exact⟨φ',e1.mono hsz hkp fun b hb=>hB b ((e3 b).2 (.inl hb)),fun t=>(e2 t).mono hkp (.refl _),e3,(hB _ ((e3 _).2 (.inr (.inr rfl)))).trans e4,(hB _ ((e3 _).2 (.inr (.inl rfl)))).trans e5,e6,e7,e8,e9⟩
 obtain⟨B1,hB1⟩:∃B1:Nat→Prop,B1=fun b=>eD φ b∨b=w.heap.size+1∨b=w.heap.size:=⟨_,rfl⟩
 have Bk:∀ {B:Nat→Prop} {b:Nat},eD [bB.ext (w.heap.size+1) I B] b↔B b:=fun {B b}=>by
  constructor
  ·rintro ⟨i,p,h7,h8⟩;cases i with
   |zero=>simp at h7;subst h7;exact h8
   |succ i=>simp at h7
  ·exact fun h=>⟨0,_,rfl,h⟩
 have aoA:∀b,B1 b→g.S0 b:=fun b hb=>by
  rw[hB1]at hb;rcases hb with hb |hb |hb
  ·exact(h2 b hb).elim (hu.up b) (hu.x b)
  ·exact h1.up b an
  ·exact h1.up b an
 have abB:dE (SS g.S0 φ) w (SS g.S0 [bB.ext (w.heap.size+1) I B1]) W1:=.of fun b hb GF=>⟨⟨hb.1,fun hc=>by
  rw[Bk,hB1]at hc;rcases hc with hc |hc |hc
  ·exact hb.2 hc
  ·omega
  ·omega⟩,hold b GF⟩
 have hI1:I 0 B1 (SS g.S0 [bB.ext (w.heap.size+1) I B1]) W1:=by
  refine⟨φ,h1.hc.mono an abB fun b hb=>hold b (alz hb),fun t=>(h3 t).mono abB (.refl _),fun b=>by rw[hB1],hD1,?_,fun b hb=>by have:=alz hb;omega,fun b hb=>.inl hb,h6.le,h6.gen⟩
  simp_all
 have aoB:HS g.S0 [bB.ext (w.heap.size+1) I B1] [.Ii 0] W1:=by
  refine⟨rfl,fun i ph oT hi ho=>?_,fun i j p q b hi hj _ _=>?_,fun b hb=>?_,fun b hb=>h1.up b an⟩
  ·cases i with
   |zero=>simp at hi ho;subst hi;subst ho;simp only[bd];exact⟨alA,hI1⟩
   |succ i=>simp at hi
  ·have:=(bC.1 hi).1;have:=(bC.1 hj).1;simp at *;omega
  grind
 have hY:∀ (i l:Nat) (J:Nat→(Nat→Prop)→(Nat→Prop)→World→Prop) (B:Nat→Prop),[bB.ext (w.heap.size+1) I B1][i]? = some (bB.ext l J B)→lQ g.P Fence.wide 0 Y l J g.S0:=by
  intro i l J B hi;cases i with
  |succ i=>simp at hi
  |zero =>
  simp at hi;obtain⟨rfl,rfl,rfl⟩:=hi;rintro n B W Rr x0 bL ⟨φ',e1,e2,e3,e4,e5,e6,e7,e8,e9⟩ hRS xF SL hy xA hv hp;rw[hys,eU]at hy;obtain⟨x,hy2,rfl⟩:=agr.1 hy
  replace hy:=hy2;have aoC:st n=(.ready,none):=by simp_all
  rw[aoC]at e5;have Ir:∀ {b},Rr b→¬ eD φ' b:=fun {b} hb hc=>(hRS b hb).2 ((e3 b).2 (.inl hc))
  have alC:w.heap.size+1<W.heap.size:=(tN.1 e5).1;have Qx:bL.length=ps.size:=by rw[← hv.length];grind
  have hyr:=run_yield (P:=g.P) (args:=bL.toArray) e5 k8;rw[ahb]at hyr;refine⟨fn,_,assign,body,hyr,roundIn_of_wpIn trivial ?_⟩;clear hyr;have ahc:dE Rr W (SS Rr φ') W:=fun b hb _=>⟨⟨hb,Ir hb⟩,rfl⟩
  have Mh:aW (SS Rr φ') W φ' (enc x) bL:=aW.pure ahc hp hv
  have alE:fe (kj g (w.heap.size+1) W Rr (eD φ') φ') (EL E ps.toList (enc x)) (ob n) { tmps:=(ps.zip bL.toArray).foldl (fun t (p,v)=>t.setIfInBounds p v) a.tmps,defers:=[] } W:=by
   have:=JV ps.toList (enc x) bL E a.tmps (fun t=>(e2 t).mono ahc (.refl _)) (fun p Mi=>by simp_all) q5 Mh;rw[SW];refine⟨φ',(e1.mono cP ahc fun _ _=>rfl).hs SL,fun b hb=>.inr hb,this.1,this.2.trans h4,.none rfl ⟨fun _=>rfl,.nil,by simp⟩,⟨ef _,rfl,rfl,rfl,fun _ _ _=>rfl,fun i l I B h=>⟨B,h⟩,.refl _⟩⟩
  have aeY:gx g.P (fun b=>Rr b∧¬ eD φ' b∧b<W.heap.size) W:=xF.at0 fun b hb=>Ir hb
  have hRA:=RK.ej (pf:=pf) (k:=[.code assign]) ⟨dw.1,trivial⟩ (abA n x hy xA (w.heap.size+1) W Rr (eD φ') φ' e1.len aeY) aC _ _ alE;simp only[KP]at hRA;refine wpIn_mono hRA fun e a1 w1 hq=>?_
  cases e<;>try exact hq.elim
  obtain⟨φa,f1,f2,f3,f4,f5,f6⟩:fe (kj g (w.heap.size+1) W Rr (eD φ') φ') (E1 n x) (Sx n x) a1 w1:=hq;have Xi:∀b,b<W.heap.size→¬ eD φ' b→w1.heap[b]? = W.heap[b]? := f6.fr;have aqj:W.heap.size≤w1.heap.size:=f6.size;have Du:=(Xi _ alC fun hc=>(e6 _ hc).2 rfl).trans e5;have aoD:=(Xi _ an fun hc=>(e6 _ hc).1 rfl).trans e4;have hba:∀b,eD φa b→eD φ' b∨W.heap.size≤b:=fun b hb=>(f2 b hb).symm
  have ahd:∀b,eD φa b→b≠w.heap.size∧b≠w.heap.size+1:=fun b hb=>(hba b hb).elim (e6 b) fun h=>by omega
  refine⟨_,run_beginRound Du (by rw[ahb]),?_⟩;obtain⟨w2,hw2⟩:∃w2,w2=w1.putObj (w.heap.size+1) (.loop { rec .ready none with state:=.busy }):=⟨_,rfl⟩;rw[← hw2];have DP:w2.heap.size=w1.heap.size:=by rw[hw2];simp
  have j3:w2.heap[w.heap.size+1]? = some (.loop { rec .ready none with state:=.busy }):=by rw[hw2];exact World.putObj_heap_same an
  have alG:∀b,b≠w.heap.size+1→w2.heap[b]? = w1.heap[b]? := fun b hb=>by rw[hw2];exact World.putObj_heap_other hb
  have kq:a1.defers=[]:=(f5.only rfl).1 rfl
  have alH:fe (kj g (w.heap.size+1) w2 Rr (eD φa) φ') (E1 n x) (Sx n x) a1 w2:=by
   refine⟨φa,?_,fun b hb=>.inr hb,fun t=>?_,f4,.none rfl ⟨fun _=>kq,by simp_all,by rw[kq];simp⟩,⟨ef _,rfl,rfl,rfl,fun _ _ _=>rfl,f6.gen,f6.le⟩⟩
   ·rw[hw2];exact HS.shut f1 Du (fun h=>h) fun hc=>(ahd _ hc).2 rfl
   ·rw[hw2];exact(f3 t).mono (xY Du (fun h=>h)) (.refl _)
  have alI:gx g.P (fun b=>Rr b∧¬ eD φa b∧b<w2.heap.size) w2:=aeY.iS fun b hb _=>by
   grind
  have hRB:=RK.ej (pf:=pf) (k:=[.code body]) ⟨dw.2,trivial⟩ (alw n x hy xA (w.heap.size+1) w2 Rr (eD φa) φ' e1.len alI) aC _ _ alH;simp only[KP]at hRB;refine wpIn_mono hRB fun e a3 w3 hq=>?_
  have fin:∀ (jump:Option Code),(st (n+1))=(if jump.isNone then .ready else .done,jump)→(Y.go (n+1)=jump.isNone)→(∃ E',fe (kj g (w.heap.size+1) w2 Rr (eD φa) φ') E' (ob (n+1)) a3 w3) →
    ∃ v w',(Instr.endRound (w.heap.size+1) jump).run g.P w3=.ok v w'∧(Ending.returned v=.returned (.bool (Y.go (n+1)))∧∃ B',I (n+1) B' (fun b=>Rr b∧¬ B' b) w'∧W.heap.size≤w'.heap.size∧w'.os=W.os∧w'.tape=W.tape∧w'.output=W.output ∧
     (∀b,b<W.heap.size→¬ B b→w'.heap[b]? = W.heap[b]?)∧(∀b,B' b→B b∨(W.heap.size≤b∧b<w'.heap.size))):=by
   rintro jump arX aoE ⟨E',φ3,g1,g2,g3,g4,g5,g6⟩;have aoF:w2.heap.size≤w3.heap.size:=g6.size
   have hb3:∀b,eD φ3 b→eD φ' b∨W.heap.size≤b:=fun b hb=>by
    rcases g2 b hb with h |h
    ·have:w2.heap.size≤b:=h
     right;omega
    ·exact hba b h
   have alJ:∀b,eD φ3 b→b≠w.heap.size∧b≠w.heap.size+1:=fun b hb=>(hb3 b hb).elim (e6 b) fun h=>by omega
   have Xj:∀b,b<w2.heap.size→¬ eD φa b→w3.heap[b]? = w2.heap[b]? := g6.fr;have hl3:=(Xj _ an fun hc=>(ahd _ hc).2 rfl).trans j3;have hD3:w3.heap[w.heap.size]? = some (.deferred (some [])):=((Xj _ an fun hc=>(ahd _ hc).1 rfl).trans (alG _ an)).trans aoD;obtain⟨w4,hw4⟩:∃w4,w4=w3.putObj (w.heap.size+1) (.loop (rec (st (n+1)).1 (st (n+1)).2)):=⟨_,rfl⟩;have Xk:∀b,b≠w.heap.size+1→w4.heap[b]? = w3.heap[b]? := fun b hb=>by rw[hw4];exact World.putObj_heap_other hb
   have ar0:w4.heap.size=w3.heap.size:=by rw[hw4];simp
   have x6:=run_endRound (P:=g.P) jump hl3;refine⟨_,w4,?_,by rw[aoE],fun b=>eD φ3 b∨b=w.heap.size+1∨b=w.heap.size,?_,by omega,?_,?_,?_,fun b hb hB=>?_,fun b hb=>?_⟩
   ·simp_all
   ·have aoG:∀b,b<W.heap.size→¬ eD φ' b→b≠w.heap.size+1→w4.heap[b]? = W.heap[b]? := fun b hb h7 h8=>by
     grind
    have hkR:dE Rr W (fun b=>Rr b∧¬ (eD φ3 b∨b=w.heap.size+1∨b=w.heap.size)) w4:=.of fun b hb GF=>by
     grind
    have hkS:dE (SS Rr φ3) w3 (fun b=>Rr b∧¬ (eD φ3 b∨b=w.heap.size+1∨b=w.heap.size)) w4:=fun b hb _=>by
     have hnB:¬ B b:=(hRS b hb.1).2;have h8:b≠w.heap.size+1:=fun e=>hnB ((e3 b).2 (.inr (.inl e)))
     have h9:b≠w.heap.size:=fun e=>hnB ((e3 b).2 (.inr (.inr e)))
     exact⟨⟨hb.1,fun hc=>by
      rcases hc with hc |hc |hc
      ·exact hb.2 hc
      ·exact h8 hc
      ·exact h9 hc⟩,Xk b h8⟩
    refine⟨φ3,g1.hc.mono an hkS fun b hb=>Xk b (alJ b hb).2,fun t=>(e2 t).mono hkR g6.le,fun b=>Iff.rfl,(Xk _ an).trans hD3,by rw[hw4];exact World.putObj_heap_same an,alJ,fun b hb=>?_,e8.trans g6.le,fun i l J B' hi=>?_⟩
    ·grind
    ·obtain ⟨B0,h7⟩:=g6.gen i l J B' hi;exact e9 i l J B0 h7
   ·rw[hw4];exact((g6.os).trans (by rw[show (kj g (w.heap.size+1) w2 Rr (eD φa) φ').w0=w2 from rfl,hw2];exact f6.os))
   ·rw[hw4];exact((g6.tape).trans (by rw[show (kj g (w.heap.size+1) w2 Rr (eD φa) φ').w0=w2 from rfl,hw2];exact f6.tape))
   ·rw[hw4];exact((g6.out).trans (by rw[show (kj g (w.heap.size+1) w2 Rr (eD φa) φ').w0=w2 from rfl,hw2];exact f6.out))
   ·grind
   ·rcases hb with hb | hb | hb
    ·rcases hb3 b hb with h7 | h7
     ·exact .inl ((e3 b).2 (.inl h7))
     ·exact .inr ⟨h7,by have:=g1.lt b hb;omega⟩
    ·exact .inl ((e3 b).2 (.inr (.inl hb)))
    simp_all
  cases e with
  |normal =>
   obtain⟨Xl,JX⟩:Y.go (n+1)=true∧_:=hq;exact fin none q5 (by rw[Xl];rfl) JX
  |ret =>
   obtain⟨Xl,hj,JX⟩:Y.go (n+1)=false∧_:=hq;exact fin (some .ret) k8 (by rw[Xl];rfl) JX
  |exit id =>
   obtain⟨Xl,hj,JX⟩:Y.go (n+1)=false∧_:=hq;exact fin (some (.exit id)) k8 (by rw[Xl];rfl) JX
  |goto t=>exact hq.elim
  |panic ch=>exact hq.elim
  |outgrown=>exact hq.elim
 have mr:aW (SS g.S0 [bB.ext (w.heap.size+1) I B1]) W1 [bB.ext (w.heap.size+1) I B1] (.yl 0::Vf) (.func (.yield (w.heap.size+1)) #[] #[]::vc):=by
  simp only[aW];exact⟨by simp only[RV];simp_all,aW.pure abB hcp aly⟩
 have fx:=hc.run g.S0 [bB.ext (w.heap.size+1) I B1] W1 _ ((hg.Eu h2 h6).iS abB) aoB (fun b hb=>aoA b (Bk.1 hb)) hY mr;rw[show (#[Value.func (.yield (w.heap.size+1)) #[] #[]]++vc.toArray)=(Value.func (.yield (w.heap.size+1)) #[] #[]::vc).toArray from by simp];refine(callsIn_wide.2 fx).mono ?_;rintro e W2 ⟨v,φ1,rfl,_,lR⟩;obtain⟨p',x7,hp2⟩:=lR.le 0 _ rfl
 obtain⟨B2,x7⟩:∃B2,φ1[0]? = some (.ext (w.heap.size+1) I B2):=by
  rcases hp2 with rfl |⟨_,_,_,_,_,_,_,_,e,_⟩ |⟨_,_,_,_,e,_⟩ |⟨l',I',B',B'',e,rfl⟩ |⟨_,_,e,_⟩
  ·simp_all
  ·cases e
  ·cases e
  ·simp_all
  ·cases e
 have oz:=lR.hs.ok 0 _ _ x7 rfl;simp only[bd]at oz;obtain⟨_,φ',e1,e2,e3,e4,e5,e6,e7,e8,e9⟩:=oz;have alC:w.heap.size+1<W2.heap.size:=(tN.1 e5).1;have aoH:∀b,B2 b→eD φ1 b:=fun b hb=>⟨0,_,x7,hb⟩
 have x6:=run_endLoop (P:=g.P) e5 q5;obtain⟨W3,hW3⟩:∃W3,W3=W2.putObj (w.heap.size+1) (.loop { rec (st m).1 (st m).2 with state:=.exhausted }):=⟨_,rfl⟩;have abE:∀b,b≠w.heap.size+1→W3.heap[b]? = W2.heap[b]? := fun b hb=>by rw[hW3];exact World.putObj_heap_other hb
 have aoF:W3.heap.size=W2.heap.size:=by rw[hW3];simp
 have ar2:W1.heap.size≤W2.heap.size:=lR.size
 have hkF:dE (SS g.S0 φ1) W2 (SS g.S0 φ') W3:=fun b hb _=>by
  have hnB:¬ B2 b:=fun hc=>hb.2 (aoH b hc)
  exact⟨⟨hb.1,fun hc=>hnB ((e3 b).2 (.inl hc))⟩,abE b fun e=>hnB ((e3 b).2 (.inr (.inl e)))⟩
 have ahe:∀b,b<w.heap.size→¬ eD φ b→W3.heap[b]? = w.heap[b]? := fun b hb hn=>by
  refine((abE b an).trans (lR.fr b an fun hc=>?_)).trans (hold b hb)
  grind
 have h5:=h5.only jB
 have JX:fe g E (ob m) { a with defers:={ target:=.collected w.heap.size,args:=#[] }::a.defers } W3:=by
  refine⟨φ',(e1.mono an hkF fun b hb=>abE b (e6 b hb).2).hs fun b hb=>h1.up b an,fun b hb=>?_,fun t=>?_,h4,.none jB ⟨fun h=>k8,?_,fun d hd=>?_⟩,⟨?_,?_,?_,?_,fun b hb hx=>?_,e9,e8⟩⟩
  ·rcases e7 b hb with h | h
   ·exact h2 b h
   ·left;have:=h6.size;omega
  ·have:=(e2 t).mono hkF (.refl φ');exact this
  ·refine xL.2 ⟨fun hc=>?_,h5.2.1⟩;obtain⟨D',h7,_,_,h8⟩:=h5.2.2 _ hc
   simp_all
  ·rcases eL.1 hd with rfl | hd
   ·exact⟨_,rfl,h6.size,fun hc=>(e6 _ hc).1 rfl,(abE _ an).trans e4⟩
   ·obtain ⟨D',h7,h8,h9,mm⟩:=h5.2.2 d hd
    grind
  ·have:=h6.size;omega
  ·rw[hW3];exact(lR.os.trans (by rw[← hW1];rfl)).trans h6.os
  ·rw[hW3];exact(lR.tape.trans (by rw[← hW1];rfl)).trans h6.tape
  ·rw[hW3];exact(lR.out.trans (by rw[← hW1];rfl)).trans h6.out
  ·have hbw:b<w.heap.size:=I9 hb h6.size;rw[ahe b hbw fun hc=>(h2 b hc).elim (fun h=>by omega) hx];exact h6.fr b hb hx
 refine⟨(st m).2,W3,by simp_all,?_⟩;by_cases xA:m=0∨Y.go m=true
 ·have:(st m).2=none:=by simp_all
  rw[this];exact RK.ej (pf:=pf) (k:=k) alx (hk xA) (ir p8) _ _ JX
 ·have:(st m).2=some jmp:=by simp_all
  rw[this];have hm0:m≠0:=fun e=>xA (.inl e)
  have hgf:Y.go m=false:=by
   simp_all
  have hR:=RK.ej (pf:=pf) (k:=.code jmp::k) ⟨hjc,alx⟩ (hj hm0 hgf) aC _ _ JX;simp only[KP,hF,hd0]at hR;exact hR
end
end aw
namespace aw
open Go Go.RowKit Go.MapKept

variable{gd:Option (Nat × Bool)}{es:List (Value × AV)}{objs:List Ob}{after:Array Edge}{dst:Option Nat}{ax:List Oper}{pos:String}{k:List It}{ty T:Nat}{E:bk}
def lS (kd:TypeDesc) (k:Value):List (Value × AV)→Nat→Option (Option (Nat × AV))
 |[],_=>some none
 |e::es,i=>match Instr.sameNow kd k e.1 with
  |some true=>some (some (i,e.2))
  |some false=>lS kd k es (i+1)
  |none=>none

theorem kx{S:Nat→Prop}{w:World}{φ:List bB}{kd:TypeDesc}{k:Value}:∀ {es:List (Value × AV)} {ents:List MapEntry} {i:Nat} {r:Option (Nat × AV)},mT S w φ es ents→lS kd k es i=some r →
  match r with
  |none=>Instr.findNow kd k ents i=some none
  |some (j,x)=>∃v,Instr.findNow kd k ents i=some (some (j,v))∧RV S w φ x v∧i≤j∧j<i+es.length∧(∃e,ents[j - i]? = some e∧Instr.sameNow kd k e.key=some true)
 |[],ents,i,r,h,hf=>by
  simp only[lS,Option.some.injEq]at hf;subst hf;cases ents with
  |nil=>rfl
  |cons _ _=>have:=h.1;simp at this
 |(k',x)::es,ents,i,r,h,hf=>by
  cases ents with
  |nil=>have:=h.1;simp at this
  |cons e ents =>
   obtain⟨h1,h2⟩:=h;simp only[List.map_cons,List.cons.injEq]at h1;obtain⟨rfl,h1⟩:=h1;simp only[List.map_cons,aW]at h2;simp only[lS]at hf;split at hf
   ·rename_i hs;simp only[Option.some.injEq]at hf;subst hf;exact⟨e.val,by simp only[Instr.findNow,hs],h2.1,ef _,by simp,e,by simp,hs⟩
   ·rename_i hs;have:=kx (i:=i+1) ⟨h1,h2.2⟩ hf;cases r with
    |none=>simp only[Instr.findNow,hs];exact this
    |some p =>
     obtain⟨j,y⟩:=p;obtain⟨v,g1,g2,g3,g4,e',g5,g6⟩:=this;refine⟨v,by simp only[Instr.findNow,hs];exact g1,g2,by omega,by simp;omega,e',?_,g6⟩
     grind
   ·cases hf
section
variable {g:G} {pf:Nat→cC} {ad:Array Oper} {Fin:Exit→Act→World→Prop}

theorem Eg(hg:c9 g)
  (bm:aG ad.toList E gd=some true) (hd:aO ⟨g.ty,g.N⟩ dst=true)
  (hr:R g pf Fin (.dr ad ax::k) (bf E dst (.mp (len objs))) (objs++[.map []])):R g pf Fin (.dr ad (⟨dst,.makeMap T none,ty,pos,after,gd⟩::ax)::k) E objs:=by
 refine cL (aI.eT hg (.add _ _) bm hd aC fun φ a w hρ hs=>?_) hr;refine⟨.value (.map (some w.heap.size)),.map (some w.heap.size),w.alloc (.map #[] 0),φ++[.js w.heap.size],?_,.inl rfl,?_,?_⟩
 ·simp[execOp,Instr.makeMap,run_newObj]
 ·simp only[RV];exact⟨w.heap.size,by rw[bj,← hs.len];simp,rfl⟩
 ·refine jJ.new hs (fun b hb=>by simp only [bB.bl] at hb; exact hb.symm) ?_;simp only[bd];exact⟨#[],0,heap_alloc_new _ _,by simp[mT],by simp[aW]⟩

def pq (ok:Bool) (z:AV):Option (Nat × AV)→AV
 |some (_,v)=>if ok then .cH [v,bV true] else v
 |none=>if ok then .cH [z,bV false] else z

theorem JY(hg:c9 g){x y:Operand}{ok:Bool}
  {i q cj kt et:Nat} {z:List Value}  {kv zv:Value} {kd:TypeDesc} {r:Option (Nat × AV)}
  (bm:aG ad.toList E gd=some true) (hd:aO ⟨g.ty,g.N⟩ dst=true) (hx:ev E x=.mp i) (ho:dk objs i=some (.map es)) (hy:ev E y=.d (.v kv)) (hT:g.ty T=some ⟨q,cj,z,.map kt et⟩)
  (oC:g.P.underlying kt=some kd) (AO:IsKey kd kv) (hf:lS kd kv es 0=some r) (hz:(g.P.info? et).bind (·.zero)=some zv)
  (hr:R g pf Fin (.dr ad ax::k) (bf E dst (pq ok (lO zv) r)) objs):R g pf Fin (.dr ad (⟨dst,.lookup T x y ok,ty,pos,after,gd⟩::ax)::k) E objs:=by
 refine cL (aI.fM hg 1 bm hd aC fun φ a w bP hgr hρ hs=>?_) hr;simp only[Op.operands]at hρ;have aN:=hρ x aC;rw[hx]at aN;have ew:=hρ y aC;rw[hy]at ew;simp only[RV]at aN ew;obtain⟨b,hb,aN⟩:=aN;generalize oA:a.eval y=vy at ew;cases ew
 have ho:dk bP i=some (.map es):=by
  rw[bu]at ho ⊢;exact Gr.same hgr ho AF AH
 have hk:=cG hs hb ho;simp only[bd]at hk;obtain⟨ents,iY,bc,dC⟩:=hk;have kX:g.P.underlying T=some (.map kt et):=by have:=(hg.ty _ _ hT).sh;simpa only[bA]using this
 have hzero:(zeroValue et).run g.P w=.ok zv w:=by
  exact Wq
 have hzR:RV (SS g.S0 φ) w φ (lO zv) zv:=ia (l:=[]) (E:=[]) (E₁:=[]) (a:={ tmps:=#[],defers:=[] }) aC (fun t=>by simp[lk,RV]) (.const zv);have cU:=kx dC hf;cases r with
 |none =>
  simp only at cU;refine aY hs (vv:=if ok then .tuple #[zv,.bool false] else zv) ?_ ?_
  ·simp[execOp,Instr.lookup,run_underlying kX,aN,run_getObj_map bc,oA,run_checkKey oC AO,run_findKey oC cU,hzero]
  ·simp only [pq];cases ok
   ·simpa using hzR
   ·simp only [if_true,RV];exact Wp
 |some p =>
  obtain⟨j,v⟩:=p;obtain⟨vv,h1,h2,_⟩:=cU;refine aY hs (vv:=if ok then .tuple #[vv,.bool true] else vv) ?_ ?_
  ·simp[execOp,Instr.lookup,run_underlying kX,aN,run_getObj_map bc,oA,run_checkKey oC AO,run_findKey oC h1]
  ·simp only [pq];cases ok
   ·simpa using h2
   ·simp only [if_true,RV];exact Wr

theorem pr{n0:Nat}{i:Nat}{es Ds:List (Value × AV)}(ho:dk objs i=some (.map es)):Gr n0 2 objs (da objs i (.map Ds)):=fun j x hj=>by
 rw[bu]at ho;rw[bq];by_cases e:j=i
 ·subst e;rw[ho]at hj;cases hj;exact akq
 grind

theorem JZ(hg:c9 g){x y v:Operand}
  {i q cj kt et:Nat} {z:List Value}  {kv:Value} {kd:TypeDesc}
  (bm:aG ad.toList E gd=some true) (hd:aO ⟨g.ty,g.N⟩ dst=true) (hx:ev E x=.mp i) (ho:dk objs i=some (.map es)) (hy:ev E y=.d (.v kv)) (hT:g.ty T=some ⟨q,cj,z,.map kt et⟩)
  (oC:g.P.underlying kt=some kd) (AO:IsKey kd kv) (hf:lS kd kv es 0=some none)
  (hr:R g pf Fin (.dr ad ax::k) (bf E dst .any) (da objs i (.map (es++[(kv,ev E v)])))):R g pf Fin (.dr ad (⟨dst,.mapUpdate T x y v,ty,pos,after,gd⟩::ax)::k) E objs:=by
 refine cL (aI.eT hg (pr ho) bm hd aC fun φ a w hρ hs=>?_) hr;simp only[Op.operands]at hρ;have aN:=hρ x aC;rw[hx]at aN;have ew:=hρ y aC;rw[hy]at ew;have hvv:=hρ v aC;simp only[RV]at aN ew;exact mB6
end
def cn (l:List (Int × AV)):List (Value × AV):=l.map fun p=>(.int .i64 p.1,p.2)
end aw
namespace aw
open Go Go.RowKit Go.MapKept

variable{objs:List Ob}{gd:Option (Nat × Bool)}{aa:List (List D)}{after:Array Edge}{dst:Option Nat}{ax:List Oper}{k:List It}{pos:String}{E:bk}{ty i:Nat}
def ib:List (Int × AV)→Int→Option AV
 |[],_=>none
 |p::r,n=>if p.1=n then some p.2 else ib r n

theorem nj{k':IntKind}{n:Int}:∀ {l:List (Int × AV)} {i:Nat},∃r,lS (.int k') (.int .i64 n) (cn l) i=some r∧r.map (·.2)=ib l n
 |[],i=>⟨none,rfl,rfl⟩
 |p::l,i=>by
  simp only[ib];by_cases h:p.1=n
  ·have h1:(n==p.1)=true:=by simp [h]
   refine⟨some (i,p.2),?_,by simp[h]⟩;simp only[cn,List.map_cons,lS,Instr.sameNow,if_true,h1]
  ·have h1:(n==p.1)=false:=by grind
   obtain⟨r,h2,h3⟩:=nj (k':=k') (n:=n) (l:=l) (i:=i+1);refine⟨r,?_,by simp_all⟩;simp only[cn,List.map_cons,lS,Instr.sameNow,if_true,h1];exact h2

def aqn (ok:Bool) (z:AV):Option AV→AV
 |some v=>if ok then .cH [v,.tt] else v
 |none=>if ok then .cH [z,.ff] else z

def jn (ok:Bool) (z:AV):Option AV→AV
 |some v=>if ok then .cH [v,bV true] else v
 |none=>if ok then .cH [z,bV false] else z
section
variable {g:G} {pf:Nat→cC} {ad:Array Oper} {Fin:Exit→Act→World→Prop}

theorem gC(hg:c9 g){T:Nat}{x y:Operand}{ok:Bool}
  {i q cj q' oU kt et:Nat} {z z':List Value} {n:Int} {zv:Value} (l:List (Int × AV))
  (bm:aG ad.toList E gd=some true) (hd:aO ⟨g.ty,g.N⟩ dst=true) (hx:ev E x=.mp i) (ho:dk objs i=some (.map (cn l))) (hy:ev E y=.d (.v (.int .i64 n))) (hT:g.ty T=some ⟨q,cj,z,.map kt et⟩)
  (oC:g.ty kt=some ⟨q',oU,z',.int .i64⟩) (hz:(g.P.info? et).bind (·.zero)=some zv) {v:AV} (hv:jn ok (lO zv) (ib l n)=v)
  (hr:R g pf Fin (.dr ad ax::k) (bf E dst v) objs):R g pf Fin (.dr ad (⟨dst,.lookup T x y ok,ty,pos,after,gd⟩::ax)::k) E objs:=by
 subst hv;have hu:=(hg.ty _ _ oC).sh;simp only[bA]at hu;obtain⟨r,h1,h2⟩:=nj (k':=.i64) (n:=n) (l:=l) (i:=0);refine JY hg bm hd hx ho hy hT hu MB h1 hz ?_;have:pq ok (lO zv) r=jn ok (lO zv) (ib l n):=by rw[← h2];cases r<;>rfl
 simp_all

theorem s7(hg:c9 g){T:Nat}{x y v:Operand}
  {i q cj q' oU kt et:Nat} {z z':List Value} {n:Int} (l:List (Int × AV))
  (bm:aG ad.toList E gd=some true) (hd:aO ⟨g.ty,g.N⟩ dst=true) (hx:ev E x=.mp i) (ho:dk objs i=some (.map (cn l))) (hy:ev E y=.d (.v (.int .i64 n))) (hT:g.ty T=some ⟨q,cj,z,.map kt et⟩)
  (oC:g.ty kt=some ⟨q',oU,z',.int .i64⟩) (hf:ib l n=none)
  (hr:R g pf Fin (.dr ad ax::k) (bf E dst .any) (da objs i (.map (cn (l++[(n,ev E v)]))))):R g pf Fin (.dr ad (⟨dst,.mapUpdate T x y v,ty,pos,after,gd⟩::ax)::k) E objs:=by
 have hu:=(hg.ty _ _ oC).sh;simp only[bA]at hu;obtain⟨r,h1,h2⟩:=nj (k':=.i64) (n:=n) (l:=l) (i:=0);have:r=none:=by rw[hf]at h2;cases r with
  |none=>rfl
  |some _=>simp at h2
 subst this;refine JZ hg bm hd hx ho hy hT hu MB h1 ?_;have e:cn l++[(Value.int .i64 n,ev E v)]=cn (l++[(n,ev E v)]):=by simp[cn]
 simp_all
end

theorem bb{g:G}{pf:Nat→cC}{Fin:Exit→Act→World→Prop}(n:Nat)(objs':List Ob)(hn:g.φ0.length≤n)(ht:gz k=true)(ho:(objs.take n).map (aQ (dA n))=objs')
  (hr:R g pf Fin k (qn (dA n) E) objs') (jB:g.rr=[]:=by rfl):R g pf Fin k E objs:=by
 subst ho;exact uB n hn ht hr jB
theorem vA{n i s sz:Nat}(h:dk objs i=some (.arr sz s aa)):iB objs (n+1) (.ow i s)=some (.d (.sl aa)):=by simp[iB,h]

def rA (l:List Int):List (Int × AV):=l.map fun n=>(n,AV.tt)

theorem SX{f:AV→AV}(h:f .tt=.tt)(l:List Int):aQ f (.map (cn (rA l)))=.map (cn (rA l)):=by
 simp[aQ,cn,rA,Function.comp_def,h]

theorem rB{n:Int}:∀ {l:List Int},ib (rA l) n=if l.contains n then some .tt else none
 |[]=>rfl
 |x::l=>by
  have:=rB (n:=n) (l:=l);simp only[rA,List.map_cons,ib]at this ⊢
  grind

def ki:List Int→Int→List (Int × AV)
 |[],_=>[]
 |x::r,i=>(x,iV i)::ki r (i+1)

theorem EM:∀ (l:List Int) (i x:Int),ki l i++[(x,iV (i+l.length))]=ki (l++[x]) i
 |[],i,x=>by simp[ki]
 |y::l,i,x=>by
  have:=EM l (i+1) x;simp only[ki,jj,dv]at this ⊢
  grind

theorem J0:∀ (l:List Int) (i:Int),(ki l i).length=l.length
 |[],_=>rfl
 |x::l,i=>by simp[ki,J0 l]

theorem mK{f:AV→AV}(h:∀n,f (iV n)=iV n)(l:List Int)(i:Int):aQ f (.map (cn (ki l i)))=.map (cn (ki l i)):=by
 have key:∀ (l:List Int) (i:Int),(cn (ki l i)).map (fun x=>(x.1,f x.2))=cn (ki l i):=by
  intro l;induction l with
  |nil=>intro i;rfl
  |cons x l ih =>
   intro i;have:=ih (i+1);simp only[cn,ki,List.map_cons,h]at this ⊢;rw[this]
 simp only[aQ,key]

theorem j6{f:Nat→Nat}(l:List Int)(i:Int):bz f (.map (cn (ki l i)))=.map (cn (ki l i)):=by
 have h:=mK (f:=c8 f) (fun n=>rfl) l i;simpa only[aQ,bz]using h

theorem ai{g:G}{pf:Nat→cC}{ad:Array Oper}{Fin:Exit→Act→World→Prop}(hg:c9 g)(hu:Iu g)(hF:g.F=Fence.wide∧g.dep=0)(hY:∀ (i l:Nat) (I:Nat→(Nat→Prop)→(Nat→Prop)→World→Prop) (B:Nat→Prop),g.φ0[i]? = some (bB.ext l I B)→lQ g.P Fence.wide 0 g.Y l I g.S0)(is:List Nat)(objs':List Ob){Y:YP}{f:Nat}{dM:List AV}{bT a8:List Ob}{r:AV}(hc:aU g.P Y f dM bT r a8)(uH:(∃ (i l:Nat) (I:Nat→(Nat→Prop)→(Nat→Prop)→World→Prop) (B:Nat→Prop),g.φ0[i]? = some (bB.ext l I B))→Y=g.Y){x:Operand}{args:Array Operand}{ts:Array Nat}
      {fs cs:List AV}
  (bm:aG ad.toList E gd=some true) (hd:aO ⟨g.ty,g.N⟩ dst=true) (dV:bI pf (.call { callee:=.value x,args:=args,argTypes:=ts })=.ji) (hx:ev E x=.bU f fs cs) (dw:isOk (len objs) is=true) (jE:fE objs is=some (bT.map (bz (rn is (len objs)))))
  (has:(fs++args.toList.map (ev E)++cs).map lB=iu (rn is (len objs)) dM) (ho:cZ is (a8.map (bz (rn is (len objs)))) objs=objs')
  (hr:R g pf Fin (.dr ad ax::k) (bf E dst (c8 (rn is (len objs)) r)) objs') :
  R g pf Fin (.dr ad (⟨dst,.call { callee:=.value x,args:=args,argTypes:=ts },ty,pos,after,gd⟩::ax)::k) E objs:=by
 subst ho;exact wi hg hu hF hY is hc uH bm hd dV hx dw jE has hr
theorem J1{nz:Bool}{n0:Nat}{n i s sz:Nat}(hn:Nat.ble (Nat.succ i) n0=false)(h:dk objs i=some (.arr sz s aa)):bQ nz n0 objs (n+1) (.ow i s)=.d (.sl aa):=by simp[bQ,h,hn]

theorem nk{nz:Bool}{n0:Nat}{n i s sz:Nat}{a b c:D}{a' b' c':AV}(hn:Nat.ble (Nat.succ i) n0=false)(h1:bQ nz n0 objs (n+1) (.d a)=a')(h2:bQ nz n0 objs (n+1) (.d b)=b')(h3:bQ nz n0 objs (n+1) (.d c)=c')(h:dk objs i=some (.arr sz s aa)) :
  bQ nz n0 objs (n+2) (.agg [.d a,.d b,.d c,.ow i s])=.agg [a',b',c',.d (.sl aa)]:=by
 have h4:=J1 (nz:=nz) (n:=n) hn h;rw[bQ]
 simp_all
end aw

namespace aw
open Go

inductive Tm where
 |mk (k:Int) (s:ByteArray) (n:Int) (l:List Tm)
namespace Tm
def k:Tm→Int |mk k _ _ _=>k
def s:Tm→ByteArray |mk _ s _ _=>s
def n:Tm→Int |mk _ _ n _=>n
def l:Tm→List Tm |mk _ _ _ l=>l

theorem ind {p:Tm→Prop}(h:∀t:Tm,(∀x∈t.l,p x)→p t)(t:Tm):p t :=
 Tm.rec (motive_1:=p) (motive_2:=fun l=>∀x∈l,p x) (fun k s n l ih=>h (.mk k s n l) ih) aC (fun x r h1 h2=>by
  simp_all) t

mutual
def M6:Tm→List D
 |mk k s n l=>[.v (.int .i64 k),.v (.string s),.v (.int .i64 n),.sl (aa l)]
def aa:List Tm→List (List D)
 |[]=>[]
 |t::r=>M6 t::aa r
end
def row (t:Tm):List D:=[.v (.int .i64 t.k),.v (.string t.s),.v (.int .i64 t.n),.sl (aa t.l)]
theorem GK (t:Tm):M6 t=row t:=by cases t;simp only[M6,row,k,s,n,l]

theorem dZ (l:List Tm):aa l=l.map row:=by
 induction l with
 |nil=>rfl
 |cons x r ih=>simp only[aa,GK,List.map_cons,ih]
theorem au (l:List Tm):(aa l).length=l.length:=by rw[dZ];simp
theorem aB {l:List Tm}{i:Nat}{x:Tm}(h:l[i]? = some x):(aa l)[i]? = some (row x):=by rw[dZ,eU,h];rfl
def av (t:Tm):AV:=.agg [.d (.v (.int .i64 t.k)),.d (.v (.string t.s)),.d (.v (.int .i64 t.n)),.d (.sl (aa t.l))]

mutual
def same:Tm→Tm→Bool
 |mk k s n l,mk k' s' n' l'=>k==k'&&n==n'&&bE s s'&&ic l l'
def ic:List Tm→List Tm→Bool
 |[],[]=>true
 |x::r,y::r'=>same x y&&ic r r'
 |_,_=>false
end

theorem z6 (a b:Tm):same a b=(a.k==b.k&&a.n==b.n&&bE a.s b.s&&ic a.l b.l):=by
 cases a;cases b;simp only[same,k,s,n,l]

theorem EN:∀ (a b:List Tm),ic a b=true↔a.length=b.length∧∀ (i:Nat) (x y:Tm),a[i]? = some x→b[i]? = some y→same x y=true
 |[],[]=>by simp[ic]
 |[],_::_=>by simp[ic]
 |_::_,[]=>by simp[ic]
 |x::a,y::b=>by
  simp only[ic,aV,EN a b,dv,Nat.add_right_cancel_iff];constructor
  ·grind
  ·rintro ⟨h2,h3⟩;exact⟨h3 0 x y rfl rfl,h2,fun i u v hu hv=>h3 (i+1) u v (by simpa using hu) PS⟩
end Tm
end aw
namespace aw
open Go
namespace Tm

mutual
def gV:Tm→Int→List (Int × Tm)
 |mk k s n l,d=>(d,mk k s n l)::iK l (d+1)
def iK:List Tm→Int→List (Int × Tm)
 |[],_=>[]
 |t::r,d=>gV t d++iK r d
end
theorem kr (t:Tm)(d:Int):gV t d=(d,t)::iK t.l (d+1):=by cases t;rfl

mutual
def size:Tm→Nat
 |mk _ _ _ l=>1+ay l
def ay:List Tm→Nat
 |[]=>0
 |t::r=>size t+ay r
end
theorem size_eq (t:Tm):size t=1+ay t.l:=by cases t;simp only[size,l]

mutual
theorem lE:∀ (t:Tm) (d:Int),(gV t d).length=size t
 |mk k s n l,d=>by simp only[gV,size,dv,wk l];omega
theorem wk:∀ (l:List Tm) (d:Int),(iK l d).length=ay l
 |[],_=>rfl
 |t::r,d=>by simp only[iK,ay,List.length_append,lE t,wk r]
end

theorem yT:∀ (a b:List Tm) (d:Int),iK (a++b) d=iK a d++iK b d
 |[],b,d=>by simp[iK]
 |x::a,b,d=>by simp only[jj,iK,yT a b d,List.append_assoc]

theorem qp:∀ (a b:List Tm),ay (a++b)=ay a+ay b
 |[],b=>by simp[ay]
 |x::a,b=>by simp only[jj,ay,qp a b,Nat.add_assoc]

theorem zJ {l:List Tm}{k:Nat}{x:Tm}(h:l[k]? = some x):ay (l.take (k+1))=ay (l.take k)+size x:=by
 rw[I5,h,qp];simp[ay]

theorem ct {l:List Tm}{x:Tm}(h:x∈l):size x≤ay l:=by
 induction l with
 |nil=>simp at h
 |cons y l ih =>
  simp only[ay]
  grind

theorem cI:∀ (l:List Tm),l.length≤ay l
 |[]=>ef _
 |x::l=>by have:=cI l;have:=size_eq x;simp only[ay,dv];omega
def enc (e:Int × Tm):List AV:=[iV e.1,e.2.av]
end Tm

def nT (Y:YP):Nat→Nat→Nat × Bool
 |0,n=>(n,true)
 |k+1,n=>if Y.go (n+1)=true then nT Y k (n+1) else (n+1,false)

theorem wm {Y:YP}:∀ {k n:Nat},(nT Y k n).2=true→(nT Y k n).1=n+k∧(0<k→Y.go (n+k)=true)
 |0,n,_=>by simp[nT]
 |k+1,n,h=>by
  simp only[nT]at h ⊢;split at h
  ·rename_i hg;rw[if_pos hg];obtain⟨h1,h2⟩:=wm h
   grind
  ·cases h

theorem EO {Y:YP}:∀ {k n:Nat},(nT Y k n).2=false→Y.go (nT Y k n).1=false∧(nT Y k n).1≠0
 |0,n,h=>by simp[nT]at h
 |k+1,n,h=>by
  simp only[nT]at h ⊢;split at h
  ·rename_i hg;rw[if_pos hg];exact EO h
  simp_all

theorem GL {Y:YP}:∀ {a b n:Nat},nT Y (a+b) n=if (nT Y a n).2=true then nT Y b (nT Y a n).1 else nT Y a n
 |0,b,n=>by simp[nT]
 |a+1,b,n=>by
  rw[show a+1+b=(a+b)+1 by omega];simp only[nT];split
  ·exact GL
  ·simp
theorem wo {Y:YP}{a b n:Nat}(h:nT Y a n=(n+a,true)):nT Y (a+b) n=nT Y b (n+a):=by rw[GL,h];simp
theorem ahf {Y:YP}{k n:Nat}(h:(nT Y k n).2=true):nT Y k n=(n+k,true):=Prod.ext (wm h).1 h
end aw
namespace aw
open Go
variable{s:ByteArray}
def jU (b:UInt8):Bool:=!(decide ((b.toNat:Int)<32) || decide ((b.toNat:Int) > 126))
def uO (s:ByteArray):Bool:=s.data.toList.all jU&&(decide ((s.size:Int) ≥ 1)&&decide ((s.size:Int)≤20))
theorem pt{k:Nat}(h:k<s.size):s[k]? = some s[k]:=getElem?_pos s k h

theorem SY{p:UInt8→Bool}(h:∀k (hk:k<s.size),p s[k]=true):s.data.toList.all p=true:=by
 rw[fk];intro b hb;obtain⟨i,hi,rfl⟩:=aa7.1 hb;have:i<s.size:=by simpa using hi
 exact h i this

theorem ud{p:UInt8→Bool}{k:Nat}(hk:k<s.size)(h:p s[k]=false):s.data.toList.all p=false:=by
 rw[List.all_eq_false];refine⟨s[k],?_,by simp[h]⟩;have:s[k]=s.data.toList[k]'(by simpa using hk):=rfl
 simp_all
namespace Tm

def GM (t:Tm):Bool :=
 if t.k=1 then decide (t.n ≥ 0)&&decide (t.n<1000000)&&bE t.s ⟨#[]⟩&&((t.l.length:Int)==0)
 else if t.k=2 then bE t.s ⟨#[]⟩&&((t.l.length:Int)==0)
 else if t.k=3 then (t.n==0)&&uO t.s&&decide ((t.l.length:Int)≤8)
 else false
end Tm
end aw
namespace aw
open Go

variable{t:Tm}
theorem Qy{Y:YP}:∀ {k n:Nat},(nT Y k n).2=true↔∀i,i<k→Y.go (n+i+1)=true
 |0,n=>by simp[nT]
 |k+1,n=>by
  simp only[nT];split
  ·rename_i h;rw[Qy];constructor
   ·intro h1 i hi;cases i with
    |zero=>exact h
    |succ i=>have:=h1 i an;rw[show n+(i+1)+1=n+1+i+1 by omega];exact this
   grind
  ·rename_i h;constructor
   ·simp_all
   ·intro h1;exact absurd (h1 0 an) h
theorem bK{k n:Nat}{m:Int}(h:decide ((k:Int)<m)=true)(e:m=n):k<n:=by simp_all
theorem cf{k n:Nat}{m:Int}(h:decide ((k:Int)<m)=false)(e:m=n):n≤k:=by simp_all
theorem sK{n:Int}(h1:-9223372036854775808≤n)(h2:n<9223372036854775808):IntKind.i64.wrap n=n:=jL h1 h2

def jt (n:Int):Prop:=-9223372036854775808≤n∧n≤9223372036854775807

def J2 (n:Int):List D:=[.v (.int .i64 n)]
def di (l:List Int):List (List D):=l.map J2
theorem bR(l:List Int):(di l).length=l.length:=by simp[di]
theorem lg{l:List Int}{i:Nat}{x:Int}(h:l[i]? = some x):(di l)[i]? = some (J2 x):=by simp[di,h]
namespace Tm

mutual
def depth:Tm→Nat
 |mk _ _ _ l=>eF l+1
def eF:List Tm→Nat
 |[]=>0
 |t::r=>max (depth t) (eF r)
end
theorem J3(t:Tm):depth t=eF t.l+1:=by cases t;simp only[depth,l]

mutual
theorem oF:∀ (t:Tm),depth t≤size t
 |mk k s n l=>by have:=qS l;simp only[depth,size];omega
theorem qS:∀ (l:List Tm),eF l≤ay l
 |[]=>ef _
 |t::r=>by have:=oF t;have:=qS r;simp only[eF,ay];omega
end

def mu (k:Int)(s:ByteArray)(n:Int)(m:Nat):Bool :=
 if k=1 then decide (n ≥ 0)&&decide (n<1000000)&&bE s ⟨#[]⟩&&((m:Int)==0)
 else if k=2 then bE s ⟨#[]⟩&&((m:Int)==0)
 else (k==3)&&(n==0)&&decide ((s.size:Int) ≥ 1)&&decide ((s.size:Int)≤20)&&decide ((m:Int)≤8)

mutual
def bw:Tm→Bool
 |mk k s n l=>s.data.toList.all jU&&cM l&&mu k s n l.length
def cM:List Tm→Bool
 |[]=>true
 |t::r=>bw t&&cM r
end
theorem px(t:Tm):bw t=(t.s.data.toList.all jU&&cM t.l&&mu t.k t.s t.n t.l.length):=by cases t;simp only[bw,l,k,s,n]

theorem fN:∀ {l:List Tm},cM l=true↔∀t∈l,bw t=true
 |[]=>by simp[cM]
 |t::r=>by simp[cM,fN (l:=r)]

theorem vG{l:List Tm}{x:Tm}{d:Int}{e:Int × Tm}(h:x∈l)(he:e∈gV x d):e∈iK l d:=by
 induction l with
 |nil=>simp at h
 |cons y l ih =>
  simp only[iK,bW]
  grind

theorem wq{l:List Tm}{d:Int}{e:Int × Tm}(h:e∈iK l d):∃x∈l,e∈gV x d:=by
 induction l with
 |nil=>simp[iK]at h
 |cons y l ih =>
  simp only[iK,bW]at h
  grind

def Ok (t:Tm):Prop:=∀d e,e∈gV t d→e.2.l.length≤140737488355328∧e.2.s.size≤140737488355328
theorem Ok.len(h:t.Ok):t.l.length≤140737488355328:=(h 0 (0,t) (by rw[kr];simp)).1
theorem Ok.sub{t x:Tm}(h:t.Ok)(hx:x∈t.l):x.Ok:=fun d e he=>h (d - 1) e aj2

def qq (s:ByteArray)(DR aq:Int):Bool:=decide (IntKind.i64.wrap (DR - 1)<0) || decide (aq<1) || decide ((s.size:Int) > 100)

mutual
def oV:Tm→Int→Int→Int
 |mk _ s _ l,DR,aq=>if qq s DR aq then -1 else zK l (IntKind.i64.wrap (DR - 1)) (IntKind.i64.wrap (aq - 1))
def zK:List Tm→Int→Int→Int
 |[],DR,_=>DR
 |t::r,DR,aq=>if DR ≥ 0 then zK r (oV t DR aq) aq else DR
end
theorem M7(t:Tm)(m d:Int):oV t m d=if qq t.s m d then -1 else zK t.l (IntKind.i64.wrap (m - 1)) (IntKind.i64.wrap (d - 1)):=by cases t;simp only[oV];rfl

mutual
theorem Xm:∀ (t:Tm) (m d:Int),0≤m→m<9223372036854775808→d≤1000→oV t m d=-1∨(oV t m d+size t≤m∧depth t≤d∧t.s.size≤100∧0≤oV t m d∧∀x e,e∈gV t x→e.2.s.size≤100)
 |mk k s n l,m,d,h0,h1,h2=>by
  simp only[oV];split
  ·exact .inl rfl
  ·rename_i hs;simp only[qq,mS,decide_eq_true_eq,not_or]at hs;have e1:IntKind.i64.wrap (m - 1)=m - 1:=sK an an;rw[e1]at hs ⊢;have e2:IntKind.i64.wrap (d - 1)=d - 1:=sK an an;rw[e2];rcases Qz l (m - 1) (d - 1) an an an with h |⟨h3,h4,h5,h6⟩
   ·exact .inl h
   ·refine .inr ⟨by simp only [size]; omega,by simp only [depth]; omega,?_,h5,fun x e he=>?_⟩
    ·show s.size≤100;omega
    ·simp only [gV,eL] at he;rcases he with rfl |he
     ·show s.size≤100;omega
     grind
theorem Qz:∀ (l:List Tm) (m d:Int),0≤m→m<9223372036854775808→0≤d∧d≤1000→zK l m d=-1∨(zK l m d+ay l≤m∧eF l≤d∧0≤zK l m d∧∀x e,e∈iK l x→e.2.s.size≤100)
 |[],m,d,h0,h1,h2=>by simp only[zK,ay,eF,iK];simp_all
 |t::r,m,d,h0,h1,h2=>by
  simp only[zK];rw[if_pos h0];rcases Xm t m d h0 h1 h2.2 with h |⟨h3,h4,_,h5,h6⟩
  ·rw [h];cases r with
   |nil=>exact .inl rfl
   |cons u r=>simp only[zK];omega
  ·rcases Qz r (oV t m d) d h5 an h2 with h | ⟨h7,h8,h9,mm⟩
   ·exact .inl h
   ·refine .inr ⟨by simp only [ay]; omega,by simp only [eF]; omega,h9,fun x e he=>?_⟩;simp only[iK,bW]at he
    grind
end
def bS (t:Tm):Bool:=bw t&&decide (t.size≤3000)&&decide (t.depth≤100)
theorem toList_data(s:ByteArray):s.toList=s.data.toList:=ByteArray.toList_eq s

theorem bo{a b:ByteArray}:bE a b=true↔a=b:=by
 simp only[bE,beq_iff_eq];constructor
 ·intro h;rw[toList_data,toList_data]at h;cases a;cases b;simpa using h
 simp_all

theorem GN(t:Tm):t.GM=(t.s.data.toList.all jU&&mu t.k t.s t.n t.l.length):=by
 unfold GM mu;split
 ·by_cases h:bE t.s ⟨#[]⟩=true
  ·have:=bo.1 h;rw[this];simp
  ·simp[h]
 ·split
  ·by_cases h:bE t.s ⟨#[]⟩=true
   ·have:=bo.1 h;rw[this];simp
   ·simp[h]
  ·split
   ·rename_i h; simp only [h,uO];cases t.s.data.toList.all jU<;>simp[Bool.and_assoc]
   simp_all

mutual
theorem wu:∀ (t:Tm) (d:Int),(∀e∈gV t d,e.2.GM=true)↔bw t=true
 |mk k s n l,d=>by
  have h:=EP l (d+1);have h2:(mk k s n l).GM=(s.data.toList.all jU&&mu k s n l.length):=GN _;simp only[gV,eL,forall_eq_or_imp,h,h2,bw,aV]
  grind
theorem EP:∀ (l:List Tm) (d:Int),(∀e∈iK l d,e.2.GM=true)↔cM l=true
 |[],d=>by simp[iK,cM]
 |t::r,d=>by
  simp only[iK,bW,cM,aV,← wu t d,← EP r d]
  grind
end

mutual
theorem J4:∀ (t:Tm) (d m:Int),(∀e∈gV t d,e.1≤m)↔d+t.depth - 1≤m
 |mk k s n l,d,m=>by
  simp only[gV,eL,forall_eq_or_imp,ER l (d+1) m,depth];cases hl:l with
  |nil=>simp[eF]
  |cons x r =>
   grind
theorem ER:∀ (l:List Tm) (d m:Int),(∀e∈iK l d,e.1≤m)↔l=[]∨d+eF l - 1≤m
 |[],d,m=>by simp[iK]
 |t::r,d,m=>by
  have h1:=J4 t d m;have h2:=ER r d m;simp only[iK,bW,eF,List.cons_ne_nil,false_or];have h3:=J3 t;constructor
  ·intro h;have h4:=h1.1 fun e he=>h e (.inl he)
   have h5:=h2.1 fun e he=>h e (.inr he)
   rcases h5 with rfl |h5
   ·simp only[eF];omega
   ·omega
  grind
end

mutual
theorem Xn:∀ (a b:Tm),same a b=true↔a=b
 |mk k s n l,mk k' s' n' l'=>by
  simp only[same,aV,beq_iff_eq,bo,Bm l l',mk.injEq]
  grind
theorem Bm:∀ (a b:List Tm),ic a b=true↔a=b
 |[],[]=>by simp[ic]
 |[],_::_=>by simp[ic]
 |_::_,[]=>by simp[ic]
 |x::a,y::b=>by simp only[ic,aV,Xn x y,Bm a b,List.cons.injEq]
end
theorem M8(a:List Tm):ic a a=true:=(Bm a a).2 rfl

theorem x8{a b:List Tm}(h:¬ a.length=b.length):ic a b=false:=by
 cases hs:ic a b
 ·rfl
 ·exact absurd ((EN _ _).1 hs).1 h
end Tm
def wv (e:Int × Tm)(n:Nat):Bool:=!(decide (e.1 > 100) || decide ((n:Int) > 3000) || !e.2.GM)

def M9 (t:Tm)(n:Nat):Bool:=match n with
 |0=>true
 |m+1=>match (t.gV 1)[m]? with
  |some e=>wv e (m+1)
  |none=>true
def c0 (t:Tm):Bool:=(nT ⟨(t.gV 1).map Tm.enc,M9 t⟩ t.size 0).2

theorem abF{g:Nat→Bool}:(nT ⟨(t.gV 1).map Tm.enc,g⟩ t.size 0).2=true↔∀i,i<t.size→g (i+1)=true:=by
 rw[Qy];simp

theorem cN(t:Tm):c0 t=t.bS:=by
 rw[vK];unfold c0;rw[abF];unfold Tm.bS;simp only[aV,decide_eq_true_eq,← Tm.wu t 1];have hd:=Tm.J4 t 1 100;have hl:=Tm.lE t 1;have hs:=Tm.size_eq t;constructor
 ·intro h
  have h1:∀e∈t.gV 1,e.1≤100∧e.2.GM=true:=fun e he=>by
   obtain⟨i,hi,rfl⟩:=aa7.1 he;have:=h i an;simp only[M9,dY hi,wv,xM,DI,decide_eq_false_iff_not,Sq]at this;exact⟨by omega,this.2⟩
  refine⟨⟨fun e he=>(h1 e he).2,?_⟩,?_⟩
  ·have hi:t.size - 1<(t.gV 1).length:=by omega
   have:=h (t.size - 1) an;simp only[M9,dY hi,wv,xM,DI,decide_eq_false_iff_not,Sq]at this;omega
  grind
 ·rintro ⟨⟨h1,h2⟩,h3⟩ i hi;have SV:i<(t.gV 1).length:=by omega
  have h4:=hd.2 an _ (eg SV);simp only[M9,dY SV,wv,xM,DI,decide_eq_false_iff_not,Sq]
  grind
namespace Tm

mutual
def fS (g:Int→Int):Tm→Tm
 |mk k s n l=>mk k s (if k=1 then g n else n) (dj g l)
def dj (g:Int→Int):List Tm→List Tm
 |[]=>[]
 |t::r=>fS g t::dj g r
end
theorem wy(g:Int→Int)(t:Tm):fS g t=mk t.k t.s (if t.k=1 then g t.n else t.n) (dj g t.l):=by cases t;simp only[fS];rfl

theorem jQ(g:Int→Int):∀l,dj g l=l.map (fS g)
 |[]=>rfl
 |t::r=>by simp only[dj,List.map_cons,jQ g r]
end Tm

def tT:List Int→Int→Int→Int
 |[],_,_=>-1
 |x::r,n,i=>if x=n then i else tT r n (i+1)
def jT (l:List Int)(x:Int):List Int:=if l.contains x then l else l++[x]
def fJ (l:List Int)(e:Int × Tm):List Int:=if e.2.k=1 then jT l e.2.n else l

def bH (l:List Tm):List Int:=l.foldl (fun a t=>(t.gV 1).foldl fJ a) []
namespace Tm

mutual
def J5:List Int→Tm→List Int
 |a,mk k _ n l=>if k=1 then jT a n else qs a l
def qs:List Int→List Tm→List Int
 |a,[]=>a
 |a,t::r=>qs (J5 a t) r
end

mutual
def plain:Tm→Bool
 |mk k _ _ l=>!((k==1) && !l.isEmpty)&&nn l
def nn:List Tm→Bool
 |[]=>true
 |t::r=>plain t&&nn r
end
theorem SZ(l:List Int)(x:Int):(jT l x).length≤l.length+1:=by unfold jT;split<;>simp

mutual
theorem J6:∀ (t:Tm) (d:Int) (a:List Int),plain t=true→(gV t d).foldl fJ a=J5 a t
 |mk k s n l,d,a,h=>by
  simp only[plain,aV,xM,Bool.and_eq_false_iff]at h;simp only[gV,vI,J5];by_cases hk:k=1
  ·have hl:l=[]:=by
    simp_all
   subst hl;simp only[iK,List.foldl_nil,hk,if_true];rfl
  ·rw [if_neg hk,ES l (d+1) _ h.2];simp only[fJ,Tm.k,hk,if_false]
theorem ES:∀ (l:List Tm) (d:Int) (a:List Int),nn l=true→(iK l d).foldl fJ a=qs a l
 |[],d,a,h=>rfl
 |t::r,d,a,h=>by
  simp only[nn,aV]at h;simp only[iK,aa8,qs,J6 t d a h.1,ES r d _ h.2]
end
end Tm

theorem Na:∀ (l:List Tm),Tm.nn l=true→bH l=Tm.qs [] l:=by
 have key:∀ (l:List Tm) (a:List Int),Tm.nn l=true→l.foldl (fun a t=>(t.gV 1).foldl fJ a) a=Tm.qs a l:=by
  intro l;induction l with
  |nil=>intro a _;rfl
  |cons t r ih =>
   intro a h;simp only[Tm.nn,aV]at h;simp only[vI,Tm.qs,Tm.J6 t 1 a h.1,ih _ h.2]
 exact fun l h=>key l [] h
end aw
namespace aw
open Go Go.RowKit

def vLe:Value→Value→Bool
 | .int k a,.int k' b=>kEq k k'&&a==b
 | .bool a,.bool b=>a==b
 | .string a,.string b=>bE a b
 | .slice none 0 0,.slice none 0 0=>true
 |_,_=>false

theorem ahg {a b:Value}(h:vLe a b=true):a=b:=by
 unfold vLe at h;split at h
 ·simp only[aV,beq_iff_eq]at h;rw[AX h.1,h.2]
 ·simp_all
 ·rename_i x y;simp only[bE,beq_iff_eq,ByteArray.toList_eq]at h;cases x;simp_all
 ·rfl
 ·cases h

mutual
def Dw:D→D→Bool
 | .v a,y=>match y with
  | .v b=>vLe a b
  | .sl []=>match a with
   | .slice none 0 0=>true
   |_=>false
  |_=>false
 | .sl r,y=>match y with
  | .sl r'=>oG r r'
  |_=>false
 | .bG l,y=>match y with
  | .bG l'=>qT l l'
  |_=>false
 | .map _,_=>false
def qT:List D→List D→Bool
 |[],[]=>true
 |x::l,y::m=>Dw x y&&qT l m
 |_,_=>false
def oG:List (List D)→List (List D)→Bool
 |[],[]=>true
 |x::l,y::m=>qT x y&&oG l m
 |_,_=>false
end

theorem ET:∀ {l m:List D},qT l m=true→l.length=m.length
 |[],[],_=>rfl
 |[],_::_,h=>by simp[qT]at h
 |_::_,[],h=>by simp[qT]at h
 |x::l,y::m,h=>by simp only[qT,aV]at h;simp[ET h.2]

theorem py:∀ {l m:List D} {j:Nat} {y:D},qT l m=true→m[j]? = some y→∃x,l[j]? = some x∧Dw x y=true
 |[],[],_,_,_,h=>by simp at h
 |[],_::_,_,_,h,_=>by simp[qT]at h
 |_::_,[],_,_,h,_=>by simp_all
 |x::l,y::m,0,z,h,hz=>by simp only[qT,aV]at h;simp_all
 |x::l,y::m,j+1,z,h,hz=>by simp only[qT,aV]at h;simpa using py h.2 (by simpa using hz)

theorem uP:∀ {l m:List (List D)},oG l m=true→l.length=m.length
 |[],[],_=>rfl
 |[],_::_,h=>by simp[oG]at h
 |_::_,[],h=>by simp[oG]at h
 |x::l,y::m,h=>by simp only[oG,aV]at h;simp[uP h.2]

theorem qt:∀ {l m:List (List D)} {j:Nat} {y:List D},oG l m=true→m[j]? = some y→∃x,l[j]? = some x∧qT x y=true
 |[],[],_,_,_,h=>by simp at h
 |[],_::_,_,_,h,_=>by simp[oG]at h
 |_::_,[],_,_,h,_=>by simp_all
 |x::l,y::m,0,z,h,hz=>by simp only[oG,aV]at h;simp_all
 |x::l,y::m,j+1,z,h,hz=>by simp only[oG,aV]at h;simpa using qt h.2 (by simpa using hz)

theorem ahh {S:Nat→Prop}{w:World}{x:D}{v:Value}(hr:Rd S w x v):∀ {y:D},Dw x y=true→Rd S w y v:=by
 induction hr with
 |v x =>
  intro y h;cases y with
  |v b=>simp only[Dw]at h;rw[ahg h];exact .v _
  |sl r =>
   cases r with
   |nil =>
    simp only[Dw]at h;split at h
    ·exact .nil _ _
    ·cases h
   |cons _ _=>simp[Dw]at h
  |bG _=>simp[Dw]at h
  |map _=>simp[Dw]at h
 |nil a c =>
  intro y h;cases y with
  |v b=>simp[Dw]at h
  |sl r =>
   simp only[Dw]at h;have:=uP h;have:r=[]:=jy.1 this.symm;subst this;exact .nil _ _
  |bG _=>simp[Dw]at h
  |map _=>simp[Dw]at h
 |@sl aa b o cap sz cs T fr g hS hb hl hc hsz hg _ ih =>
  intro y h;cases y with
  |v b=>simp[Dw]at h
  |bG _=>simp[Dw]at h
  |map _=>simp[Dw]at h
  |sl r =>
   simp only[Dw]at h;have aZ:=uP h;rw[aZ];refine .sl (sz:=sz) g hS hb an hc (fun i row hi=>?_) (fun i row j x hi hj=>?_) (fun i row j x hi hj=>?_)
   ·obtain ⟨row',h1,h2⟩:=qt h hi;rw[← ET h2];grind
   ·obtain ⟨row',h1,h2⟩:=qt h hi;obtain⟨x',h3,_⟩:=py h2 hj
    simp_all
   ·obtain ⟨row',h1,h2⟩:=qt h hi;obtain⟨x',h3,h4⟩:=py h2 hj
    simp_all
 |@bG l b o cs T fr g hS hb hg _ ih =>
  intro y h;cases y with
  |v b=>simp[Dw]at h
  |sl r=>simp[Dw]at h
  |map _=>simp[Dw]at h
  |bG m =>
   simp only[Dw]at h;refine .bG g hS hb (fun j x hj=>?_) (fun j x hj=>?_)
   ·obtain ⟨x',h3,_⟩:=py h hj
    simp_all
   ·obtain ⟨x',h3,h4⟩:=py h hj
    simp_all
 |map g hS hb hk hg _ ih=>intro y h;simp[Dw]at h

mutual
def Iv:AV→AV→Bool
 | .d x,y=>match y with
  | .d y=>Dw x y
  |_=>false
 | .agg l,y=>match y with
  | .agg m=>DS l m
  |_=>false
 | .cH l,y=>match y with
  | .cH m=>DS l m
  |_=>false
 |_,_=>false
def DS:List AV→List AV→Bool
 |[],[]=>true
 |x::l,y::m=>Iv x y&&DS l m
 |_,_=>false
end

mutual
theorem Xo {S:Nat→Prop}{w:World}{φ:List bB}:∀ {x y:AV} {v:Value},Iv x y=true→RV S w φ x v→RV S w φ y v
 | .d x,y,v,h,hr=>by
  cases y<;>simp only[Iv]at h<;>try (cases h;done)
  simp only[RV]at hr ⊢;exact ahh hr h
 | .agg l,y,v,h,hr=>by
  cases y<;>simp only[Iv]at h<;>try (cases h;done)
  simp only[RV]at hr ⊢;obtain⟨cs,h1,h2⟩:=hr;exact⟨cs,h1,z7 h h2⟩
 | .cH l,y,v,h,hr=>by
  cases y<;>simp only[Iv]at h<;>try (cases h;done)
  simp only[RV]at hr ⊢;obtain⟨cs,h1,h2⟩:=hr;exact⟨cs,h1,z7 h h2⟩
 | .any,_,_,h,_=>by simp[Iv]at h
 | .tt,_,_,h,_=>by simp[Iv]at h
 | .ff,_,_,h,_=>by simp[Iv]at h
 | .fs _,_,_,h,_=>by simp[Iv]at h
 | .lo _ _,_,_,h,_=>by simp[Iv]at h
 | .el _ _ _ _,_,_,h,_=>by simp[Iv]at h
 | .vw _ _ _,_,_,h,_=>by simp[Iv]at h
 | .ow _ _,_,_,h,_=>by simp[Iv]at h
 | .mp _,_,_,h,_=>by simp[Iv]at h
 | .yl _,_,_,h,_=>by simp[Iv]at h
 | .bU _ _ _,_,_,h,_=>by simp[Iv]at h
theorem z7 {S:Nat→Prop}{w:World}{φ:List bB}:∀ {l m:List AV} {vs:List Value},DS l m=true→aW S w φ l vs→aW S w φ m vs
 |[],[],_,_,h=>h
 |[],_::_,_,h,_=>by simp[DS]at h
 |_::_,[],_,h,_=>by simp[DS]at h
 |x::l,y::m,[],_,h=>by simp[aW]at h
 |x::l,y::m,v::vs,h,hr=>by
  simp only[DS,aV]at h;simp only[aW]at hr ⊢;exact⟨Xo h.1 hr.1,z7 h.2 hr.2⟩
end

theorem bD.le {P:Program}{f:Nat}{dM as':List AV}{r:AV}(h:bD P f dM r)(hl:DS as' dM=true):bD P f as' r :=
 ⟨h.call,fun S w bL ha hS hv=>h.run S w bL ha hS (z7 hl hv)⟩
end aw
namespace aw
open Go Go.RowKit Go.MapKept
variable{Fin:Exit→Act→World→Prop}{gd:Option (Nat × Bool)}{objs:List Ob}{after:Array Edge}{ad:Array Oper}{dst:Option Nat}{ax:List Oper}{pf:Nat→cC}{pos:String}{k:List It}{α:Type}{ty T:Nat}{E:bk}{g:G}
theorem aeZ{a c:α}{l:List α}(h:a=c):a::l=c::l:=by rw[h]
theorem Eo{a b c:α}{l:List α}(h:b=c):a::b::l=a::c::l:=by rw[h]
theorem QA{a b c:α}(h:c=b):some [a,b]=some [a,c]:=by rw[h]

theorem dp(hg:c9 g){T T':Nat}{x y:Operand}
  {i s sz q q' cj oU e e':Nat} {z z':List Value} {τ:Ty} {aa cu:List (List D)} (rows':List (List D))
  (bm:aG ad.toList E gd=some true) (hd:aO ⟨g.ty,g.N⟩ dst=true) (hx:ev E x=.ow i s) (ho:dk objs i=some (.arr sz s aa)) (hy:lB (ev E y)=.d (.sl cu))
  (hT:g.ty T=some ⟨q,cj,z,.slice e⟩) (kX:g.ty T'=some ⟨q',oU,z',.slice e'⟩) (he:g.ty e=some τ) (hsz:τ.size=sz) (aZ:∀r∈cu,r.length=sz) (WZ:∀r∈cu,∀x∈r,p7 (.d x)=true)
  (eA:aa++cu=rows') (qm:(aa.length+cu.length) * τ.bytes≤140737488355328) (tJ:aa.length+cu.length≤140737488355328)
  (hr:R g pf Fin (.dr ad ax::k) (bf E dst (.ow i (Nat.succ s))) (da objs i (.arr sz (Nat.succ s) rows'))) :
  R g pf Fin (.dr ad (⟨dst,.call { callee:=.builtin .append,args:=#[x,y],argTypes:=#[T,T'] },ty,pos,after,gd⟩::ax)::k) E objs:=by
 subst eA;exact IQ hg bm hd hx ho hy hT kX he hsz aZ WZ qm tJ hr

theorem Bn(hg:c9 g){x:Operand}{lo hi:Option Operand}
  {q cj e:Nat} {z:List Value} {τ:Ty} {aa:List (List D)} (rows':List (List D)) {l h:Int}
  (bm:aG ad.toList E gd=some true) (hd:aO ⟨g.ty,g.N⟩ dst=true) (hx:lB (ev E x)=.d (.sl aa)) (hl:q8 E lo 0=some l) (hh:q8 E hi aa.length=some h) (hT:g.ty T=some ⟨q,cj,z,.slice e⟩) (he:g.ty e=some τ) (hsz:∀r∈aa,r.length=τ.size)
  (h0:0≤l) (h1:l≤h) (h2:h≤aa.length) (Dv:(aa.drop l.toNat).take (h.toNat - l.toNat)=rows')
  (hr:R g pf Fin (.dr ad ax::k) (bf E dst (.d (.sl rows'))) objs):R g pf Fin (.dr ad (⟨dst,.slice T x lo hi none,ty,pos,after,gd⟩::ax)::k) E objs:=by
 subst Dv;exact W7 hg bm hd hx hl hh hT he hsz h0 h1 h2 hr

theorem EU(hg:c9 g){x y v:Operand}
  {i q cj q' oU kt et:Nat} {z z':List Value} {n:Int} {v':AV} (l l':List (Int × AV))
  (bm:aG ad.toList E gd=some true) (hd:aO ⟨g.ty,g.N⟩ dst=true) (hx:ev E x=.mp i) (ho:dk objs i=some (.map (cn l))) (hy:ev E y=.d (.v (.int .i64 n))) (hT:g.ty T=some ⟨q,cj,z,.map kt et⟩)
  (oC:g.ty kt=some ⟨q',oU,z',.int .i64⟩) (hf:ib l n=none) (hv:ev E v=v') (hl:l++[(n,v')]=l')
  (hr:R g pf Fin (.dr ad ax::k) (bf E dst .any) (da objs i (.map (cn l')))):R g pf Fin (.dr ad (⟨dst,.mapUpdate T x y v,ty,pos,after,gd⟩::ax)::k) E objs:=by
 subst hl;subst hv;exact s7 hg l bm hd hx ho hy hT oC hf hr
theorem xE{f:AV→Option AV}{x y:AV}{l l':List AV}(h:f x=some y)(h2:tR f l=some l'):tR f (x::l)=some (y::l'):=by simp only[tR,h,h2]
theorem R9{n:Nat}{l l':List AV}(h:tR (iB objs n) l=some l'):iB objs (n+1) (.cH l)=some (.cH l'):=by simp only[iB,h]
theorem R8{n:Nat}{l l':List AV}(h:tR (iB objs n) l=some l'):iB objs (n+1) (.agg l)=some (.agg l'):=by simp only[iB,h]
theorem bD.one{P:Program}{f:Nat}{t:Tm}{r:AV}(h:bD P f [.d (.sl (Tm.aa [t]))] r):bD P f [.d (.sl [Tm.row t])] r:=by rwa [Tm.dZ]at h
end aw
namespace aw
open Go Go.RowKit
variable{k:List It}{objs:List Ob}{β:Type}{E:bk}{i:It}
section
variable {g:G} {pf:Nat→cC} {Fin:Exit→Act→World→Prop}

theorem Xp{M:bk→List Ob→Prop}(h:∀E objs,M E objs→RK g Fin k E objs):∀ (e:Exit) (a:Act) (w:World),KP g Fin (.mark M::k) e a w→KP g Fin k e a w:=fun e a w hk=>by
 cases e with
 |normal=>obtain⟨E,objs,h1,h2⟩:=hk;exact h E objs h1 a w h2
 |_=>exact hk

theorem np{K1 K2:List It}(h:∀ (e:Exit) (a:Act) (w:World),KP g Fin K1 e a w→KP g Fin K2 e a w)(i:It):∀ (e:Exit) (a:Act) (w:World),KP g Fin (i::K1) e a w→KP g Fin (i::K2) e a w:=fun e a w hk=>by
 cases i with
 |code c =>
  cases e with
  |normal=>exact wpIn_mono hk h
  |_=>exact h _ _ _ hk
 |js id =>
  cases e with
  |exit j =>
   simp only[KP]at hk ⊢
   grind
  |_=>exact h _ _ _ hk
 |mark M =>
  cases e with
  |normal=>exact hk
  |_=>exact h _ _ _ hk
 |dr ad r=>exact h _ _ _ hk

abbrev uQ {β:Type} (st:β→bk × List Ob) (inv:β→Prop):bk→List Ob→Prop:=fun E' objs'=>∃p,inv p∧n8 E' (st p).1∧objs'=(st p).2

theorem EV{st:β→bk × List Ob}{inv:β→Prop}(ho:qR pf k)(hk:mA k=true)(h2:∀p,inv p→R g pf Fin k (st p).1 (st p).2):∀E objs,uQ st inv E objs→RK g Fin k E objs:=by
 rintro E objs ⟨p,h1,h3,rfl⟩;exact RK.ej (pf:=pf) (k:=k) ho ((h2 p h1).zH h3.SK) (ir hk)

theorem ahi(st:β→bk × List Ob)(inv:β→Prop)(hk:mA k=true)(h1:R g pf Fin (i :: .mark (uQ st inv)::k) E objs)(h2:∀p,inv p→R g pf Fin k (st p).1 (st p).2):R g pf Fin (i::k) E objs:=by
 intro ho
 have dw:qR pf k:=by
  cases i with
  |code c=>exact ho.2
  |_=>exact ho
 have hc:=Xp (EV (g:=g) (Fin:=Fin) dw hk h2)
 have vp:qR pf (i :: .mark (uQ st inv)::k):=by
  cases i with
  |code c=>exact ho
  |_=>exact ho
 have h:=h1 vp;cases i with
 |dr ad ax =>
  exact Dr.WR (fun E objs hr a w hs=>hc _ _ _ (hr a w hs)) h
 |code c=>exact fun a w hs=>np hc (.code c) _ _ _ (h a w hs)
 |js id=>exact fun a w hs=>np hc (.js id) _ _ _ (h a w hs)
 |mark M=>exact fun a w hs=>np hc (.mark M) _ _ _ (h a w hs)

theorem z8{M:bk→List Ob→Prop}:∀ (pre:List It) {k:List It},qR pf (pre++k)→qR pf (pre ++ .mark M::k)∧qR pf k
 |[],_,h=>⟨h,h⟩
 |i::pre,k,h=>by
  cases i with
  |code c=>exact⟨⟨h.1,(z8 pre h.2).1⟩,(z8 (M:=M) pre h.2).2⟩
  |_=>exact z8 (M:=M) pre h

theorem QB{M:bk→List Ob→Prop}{k:List It}(h:∀E objs,M E objs→RK g Fin k E objs):∀ (pre:List It) (e:Exit) (a:Act) (w:World),KP g Fin (pre ++ .mark M::k) e a w→KP g Fin (pre++k) e a w
 |[]=>Xp h
 |i::pre=>np (QB h pre) i

theorem ahj(pre:List It)(st:β→bk × List Ob)(inv:β→Prop)(hk:mA k=true)(h1:R g pf Fin (i::(pre ++ .mark (uQ st inv)::k)) E objs)(h2:∀p,inv p→R g pf Fin k (st p).1 (st p).2):R g pf Fin (i::(pre++k)) E objs:=by
 intro ho;have hi:=z8 (pf:=pf) (M:=uQ st inv) (i::pre) (k:=k) ho;have hc:=QB (EV (g:=g) (Fin:=Fin) hi.2 hk h2) pre;have h:=h1 hi.1;cases i with
 |dr ad ax=>exact Dr.WR (fun E objs hr a w hs=>hc _ _ _ (hr a w hs)) h
 |code c=>exact fun a w hs=>np hc (.code c) _ _ _ (h a w hs)
 |js id=>exact fun a w hs=>np hc (.js id) _ _ _ (h a w hs)
 |mark M=>exact fun a w hs=>np hc (.mark M) _ _ _ (h a w hs)
theorem uR(st:β→bk × List Ob)(inv:β→Prop){i j:It}(hk:mA k=true)(h1:R g pf Fin (i::j :: .mark (uQ st inv)::k) E objs)(h2:∀p,inv p→R g pf Fin k (st p).1 (st p).2):R g pf Fin (i::j::k) E objs:=ahj [j] st inv hk h1 h2

theorem q0{st:β→bk × List Ob}{inv:β→Prop}(p:β)(h1:inv p)(h3:n8 E (st p).1)(h4:objs=(st p).2):R g pf Fin (.mark (uQ st inv)::k) E objs:=xZ ⟨p,h1,h3,h4⟩

theorem EW(hu:Iu g)(i:Nat)(E':bk)(objs':List Ob){sz s:Nat}{aa:List (List D)}(ho:dk objs i=some (.arr sz s aa))(ht:gz k=true)
  (hE:n8 (qn (kg i s aa) E) E') (hO:wj (da (objs.map (aQ (kg i s aa))) i .dead) objs') (hr:R g pf Fin k E' objs') (jB:g.rr=[]:=by rfl):R g pf Fin k E objs :=
 Be hu i ho ht (WW E' hE (vB objs' hO ht hr)) jB

theorem bM.frz(i s:Nat)(aa:List (List D)):bM (kg i s aa (.ow i s)) (.d (.sl aa)):=by
 have:kg i s aa (.ow i s)=.d (.sl aa):=by simp[kg]
 rw[this];exact .refl _
end

theorem EX{g:G}{pf:Nat→cC}{ad:Array Oper}{Fin:Exit→Act→World→Prop}(hg:c9 g){dst:Option Nat}{T:Nat}{d x:Operand}{ty:Nat}{pos:String}{after:Array Edge}{gd:Option (Nat × Bool)}{ax:List Oper}
  {id s sz r j:Nat} {τ:Ty} {aa:List (List D)} {row:List D} {l:List AV} {ds:List D} (rows':List (List D))
  (bm:aG ad.toList E gd=some true) (hd:aO ⟨g.ty,g.N⟩ dst=true) (hx:ev E d=.el id s r j) (ho:dk objs id=some (.arr sz s aa)) (hT:g.ty T=some τ) (gL:aa[r]? = some row) (hc:fU (ev E x)=some l) (kq:xP l=some ds) (hl:ds.length=τ.size) (lN:j+τ.size≤sz)
  (eA:aa.set r (qo row j ds)=rows')
  (hr:R g pf Fin (.dr ad ax::k) (bf E dst .any) (da objs id (.arr sz s rows'))) (dV:iZ pf d=.ji:=by rfl):R g pf Fin (.dr ad (⟨dst,.store T d x,ty,pos,after,gd⟩::ax)::k) E objs:=by
 subst eA;exact W5 hg bm hd hx ho hT gL hc kq hl lN hr dV
end aw
namespace aw
open Go Go.RowKit
variable{gd:Option (Nat × Bool)}{after:Array Edge}{dst:Option Nat}{ax:List Oper}{objs:List Ob}{pos:String}{k:List It}{ty:Nat}{E:bk}
section
variable {g:G} {pf:Nat→cC} {ad:Array Oper} {Fin:Exit→Act→World→Prop}

theorem Xq(hg:c9 g){T T2:Nat}{x y:Operand}{q:IntKind}{m n:Int}
  (bm:aG ad.toList E gd=some true) (hd:aO ⟨g.ty,g.N⟩ dst=true) (hx:ev E x=.d (.v (.int q m))) (hy:ev E y=.d (.v (.int q n))) (hn:n≠0)
  (hr:R g pf Fin (.dr ad ax::k) (bf E dst (.d (.v (.int q (q.wrap (m.tdiv n)))))) objs):R g pf Fin (.dr ad (⟨dst,.binOp .quo T x y T2,ty,pos,after,gd⟩::ax)::k) E objs:=by
 refine cL (aI.up (aI.quiet hg bm hd aC fun φ objs a w hρ hs=>?_)) hr;simp only[Op.operands]at hρ;have aN:=hρ x aC;rw[hx]at aN;have ew:=hρ y aC;rw[hy]at ew;simp only[RV]at aN ew;generalize kU:a.eval x=vx at aN;generalize oA:a.eval y=vy at ew;cases aN;cases ew;refine aY hs (vv:=.int q (q.wrap (m.tdiv n))) ?_ xH;have ahk:(eqGuard .quo T x y (.int q m) (.int q n)).run g.P w=.ok () w:=n6 vH;simp only[execOp,kU,oA,Sem.run_bind,ahk,Result.andThen_ok];simp[binOp,Op.intArith,Op.intDiv,hn]

theorem alM(hg:c9 g){T T2:Nat}{x y:Operand}{q:IntKind}{m n:Int}
  (bm:aG ad.toList E gd=some true) (hd:aO ⟨g.ty,g.N⟩ dst=true) (hx:ev E x=.d (.v (.int q m))) (hy:ev E y=.d (.v (.int q n))) (hn:n≠0)
  (hr:R g pf Fin (.dr ad ax::k) (bf E dst (.d (.v (.int q (m.tmod n))))) objs):R g pf Fin (.dr ad (⟨dst,.binOp .rem T x y T2,ty,pos,after,gd⟩::ax)::k) E objs:=by
 refine cL (aI.up (aI.quiet hg bm hd aC fun φ objs a w hρ hs=>?_)) hr;simp only[Op.operands]at hρ;have aN:=hρ x aC;rw[hx]at aN;have ew:=hρ y aC;rw[hy]at ew;simp only[RV]at aN ew;generalize kU:a.eval x=vx at aN;generalize oA:a.eval y=vy at ew;cases aN;cases ew;refine aY hs (vv:=.int q (m.tmod n)) ?_ xH;have ahk:(eqGuard .rem T x y (.int q m) (.int q n)).run g.P w=.ok () w:=n6 vH;simp only[execOp,kU,oA,Sem.run_bind,ahk,Result.andThen_ok];simp[binOp,Op.intArith,Op.intDiv,hn]

theorem ae0(hg:c9 g){x y:Operand}{ts:Array Nat}{m n:Int}
  (bm:aG ad.toList E gd=some true) (hd:aO ⟨g.ty,g.N⟩ dst=true) (hx:ev E x=.d (.v (.int .i64 m))) (hy:ev E y=.d (.v (.int .i64 n)))
  (hr:R g pf Fin (.dr ad ax::k) (bf E dst (iV (min m n))) objs):R g pf Fin (.dr ad (⟨dst,.call { callee:=.builtin .min,args:=#[x,y],argTypes:=ts },ty,pos,after,gd⟩::ax)::k) E objs:=by
 refine cL (aI.effect hg bm hd aC fun φ a w hρ hs=>?_) hr;simp only[Op.operands,Call.operands]at hρ;have aN:=hρ x aC;rw[hx]at aN;have ew:=hρ y aC;rw[hy]at ew;simp only[RV]at aN ew;generalize kU:a.eval x=vx at aN;generalize oA:a.eval y=vy at ew;cases aN;cases ew;refine aY hs (vv:=.int .i64 (min m n)) ?_ IW;simp[execOp,resolve,invoke,builtin,kU,oA,Builtin.min_,Builtin.min2];omega
end
end aw
namespace aw
open Go Go.RowKit Go.MapKept
end aw

namespace aw
open Go Go.RowKit Go.ChangeShapes Go.WideShapes

def wz (H:Nat→List D→Prop) (ty:Nat→Option Ty):List (Nat × Nat)→List D→Prop
 |[],row=>row=[]
 |(_,t)::fs,row=>∃ (τ:Ty) (a b:List D),ty t=some τ∧row=a++b∧a.length=τ.size∧H t a∧wz H ty fs b

def cV (ty:Nat→Option Ty) (B:Nat):Nat→Nat→List D→Prop
 |0,_,_=>False
 |n+1,t,row=>match ty t with
  |none=>False
  |some τ=>match τ.sh with
   | .int k=>∃m,row=[.v (.int k m)]∧k.min≤m∧m≤k.max
   | .bool=>∃b,row=[.v (.bool b)]
   | .str=>∃s:ByteArray,row=[.v (.string s)]∧s.size≤B
   | .struct jz=>wz (cV ty B n) ty jz row
   | .slice e=>∃aa:List (List D),row=[.sl aa]∧(∀τ,ty e=some τ→aa.length * τ.bytes≤B)∧∀r∈aa,cV ty B n e r
   |_=>False

def Bo (ty:Nat→Option Ty) (size:Nat):List (Nat × Nat)→Nat→Bool
 |[],o=>o==size
 |(f,t)::fs,o=>match ty t with
  |some τ=>f==o&&Bo ty size fs (o+τ.size)
  |none=>false

def dT (ty:Nat→Option Ty)(L:List Nat)(t:Nat):Bool :=
 match ty t with
 |some τ=>match τ.sh with
  | .int _=>true
  | .bool=>true
  | .str=>true
  | .struct jz=>jz.all (fun f=>L.contains f.2)&&Bo ty τ.size jz 0
  | .slice e=>L.contains e&&match ty e with |some τ'=>decide (0<τ'.size) |none=>false
  |_=>false
 |none=>false
section
variable {H:Type} {enc:TypeId × Value→H} {P:Program} {w:World} {base:Nat} {held:Bool} {ty:Nat→Option Ty}

theorem uS (fY:jk P ty){t:Nat}{τ:Ty}(h:ty t=some τ):P.cellsOf t=τ.size:=by
 obtain⟨i,z,h1,_,h3,_⟩:=(fY t τ h).info;simp[Program.cellsOf,h1,h3]
theorem ahl (fY:jk P ty){t:Nat}{τ:Ty}(h:ty t=some τ):bA P t τ.sh:=(fY t τ h).sh

theorem rN {P:Program}{e:TypeId}{d:DataW H}{m:Nat}:∀ {l:List (DataW H)},d∈l→m∈d.weights P e→m∈DataW.weightsAll P e l
 |x::l,h,hm=>by
  simp only[DataW.weightsAll,bW];rcases eL.1 h with rfl |h
  ·exact .inl hm
  ·exact .inr (rN h hm)

theorem EY {α:Type}[Inhabited α]{n:Nat}{p:Nat→α→Prop}(h:∀i,i<n→∃x,p i x):∃f:Nat→α,∀i,i<n→p i (f i):=by
 classical
 refine⟨fun i=>if hi:i<n then Classical.choose (h i hi) else default,fun i hi=>?_⟩
 grind

theorem GO (fY:jk P ty){L:List Nat}(hL:∀t∈L,dT ty L t=true)(B:Nat):∀ (n t:Nat) (τ:Ty) (cs:List Value) (x:DataW H × List MemPlace),t∈L→DataW.trod enc P w base (fun _=>true) held n t cs=some x→ty t=some τ→(∀m∈x.1.weights P t,m≤B) →
  ∃row,cs.length=τ.size∧row.length=τ.size∧cV ty B n t row∧∀ (j:Nat) (d:D),row[j]? = some d→∃v,cs[j]? = some v∧Rd (fun _=>True) w d v
 |0,_,_,_,_,_,h,_,_=>by simp[DataW.trod]at h
 |n+1,t,τ,cs,x,htL,h,hτ,Xr=>by
  have hd:=hL t htL;have eE:=ahl fY hτ;have h1:=(fY t τ hτ).one;unfold dT at hd;rw[hτ]at hd;simp only at hd
  have one:∀ (d:D) (v:Value),τ.size=1→cs=[v]→Rd (fun _=>True) w d v→cV ty B (n+1) t [d]→∃row,cs.length=τ.size∧row.length=τ.size∧cV ty B (n+1) t row∧∀ (j:Nat) (d:D),row[j]? = some d→∃v,cs[j]? = some v∧Rd (fun _=>True) w d v:=by
   intro d v hs qg hr hh;refine⟨[d],by rw[qg,hs];rfl,by rw[hs];rfl,hh,fun j d' hj=>?_⟩
   match j,hj with
   |0,hj=>simp_all
  cases hs:τ.sh with
  |one=>simp_all
  |int k =>
   rw[hs]at eE;simp only[bA]at eE;obtain⟨m,qg,hx,hwf⟩:=DataW.trod_int eE h;refine one (.v (.int k m)) _ (h1 IY) qg (.v _) ?_;simp only[cV,hτ,hs];simp only[Lit.wf,aV,decide_eq_true_eq]at hwf
   simp_all
  |bool =>
   rw[hs]at eE;simp only[bA]at eE;obtain⟨b,qg,hx⟩:=DataW.trod_bool eE h;refine one (.v (.bool b)) _ (h1 IY) qg (.v _) ?_;simp only[cV,hτ,hs]
   simp_all
  |str =>
   rw[hs]at eE;simp only[bA]at eE;obtain⟨s,qg,hx,hwf⟩:=DataW.trod_string eE h;refine one (.v (.string s)) _ (h1 IY) qg (.v _) ?_;simp only[cV,hτ,hs];subst hx;exact⟨s,rfl,by simpa using Xr s.data.toList.length (by simp[DataW.weights])⟩
  |struct jz =>
   rw[hs]at eE hd;simp only[bA]at eE;simp only[aV,fk,ags]at hd;obtain⟨fs,hu,Bp,_⟩:=eE;obtain⟨xs,n',hn,hx,dV,hxl,eK⟩:=DataW.trod_struct hu h;cases hn;rw[uS fY hτ]at dV
   have hmem:∀f∈jz,∃x,DataW.trod enc P w base (fun _=>true) held n f.2 ((cs.drop f.1).take (P.cellsOf f.2))=some x∧∀m∈x.1.weights P f.2,m≤B:=by
    intro f hf;rw[← Bp]at hf;obtain⟨fl,aoL,rfl⟩:=fA.1 hf;obtain⟨i,hi,hii⟩:=aa7.1 aoL;have e1:fs[i]? = some fl:=by grind
    have hix:i<xs.length:=by grind
    refine⟨xs[i],by grind,fun m hm=>Xr m ?_⟩;rw[hx];simp only[DataW.weights,hu];exact DataW.weights_mem_each (j:=i) k8 q5 m hm
   have aoM:∀ (t:Nat) (τ:Ty) (l:List Value) (x:DataW H × List MemPlace),t∈L→DataW.trod enc P w base (fun _=>true) held n t l=some x→ty t=some τ→(∀m∈x.1.weights P t,m≤B)→∃row,l.length=τ.size∧row.length=τ.size∧cV ty B n t row∧∀ (j:Nat) (d:D),row[j]? = some d→∃v,l[j]? = some v∧Rd (fun _=>True) w d v :=
    fun t τ l x ht h h' h''=>GO fY hL B n t τ l x ht h h' h''
   obtain⟨row,g1,g2,g3⟩:∃row,0+row.length=τ.size∧wz (cV ty B n) ty jz row∧∀ (j:Nat) (d:D),row[j]? = some d→∃v,cs[0+j]? = some v∧Rd (fun _=>True) w d v:=by
    have key:∀ (fs:List (Nat × Nat)) (o:Nat),(∀ f∈fs,f.2∈L)→Bo ty τ.size fs o=true→(∀ f∈fs,∃ x,DataW.trod enc P w base (fun _=>true) held n f.2 ((cs.drop f.1).take (P.cellsOf f.2))=some x∧∀ m∈x.1.weights P f.2,m≤B) →
      ∃row,o+row.length=τ.size∧wz (cV ty B n) ty fs row∧∀ (j:Nat) (d:D),row[j]? = some d→∃v,cs[o+j]? = some v∧Rd (fun _=>True) w d v:=by
     intro fs;induction fs with
     |nil=>intro o _ hc _;simp only[Bo,beq_iff_eq]at hc;exact⟨[],by simpa using hc,rfl,by simp⟩
     |cons ft fs ih =>
      obtain⟨f,t⟩:=ft;intro o hm hc hf;simp only[Bo]at hc;split at hc
      case h_2=>cases hc
      rename_i τ' ajj;simp only[aV,beq_iff_eq]at hc;obtain⟨rfl,hc⟩:=hc;obtain⟨alN,h1,h2,h3⟩:=ih (f+τ'.size) (fun g hg=>hm g (Sw _ hg)) hc fun g hg=>hf g (Sw _ hg)
      obtain⟨x,hx,hxw⟩:=hf (f,t) (Wb ..);obtain⟨S3,g1,g2,g3,g4⟩:=aoM t τ' _ x (hm (f,t) (Wb ..)) hx ajj hxw;rw[uS fY ajj]at g1 g4;refine⟨S3++alN,by rw[List.length_append];omega,⟨τ',S3,alN,ajj,rfl,g2,g3,h2⟩,fun j d hj=>?_⟩;by_cases fu:j<S3.length
      ·rw [jx fu] at hj;obtain⟨v,g5,g6⟩:=g4 j d hj;rw[qb an,AL]at g5;exact⟨v,g5,g6⟩
      ·rw [kR an] at hj;obtain⟨v,g5,g6⟩:=h3 _ d hj;exact⟨v,by rw[show f+j=f+τ'.size+(j - S3.length) by omega];exact g5,g6⟩
    grind
   refine⟨row,dV,by omega,?_,fun j d hj=>by simp_all⟩;simp only[cV,hτ,hs];exact g2
  |array m e=>simp_all
  |map k e=>simp_all
  |slice e =>
   rw[hs]at eE hd;simp only[bA]at eE;simp only[aV,ags]at hd;obtain⟨heL,hd⟩:=hd;split at hd
   case h_2=>cases hd
   rename_i τe ahn;have aho:=of_decide_eq_true hd;have hsz:=h1 IY;rcases DataW.trod_slice eE h with ⟨qg,_⟩ |⟨a,len,cap,elems,ax,n',hn,qg,hx,hb,hl,hm,aZ,hel,hsp,_⟩
   ·refine one (.sl []) _ hsz qg (.nil _ _) ?_;simp only[cV,hτ,hs]
    simp_all
   ·cases hn;rcases Sn len with h0 |h0
    ·subst h0;refine one (.sl []) _ hsz qg (.nil _ _) ?_;simp only[cV,hτ,hs]
     simp_all
    have hce:=uS fY ahn
    have gL:∀i,i<len→∃row:List D,∃l:List Value,w.cells? base (a.add (i * τe.size)) τe.size=some l∧l.length=τe.size∧row.length=τe.size∧cV ty B n e row∧∀ (j:Nat) (d:D),row[j]? = some d→∃v,l[j]? = some v∧Rd (fun _=>True) w d v:=by
     intro i hi;have h2:=hel i hi;rw[hce]at h2;have h3:elems[i]? = some elems[i]:=dY an;rw[h3]at h2;obtain⟨l,h4,h5⟩:=Option.bind_eq_some_iff.1 h2
     obtain⟨row,g1,g2,g3,g4⟩:=GO fY hL B n e τe l _ heL h5 ahn fun m hm=>Xr m (by
      rw[hx];simp only[DataW.weights,eE,eL,bW];exact .inr (.inl (rN (fA.2 ⟨elems[i],eg _,rfl⟩) hm)))
     grind
    obtain⟨R,hR⟩:=EY gL;obtain⟨V,hV⟩:=EY (fun i hi=>hR i hi);obtain⟨b,o,sp⟩:=a;have EE:∀i,i<len→∀j,j<τe.size→w.cell? ((⟨b,o,sp⟩:Addr).add (i * τe.size) |>.add j)=(V i)[j]? := fun i hi j hj=>(World.cells?_some (hV i hi).1).2.2 j hj
    have Xs:=EE 0 h0 0 aho;simp only[Wc,Addr.add,if_true]at Xs;have hv0:(V 0)[0]? = some ((V 0)[0]' k8):=dY _;rw[hv0]at Xs;simp only[World.cell?]at Xs;split at Xs
    case h_2=>cases Xs
    rename_i c T fr bc;split at Xs
    ·cases Xs
    rename_i ar9;have:sp=none:=by simp_all
    subst this
    have ahp:∀i,i<len→∀j,j<τe.size→c[o+i * τe.size+j]? = (V i)[j]? := fun i hi j hj=>by
     have h2:=EE i hi j hj;rw[fK,fK]at h2;simp only[World.cell?,bc]at h2;simpa using h2
    refine one (.sl ((List.range len).map R)) _ hsz qg ?_ ?_
    ·have key:=Rd.sl (S:=fun _=>True) (w:=w) (aa:=(List.range len).map R) (b:=b) (o:=o) (cap:=cap) (sz:=τe.size) (cs:=c) (T:=T) (fr:=fr) (fun i j=>((V i)[j]?).getD undef) trivial bc PU hm
      (fun i r hi=>?_) (fun i r j x hi hj=>?_) (fun i r j x hi hj=>?_)
     ·simpa using key
     ·have fu:=(bC.1 hi).1;simp at fu;rw[eU,V9 fu]at hi;simp at hi;subst hi;exact(hV i fu).2.2.1
     ·have fu:=(bC.1 hi).1;simp at fu;rw[eU,V9 fu]at hi;simp at hi;subst hi;obtain⟨v,g1,_⟩:=(hV i fu).2.2.2.2 j x hj;have Bb:=(bC.1 hj).1;rw[(hV i fu).2.2.1]at Bb;rw[ahp i fu j Bb,g1];rfl
     grind
    ·simp only [cV,hτ,hs];refine⟨_,rfl,fun τ' ajj=>?_,fun r hr=>?_⟩
     ·rw [ahn] at ajj; cases ajj;have h2:=Xr ((elems.length+ax.length) * P.bytesOf e) (by rw[hx];simp[DataW.weights,eE])
      have h3:P.bytesOf e=τe.bytes:=by
       obtain⟨i,z,h1,_,_,h4,_⟩:=(fY e τe ahn).info;simp[Program.bytesOf,h1,h4]
      rw[h3,aZ,Nat.add_mul]at h2;simp;omega
     grind
end
end aw
namespace aw
open Go Go.RowKit Go.ChangeShapes Go.WideShapes Go.ChangeAt

variable{W:World}
def uT (τ:Ty)(row:List D):AV :=
 match τ.agg with
 |true=>.agg (row.map .d)
 |false=>match row with
  |[x]=>.d x
  |_=>.any

def lF (ty:Nat→Option Ty) (B:Nat):List Nat→List AV→Prop
 |[],[]=>True
 |t::ts,a::dM=>(∃ (n:Nat) (τ:Ty) (row:List D),ty t=some τ∧cV ty B n t row∧row.length=τ.size∧a=uT τ row)∧lF ty B ts dM
 |_,_=>False
section
variable {H:Type} {enc:TypeId × Value→H} {P:Program} {ty:Nat→Option Ty}

theorem ahq{S:Nat→Prop}{w:World}{φ:List bB}{row:List D}{cs:List Value}(hl:row.length=cs.length)(h:∀ (j:Nat) (d:D),row[j]? = some d→∃v,cs[j]? = some v∧Rd S w d v):aW S w φ (row.map .d) cs :=
 aW.rG PU fun i x v hx hv=>by
  rw[eU]at hx;cases hr:row[i]? with
  |none=>simp_all
  |some d =>
   rw[hr]at hx;simp at hx;subst hx;obtain⟨v',h1,h2⟩:=h i d hr;rw[hv]at h1;cases h1;simpa only[RV]using h2

theorem Xt(fY:jk P ty){L:List Nat}(hL:∀t∈L,dT ty L t=true){B:Nat}{base t:Nat}{τ:Ty}{v:Value}{d:DataW H}{ps:List MemPlace}(ht:t∈L)(hτ:ty t=some τ)
  (dw:Value.okWide P W .any base t v) (h:DataW.Trod enc P W 0 (fun _=>true) true t v d ps) (hw:∀m∈d.weights P t,m≤B) :
  ∃ (n:Nat) (row:List D),cV ty B n t row∧row.length=τ.size∧RV (fun _=>True) W [] (uT τ row) v:=by
 obtain⟨n,hn⟩:=h;obtain⟨row,h1,h2,h3,h4⟩:=GO fY hL B n t τ _ _ ht hn hτ hw;refine⟨n,row,h3,h2,?_⟩;have hd:=hL t ht;have eE:=(fY t τ hτ).sh;have WZ:=(fY t τ hτ).one;unfold dT at hd;rw[hτ]at hd;simp only at hd
 have single:(∃c,v.cells.toList=[c]∧v=c)→τ.agg=false→RV (fun _=>True) W [] (uT τ row) v:=by
  rintro⟨c,hc,rfl⟩ ha;unfold uT;rw[ha];have hs:=WZ ha
  match row,h2 with
  |[x],_ =>
   simp only;obtain⟨v',h5,h6⟩:=h4 0 x rfl;rw[hc]at h5;simp at h5;subst h5;simpa only[RV]using h6
  |[],h=>simp_all
  |_::_::_,h=>simp_all
 cases hs:τ.sh with
 |one=>simp_all
 |array m e=>simp_all
 |map k e=>simp_all
 |int k =>
  rw[hs]at eE;simp only[bA]at eE;obtain⟨m,rfl⟩:=okWide_int eE dw;exact single ⟨_,rfl,rfl⟩ IY
 |bool =>
  rw[hs]at eE;simp only[bA]at eE;obtain⟨m,rfl⟩:=okWide_bool eE dw;exact single ⟨_,rfl,rfl⟩ IY
 |str =>
  rw[hs]at eE;simp only[bA]at eE;obtain⟨m,rfl⟩:=okWide_string eE dw;exact single ⟨_,rfl,rfl⟩ IY
 |slice e =>
  rw[hs]at eE;simp only[bA]at eE;obtain⟨a,l,c,rfl⟩:=okWide_slice eE dw;exact single ⟨_,rfl,rfl⟩ IY
 |struct jz =>
  rw[hs]at eE;simp only[bA]at eE;obtain⟨fs,hu,_⟩:=eE;obtain⟨cs,rfl,_⟩:=okWide_struct hu dw;have ha:τ.agg=true:=by unfold Ty.agg;rw[hs]
  unfold uT;rw[ha];simp only[Value.cells]at h1 h4;simp only[RV];exact⟨cs.toList,by simp,ahq (by rw[h1,h2]) h4⟩

theorem EZ(fY:jk P ty){L:List Nat}(hL:∀t∈L,dT ty L t=true){B:Nat}{W:World}{base:Nat}:∀ (ts:List Nat) (vs:List Value) (ds:List (DataW H)) (ps:List MemPlace),(∀t∈ts,t∈L∧(ty t).isSome=true)→DataW.TrodAll enc P W 0 (fun _=>true) true ts vs ds ps →
  (∀ (j:Nat) (t:Nat) (v:Value),ts[j]? = some t→vs[j]? = some v→Value.okWide P W .any base t v)→(∀m∈DataW.weightsEach P ts ds,m≤B)→∃dM,aW (fun _=>True) W [] dM vs∧lF ty B ts dM∧ds.length=ts.length
 |[],[],[],_,_,_,_,_=>⟨[],by simp[aW],trivial,rfl⟩
 |[],_::_,_,_,_,h,_,_=>by simp[DataW.TrodAll]at h
 |[],[],_::_,_,_,h,_,_=>by simp[DataW.TrodAll]at h
 |_::_,[],_,_,_,h,_,_=>by simp[DataW.TrodAll]at h
 |_::_,_::_,[],_,_,h,_,_=>by simp[DataW.TrodAll]at h
 |t::ts,v::vs,d::ds,ps,hl,h,dw,hw=>by
  simp only[DataW.TrodAll]at h;obtain⟨p,q,h1,h2,rfl⟩:=h;obtain⟨htL,htS⟩:=hl t aC;obtain⟨τ,hτ⟩:=aa9.1 htS;simp only[DataW.weightsEach,bW]at hw;obtain⟨n,row,h3,h4,h5⟩:=Xt fY hL htL hτ (dw 0 t v rfl rfl) h1 fun m hm=>hw m (.inl hm)
  obtain⟨dM,h6,h7,h8⟩:=EZ fY hL ts vs ds q (fun t ht=>hl t AK) h2 (fun j t v ht hv=>dw (j+1) t v (by simpa using ht) PS) fun m hm=>hw m (.inr hm)
  exact⟨uT τ row::dM,by simp only[aW];simp_all,⟨⟨n,τ,row,hτ,h3,h4,rfl⟩,h7⟩,by simp[h8]⟩

theorem ue(hl:laidOutB P=true){W W':World}(hb:Below W.heap.size W W'){sp:Nat→Bool}:∀ (ts:List Nat) (vs:List Value) (ds:List (DataW H)) (ps:List MemPlace),(∀t∈ts,P.readableRec t=true∧t<P.types.size)→DataW.TrodAll enc P W 0 (fun _=>true) true ts vs ds ps →
  (∀p∈ps,p.block<W.heap.size∧sp p.block=true)→DataW.TrodAll enc P W' 0 sp true ts vs ds ps
 |[],[],[],_,_,h,_=>h
 |[],_::_,_,_,_,h,_=>by simp[DataW.TrodAll]at h
 |[],[],_::_,_,_,h,_=>by simp[DataW.TrodAll]at h
 |_::_,[],_,_,_,h,_=>by simp[DataW.TrodAll]at h
 |_::_,_::_,[],_,_,h,_=>by simp[DataW.TrodAll]at h
 |t::ts,v::vs,d::ds,ps,hr,h,hp=>by
  simp only[DataW.TrodAll]at h ⊢;obtain⟨p,q,h1,h2,rfl⟩:=h;obtain⟨hr1,QC⟩:=hr t aC
  exact⟨p,q,WideElems.Trod_stays hl hr1 QC h1 (fun x hx=>hb.same (hp x tM).1) (fun x hx=>(hp x tM).2),
   ue hl hb ts vs ds q (fun t ht=>hr t AK) h2 (fun x hx=>hp x tM),rfl⟩

theorem Xu{f:Func}{s:ChangeSpec}{apart az handsOn again:Bool}{W W':World}{args:Array Value}{v:Value}{ds gs:List (DataW H)}{before pa pv:List MemPlace}
  (hW:DataW.Whole enc P f.params.toList s.vars apart W args.toList ds gs before)
  (mZ:∀ (b:Nat) (sp:Nat→Bool) (hd:Bool),DataW.TrodAll enc P W' b sp hd f.resultTypes.toList (v.resultList f.resultTypes.size) (s.fn H (ds++gs)).results [])
  (mr:∀sp:Nat→Bool,(∀p∈before,sp p.block=true)→DataW.TrodAll enc P W' 0 sp true f.params.toList args.toList (s.fn H (ds++gs)).args pa)
  (ae1:∀sp:Nat→Bool,(∀p∈before,sp p.block=true)→DataW.TrodVars enc P W' sp s.vars (s.fn H (ds++gs)).vars pv)
  (hps:before=pa++pv) (hb:Below W.heap.size W W')
  (dw:∀ (j:Nat) (t:TypeId) (r:Value),f.resultTypes[j]? = some t→(v.resultList f.resultTypes.size)[j]? = some r→Value.okWide P W' .any 0 t r) :
  s.post enc P f apart az handsOn again W args v W':=by
 have fu:∀p∈before,p.block<W.heap.size:=fun p hp=>hW.lt p hp
 have hold:∀p∈before,(fun b=>decide (b<W.heap.size)) p.block=true:=fun p hp=>by simp_all
 refine⟨ds,gs,before,[],pa,pv,hW,mZ _ _ _,mr _ hold,ae1 _ hold,World.keptBut_mono (fun p hp=>⟨hp,?_⟩) (hb.frame (· ∈ before)),fun _=>?_⟩
 ·simp_all
 ·obtain ⟨_,_,_,_,_,hz,hn⟩:=hW;refine⟨dw,_,_,([]++pa)++pv,⟨[]++pa,pv,trodAll_append (mr _ (fun _ _=>rfl)) (mZ _ _ _),ae1 _ (fun _ _=>rfl),rfl,?_,?_⟩,?_⟩
  ·intro b off hp;have zI:MemPlace.cell b off∈before:=by rw[hps];simpa using hp
   rw[hb.frozen (fu _ zI)];exact hz b off zI
  ·intro ha;have:=hn ha;rw[hps]at this;simpa using this
  simp_all

structure abH (s:ChangeSpec) (n:Nat):Prop where
 vars:s.vars=[]
 fn:∀ (H:Type) (ds:List (DataW H)),ds.length=n→s.fn H ds={ results:=[.lit (.bool true)],args:=ds }

theorem S4(fY:jk P ty){L:List Nat}(hL:∀t∈L,dT ty L t=true)(hl:laidOutB P=true){f:Nat}{fn:Func}{s:ChangeSpec}{apart az handsOn again:Bool}{tb:Nat}(hs:abH s fn.params.size)(hr:fn.resultTypes=#[tb])(htb:P.underlying tb=some .bool)
  (aoO:∀t∈fn.params.toList,t∈L∧(ty t).isSome=true) (vR:∀t∈fn.params.toList,P.readableRec t=true∧t<P.types.size)
  (aoP:∀dM,lF ty reachBytes fn.params.toList dM→bD P f dM (bV true))  (xF:gx P (fun _=>True) W) {base:Nat} {args:Array Value} {ds gs:List (DataW H)} {before:List MemPlace} {vt:List Nat}
  (dw:∀ (j:Nat) t v,fn.params[j]? = some t→args[j]? = some v→Value.okWide P W .any base t v) (hW:DataW.Whole enc P fn.params.toList s.vars apart W args.toList ds gs before)
  (Xr:(DataW.weightsEach P (fn.params.toList++vt) (ds++gs)).all (· ≤ reachBytes)=true) :
  Calls P f args W fun e W'=>∃v,e=.returned v∧s.post enc P fn apart az handsOn again W args v W':=by
 have hW':=hW;obtain⟨p,q,hA,hV,rfl,_,_⟩:=hW;rw[hs.vars]at hV;obtain⟨rfl,rfl⟩:=trodVars_none hV
 have QD:∀ {ts:List Nat} {vs:List Value} {ds:List (DataW H)} {ps:List MemPlace},DataW.TrodAll enc P W 0 (fun _=>true) true ts vs ds ps→ds.length=ts.length:=by
  intro ts;induction ts with
  |nil=>intro vs ds ps h;cases vs<;>cases ds<;>simp[DataW.TrodAll]at h ⊢
  |cons t ts ih=>intro vs ds ps h;cases vs<;>cases ds<;>simp[DataW.TrodAll]at h ⊢;obtain⟨_,_,_,h,_⟩:=h;exact ih h
 have aZ:=QD hA
 have hw:∀m∈DataW.weightsEach P fn.params.toList ds,m≤reachBytes:=fun m hm=>by
  have key:∀ (ts vt:List Nat) (ds:List (DataW H)),ds.length=ts.length→DataW.weightsEach P (ts++vt) (ds++[])=DataW.weightsEach P ts ds:=by
   intro ts;induction ts with
   |nil=>intro vt ds h;have:ds=[]:=jy.1 l6;subst this;cases vt<;>simp[DataW.weightsEach]
   |cons t ts ih=>intro vt ds h;cases ds with
    |nil=>simp at h
    |cons d ds=>simp only[jj,DataW.weightsEach];rw[ih vt ds l6]
  rw[key _ _ _ aZ,fk]at Xr;simpa using Xr m hm
 obtain⟨dM,h1,h2,_⟩:=EZ fY hL fn.params.toList args.toList ds p aoO hA (fun j t v ht hv=>dw j t v (by simpa using ht) PS) hw;have hc:=(aoP dM h2).run (fun _=>True) W args.toList xF (fun _ _=>trivial) h1;rw[show args.toList.toArray=args from by simp]at hc;refine hc.mono ?_;rintro e W' ⟨v,rfl,hv,hb⟩;simp only[bV,RV]at hv;cases hv;have kq:ds.length=fn.params.size:=by rw[aZ];simp
 have hfn:s.fn H (ds++[])={ results:=[.lit (.bool true)],args:=ds }:=by rw[vJ];exact hs.fn H ds kq
 refine⟨_,rfl,Xu (pa:=p) (pv:=[]) hW' (fun b sp hd=>?_) (fun sp hsp=>?_) (fun sp hsp=>?_) rfl hb ?_⟩
 ·rw [hfn,hr];exact trodAll_mk1 (shut_bool htb true)
 ·rw [hfn];exact ue hl hb _ _ _ _ vR hA fun x hx=>⟨hW'.lt x tM,hsp x tM⟩
 ·rw[hfn,hs.vars];rfl
 ·exact ok_one hr rfl (okWide_bool_mk htb true)
end
end aw
namespace aw
open Go Go.RowKit
variable{gd:Option (Nat × Bool)}{after:Array Edge}{dst:Option Nat}{ax:List Oper}{objs:List Ob}{pos:String}{k:List It}{x:Operand}{ty T:Nat}{E:bk}{l:List AV}{τ:Ty}{v:AV}
section
variable {g:G} {pf:Nat→cC} {ad:Array Oper} {Fin:Exit→Act→World→Prop}

open Classical in
theorem aaM(hg:c9 g)
  {l:List D}  
  (bm:aG ad.toList E gd=some true) (hd:aO ⟨g.ty,g.N⟩ dst=true) (hx:ev E x=.d (.bG l)) (hT:g.ty T=some τ) (hp:ky τ (l.map .d) 0=some v)
  (hr:R g pf Fin (.dr ad ax::k) (bf E dst v) objs):R g pf Fin (.dr ad (⟨dst,.load T x,ty,pos,after,gd⟩::ax)::k) E objs:=by
 refine cL (aI.quiet hg bm hd aC fun φ o₁ a w hρ hs=>?_) hr;simp only[Op.operands]at hρ;have aN:=hρ x aC;rw[hx]at aN;refine j0 (ρA:=fun y=>if y=x then .d (.bG l) else .any) hg.ty hs (fun y=>?_) ?_
 ·split
  ·simp_all
  ·simp[RV]
 ·simp only[db,cJ,eX,hT,if_true,hp]

open Classical in
theorem Gb(hg:c9 g)(m:Nat)
  {i off:Nat}    (hi:¬ o4 g.φ0.length m i (.box l))
  (bm:aG ad.toList E gd=some true) (hd:aO ⟨g.ty,g.N⟩ dst=true) (dV:kA pf x=.look (m+1)) (hx:ev E x=.lo i off) (ho:dk objs i=some (.box l)) (hT:g.ty T=some τ) (hp:ky τ l off=some v)
  (hr:R g pf Fin (.dr ad ax::k) (bf E dst v) objs):R g pf Fin (.dr ad (⟨dst,.load T x,ty,pos,after,gd⟩::ax)::k) E objs:=by
 refine cL ?_ hr;simp only[bI,dV];refine aI.fM hg m bm hd aC fun φ a w bP hgr hρ hs=>?_
 simp only[Op.operands]at hρ;have aN:=hρ x aC;rw[hx]at aN;have DT:=aN;simp only[RV]at DT;obtain⟨b,hb,_⟩:=DT
 have ho:dk bP i=some (.box l):=by
  rw[bu]at ho ⊢;exact Gr.Ex hgr ho AF hi
 refine j0 (ρA:=fun y=>if y=x then .lo i off else .any) hg.ty hs (fun y=>?_) ?_
 ·split
  ·simp_all
  ·simp[RV]
 ·simp only[db,cJ,eX,hT,if_true,ho,hp]

theorem F7(hg:c9 g)
  {i off:Nat}    (hi:g.φ0.length≤i)
  (bm:aG ad.toList E gd=some true) (hd:aO ⟨g.ty,g.N⟩ dst=true) (dV:kA pf x=.look 4) (hx:ev E x=.lo i off) (ho:dk objs i=some (.box l)) (hT:g.ty T=some τ) (hp:ky τ l off=some v)
  (hr:R g pf Fin (.dr ad ax::k) (bf E dst v) objs):R g pf Fin (.dr ad (⟨dst,.load T x,ty,pos,after,gd⟩::ax)::k) E objs :=
 Gb hg 3 (by unfold o4 Ob.lvl;grind) bm hd dV hx ho hT hp hr

open Classical in
theorem AA(hg:c9 g){d x:Operand}
  {i off:Nat} {l new:List AV} 
  (bm:aG ad.toList E gd=some true) (hd:aO ⟨g.ty,g.N⟩ dst=true) (dV:iZ pf d=.bO (Nat.add 100 i)) (hx:ev E d=.lo i off) (ho:dk objs i=some (.box l)) (hT:g.ty T=some τ) (hc:fU (ev E x)=some new)
  (hl:Nat.beq (len new) τ.size=true) (lN:Nat.ble (Nat.add off τ.size) (len l)=true)
  (hr:R g pf Fin (.dr ad ax::k) (bf E dst .any) (da objs i (.box (gy l off new)))):R g pf Fin (.dr ad (⟨dst,.store T d x,ty,pos,after,gd⟩::ax)::k) E objs:=by
 refine cL ?_ hr;simp only[bI,dV];refine .mY hg (cK bm) (dD hd) aC (fun h=>absurd rfl (h _)) (fun b hb _=>?_) fun φ o₁ jl a w E₁ tS hv vp hs=>?_
 ·cases hb;intro j y hj;rw[bu]at ho;rw[bq];by_cases e:j=i
  ·subst e;exact⟨_,qc (bC.1 ho).1,.inr ⟨.inr (.inl rfl),.inr (.inl rfl)⟩⟩
  grind
 ·rcases vp with ⟨h,_⟩ | ⟨_,h,_⟩ | ⟨rfl,rfl⟩
  ·cases h
  ·cases h
  have hρ:=lf tS hv;simp only[Op.operands]at hρ;refine j0 (ρA:=fun y=>if y=d then .lo i off else if y=x then ev E x else .any) hg.ty hs (fun y=>?_) ?_
  ·split
   ·simp_all
   ·split
    ·simp_all
    ·simp[RV]
  ·have hxx:(if x=d then AV.lo i off else if x=x then ev E x else .any)=ev E x:=by
    split
    ·rename_i h;rw[h,hx]
    ·rw[if_pos rfl]
   have ahs:(if x=d then AV.lo i off else ev E x)=ev E x:=by rw[if_pos rfl]at hxx;exact hxx
   simp only[db,cJ,eX,iz,hT,if_true,ho,ahs,hc,hl,lN,cond_true]

theorem afS(hg:c9 g)(m:Nat)
  {id s sz q cj e:Nat} {z:List Value} {aa:List (List D)} {n:Int} (hi:¬ o4 g.φ0.length m id (.arr sz s aa))
  (bm:aG ad.toList E gd=some true) (hd:aO ⟨g.ty,g.N⟩ dst=true) (dV:mW pf #[x]=.look (m+1)) (hx:ev E x=.ow id s) (ho:dk objs id=some (.arr sz s aa)) (hT:g.ty T=some ⟨q,cj,z,.slice e⟩) (hn:(aa.length:Int)=n)
  (hr:R g pf Fin (.dr ad ax::k) (bf E dst (iV n)) objs):R g pf Fin (.dr ad (⟨dst,.call { callee:=.builtin .len,args:=#[x],argTypes:=#[T] },ty,pos,after,gd⟩::ax)::k) E objs:=by
 subst hn;refine cL ?_ hr;simp only[bI,dV];refine aI.fM hg m bm hd aC fun φ a w bP hgr hρ hs=>?_
 simp only[Op.operands,Call.operands]at hρ;have aN:=hρ x aC;rw[hx]at aN;simp only[RV]at aN;obtain⟨_,ph,eQ,aN⟩:=aN
 have ho:dk bP id=some (.arr sz s aa):=by
  rw[bu]at ho ⊢;exact Gr.Ex hgr ho AF hi
 have hk:=cG hs eQ ho;cases ph<;>try (simp only[bd]at hk;done)
 simp only[bd]at hk;exact akf

theorem jv(hg:c9 g)(hu:Iu g)(hF:g.F=Fence.wide∧g.dep=0)(hY:∀ (i l:Nat) (I:Nat→(Nat→Prop)→(Nat→Prop)→World→Prop) (B:Nat→Prop),g.φ0[i]? = some (bB.ext l I B)→lQ g.P Fence.wide 0 g.Y l I g.S0)(is:List Nat)(objs':List Ob){Y:YP}{f:Nat}{dM:List AV}{bT a8:List Ob}{r:AV}(hc:aU g.P Y f dM bT r a8)(uH:(∃ (i l:Nat) (I:Nat→(Nat→Prop)→(Nat→Prop)→World→Prop) (B:Nat→Prop),g.φ0[i]? = some (bB.ext l I B))→Y=g.Y){args:Array Operand}{ts:Array Nat}
      {fs cs:List AV} (fu:∀i∈is,i<g.φ0.length)
  (bm:aG ad.toList E gd=some true) (hd:aO ⟨g.ty,g.N⟩ dst=true) (dV:bI pf (.call { callee:=.value x,args:=args,argTypes:=ts })=.bO 3) (hx:ev E x=.bU f fs cs) (dw:isOk (len objs) is=true) (jE:fE objs is=some (bT.map (bz (rn is (len objs)))))
  (has:(fs++args.toList.map (ev E)++cs).map lB=iu (rn is (len objs)) dM) (ho:cZ is (a8.map (bz (rn is (len objs)))) objs=objs')
  (hr:R g pf Fin (.dr ad ax::k) (bf E dst (c8 (rn is (len objs)) r)) objs') :
  R g pf Fin (.dr ad (⟨dst,.call { callee:=.value x,args:=args,argTypes:=ts },ty,pos,after,gd⟩::ax)::k) E objs:=by
 subst ho;refine cL ?_ hr;show aI g ad _ E objs (bI pf (.call { callee:=.value x,args:=args,argTypes:=ts })) _ _
 rw[dV];have h:=mM (ad:=ad) (after:=after) (pos:=pos) (ty:=ty) (ts:=ts) (dst:=dst) hg hu hF hY is hc uH bm hd hx dw jE has;obtain⟨p8,Qp⟩:=s6 dw;rw[bj]at Qp
 have Qu:is.length≤a8.length:=by
  have h1:=po jE;have h2:=hc.len
  simp_all
 refine⟨fun hn=>absurd rfl (hn 3),fun b hb _=>?_,fun E₁ o₁ jl a w h1 h2 h3=>h.step E₁ o₁ jl a w h1 (by
  simp_all) h3⟩
 cases hb;intro i y hi;have l7:=(bC.1 hi).1;by_cases hm:i∈is
 ·have asb:=fu i hm
  have:i<(cZ is (a8.map (bz (rn is (len objs)))) objs).length:=by
   rw[lD (by simpa using Qu)];omega
  refine⟨_,dY this,.inr ⟨?_,?_⟩⟩
  ·exact .inl ⟨by omega,by unfold Ob.lvl;grind⟩
  ·exact .inl ⟨by omega,by unfold Ob.lvl;grind⟩
 ·exact⟨y,by rw[ja hm l7];exact hi,.inl rfl⟩
end
end aw
namespace aw
open Go Go.RowKit
section
variable {g:G} {pf:Nat→cC} {ad:Array Oper} {Fin:Exit→Act→World→Prop}

theorem Vy (hg:c9 g){dst:Option Nat}{T:Nat}{parts:Array (Nat × Operand)}{ty:Nat}{pos:String}{after:Array Edge}{gd:Option (Nat × Bool)}{ax:List Oper}{k:List It}{E:bk}{objs:List Ob}
  {n sz cj e:Nat} {z:List Value} {τ:Ty} {aa:List (List D)} (l:List AV)
  (bm:aG ad.toList E gd=some true) (hd:aO ⟨g.ty,g.N⟩ dst=true) (hT:g.ty T=some ⟨sz,cj,z,.array n e⟩) (he:g.ty e=some τ)
  (eA:kN (parts.toList.map fun p=>(p.1,ev E p.2)) 0 τ.size=some aa) (hn:parts.size=n) (hsz:sz=n * τ.size) (hl:aa.flatten.map AV.d=l)
  (hr:R g pf Fin (.dr ad ax::k) (bf E dst (.agg l)) objs):R g pf Fin (.dr ad (⟨dst,.build T parts,ty,pos,after,gd⟩::ax)::k) E objs:=by
 subst hl;refine cL (aI.quiet hg bm hd aC fun φ o₁ a w hρ hs=>?_) hr;simp only[Op.operands]at hρ;have hτ:=hg.ty _ _ hT;have ahn:=hg.ty _ _ he;have eE:=hτ.sh;simp only[bA]at eE;obtain⟨zv,Ig,U8⟩:=iq hτ w;have Jh:=hτ.zl;have hzs:zv.cells.toList.length=n * τ.size:=by simp_all
 have Ve:(parts.map fun (i,x)=>(i,a.eval x)).toList=parts.toList.map fun p=>(p.1,a.eval p.2):=by simp_all
 have hev:∀p∈parts.toList,RV (SS g.S0 φ) w φ (ev E p.2) (a.eval p.2):=fun p hp=>hρ p.2 q5
 obtain ⟨cells,h1,h2,MO,h3⟩:=sW (S0:=g.S0) (φ:=φ) (w:=w) ahn (parts.toList.map fun p=>(p.1,ev E p.2)) (parts.toList.map fun p=>(p.1,a.eval p.2)) 0 aa [] zv.cells.toList
  k8 (by simp only[jw];exact aW.map _ _ _ fun p hp=>hev p hp) eA aC k8
 simp only[o8]at h1;refine aY hs (vv:=.agg cells.toArray) ?_ ?_
 ·have fm:(Instr.build T (parts.map fun (i,x)=>(i,a.eval x))).run g.P w=.ok (.agg cells.toArray) w:=by
   have hzc:zv.cells=zv.cells.toList.toArray:=by simp
   simp only[Instr.build,Sem.run_bind,Ig,Result.andThen_ok,underlying,run_program,eE,Sem.run_pure,run_sizeOf ahn,Ve];rw[hzc,h1];simp
  simp only[execOp,Sem.run_bind,fm,Result.andThen_ok,Sem.run_pure]
 ·simp only [RV];refine⟨cells,rfl,?_⟩
  have Bp:∀ (rs:List (List D)) (cs:List Value),cs.length=rs.length * τ.size→(∀ (i:Nat) (r:List D),rs[i]? = some r→r.length=τ.size∧∀ (j:Nat) (x:D),r[j]? = some x→∃v,cs[i * τ.size+j]? = some v∧Rd (SS g.S0 φ) w x v)→aW (SS g.S0 φ) w φ (rs.flatten.map AV.d) cs:=by
   intro rs;induction rs with
   |nil=>intro cs hc _;have:cs=[]:=jy.1 PV;subst this;simp[aW]
   |cons r rs ih =>
    intro cs hc hg;obtain⟨g1,g2⟩:=hg 0 r rfl;have aZ:τ.size≤cs.length:=by rw[hc,dv,uF];omega
    rw[List.flatten_cons,List.map_append,← List.take_append_drop τ.size cs];refine aW.append (aW.rG (by simp[g1];omega) fun j u v hu hv=>?_) (ih _ (by rw[MC,hc,dv,uF];omega) fun i r' hi=>?_)
    ·rw [eU] at hu;cases hj:r[j]? with
     |none=>rw[hj]at hu;cases hu
     |some x =>
      rw[hj]at hu;simp only[rD,Option.some.injEq]at hu;subst hu;obtain⟨v',h4,h5⟩:=g2 j x hj;have Bb:=(bC.1 hj).1;rw[qb an]at hv;rw[Wc,MF,hv]at h4;cases h4;simpa only[RV]using h5
    ·obtain ⟨g3,g4⟩:=hg (i+1) r' (by simpa using hi);refine⟨g3,fun j x hj=>?_⟩;obtain⟨v,h4,h5⟩:=g4 j x hj;refine⟨v,?_,h5⟩;rw[AL,← h4];congr 1;rw[uF];omega
  grind
end
end aw
namespace aw
open Go Go.RowKit
section
variable {g:G} {pf:Nat→cC} {ad:Array Oper} {Fin:Exit→Act→World→Prop}

theorem run_makeSlice (hg:c9 g){w:World}{T e q cj:Nat}{z:List Value}{zv:Value}{by2:Nat}{sh:Sh}{n:Int}(hT:g.ty T=some ⟨q,cj,z,.slice e⟩)(he:g.ty e=some ⟨1,by2,[zv],sh⟩)(h0:0≤n)(hn:n * by2≤1000000)(SQ:n≤1000000) :
  (Instr.makeSlice T (.int .i64 n) (.int .i64 n)).run g.P w=.ok (.slice (some ⟨w.heap.size,0,none⟩) n.toNat n.toNat) (w.alloc (.cells (List.replicate n.toNat zv).toArray e)):=by
 have Gt:=(hg.ty _ _ hT).sh;simp only[bA]at Gt;have hτ:=hg.ty _ _ he;obtain⟨inf,z0,hi,hz,hsz,J7,hzz⟩:=hτ.info
 have hw:IntKind.i64.wrap n=n:=by
  have e:IntKind.i64.wrap n=if n % 18446744073709551616 ≥ 9223372036854775808 then n % 18446744073709551616 - 18446744073709551616 else n % 18446744073709551616:=by
   simp[IntKind.wrap,IntKind.signed,IntKind.bits]
  omega
 obtain⟨zv',Ig,U8⟩:=iq hτ w;have asd:inf.bytes=by2:=J7;have hmul:(inf.bytes:Int) * n≤1000000:=by grind
 have aqp:n.toNat * inf.bytes≤1000000:=by
  grind
 have c1:((decide (n<0) || decide ((inf.bytes:Int) * n > 2 ^ 48)) || decide (n<0) || decide (n > n))=false:=by
  simp;omega
 have Bd:¬ n.toNat * inf.bytes > roomBytes:=by unfold roomBytes;omega
 simp only[Instr.makeSlice,underlying,Sem.run_bind,run_program,Result.andThen_ok,Gt,Sem.run_pure,asInt,asIntOf,typeInfo,hi,hw];rw[Sem.run_ite,if_neg (by rw[c1];simp)];simp only[Sem.run_bind,Sem.run_pure,Result.andThen_ok,askRoom];rw[Sem.run_ite,if_neg Bd];simp only[Sem.run_bind,Sem.run_pure,Result.andThen_ok,run_sizeOf hτ];by_cases qP:n.toNat * 1=0
 ·rw [Sem.run_ite,if_pos qP];have:n.toNat=0:=by omega
  simp[this,newRow,run_newObj]
  grind
 ·rw [Sem.run_ite,if_neg qP];have hzc:zv'.cells=#[zv]:=by apply Array.toList_inj.1;simpa using U8
  simp only[Sem.run_bind,Ig,Sem.run_pure,Result.andThen_ok,newRow,run_newObj,hzc]
  have:(Array.map (fun x=>(#[zv]:Array Value)[x % (#[zv]:Array Value).size]!) (Array.range (n.toNat * 1)))=(List.replicate n.toNat zv).toArray:=by
   apply Array.toList_inj.1;refine List.ext_getElem aC fun i h1 h2=>?_
   simp[Nat.mod_one]
  simp_all

theorem J8 (hg:c9 g){dst:Option Nat}{T:Nat}{x y:Operand}{ty:Nat}{pos:String}{after:Array Edge}{gd:Option (Nat × Bool)}{ax:List Oper}{k:List It}{E:bk}{objs:List Ob}
  {q cj e by2:Nat} {z:List Value} {zv:Value} {sh:Sh} {n:Int} (aa:List (List D))
  (bm:aG ad.toList E gd=some true) (hd:aO ⟨g.ty,g.N⟩ dst=true) (hx:ev E x=.d (.v (.int .i64 n))) (hy:ev E y=.d (.v (.int .i64 n))) (hT:g.ty T=some ⟨q,cj,z,.slice e⟩) (he:g.ty e=some ⟨1,by2,[zv],sh⟩)
  (h0:0≤n) (hn:n * by2≤1000000) (SQ:n≤1000000) (eA:List.replicate n.toNat [D.v zv]=aa)
  (hr:R g pf Fin (.dr ad ax::k) (bf E dst (.ow (len objs) 0)) (objs++[.arr 1 0 aa])) :
  R g pf Fin (.dr ad (⟨dst,.makeSlice T x y,ty,pos,after,gd⟩::ax)::k) E objs:=by
 subst eA;refine cL (aI.eT hg (.add _ _) bm hd aC fun φ a w hρ hs=>?_) hr;simp only[Op.operands]at hρ;have aN:=hρ x aC;rw[hx]at aN;have ew:=hρ y aC;rw[hy]at ew;simp only[RV]at aN ew;generalize kU:a.eval x=vx at aN;generalize oA:a.eval y=vy at ew;cases aN;cases ew;refine⟨.value (.slice (some ⟨w.heap.size,0,none⟩) n.toNat n.toNat),.slice (some ⟨w.heap.size,0,none⟩) n.toNat n.toNat,w.alloc (.cells (List.replicate n.toNat zv).toArray e),φ++[.nZ 1 0 (.slice (some ⟨w.heap.size,0,none⟩) n.toNat n.toNat) (some w.heap.size)],?_,.inl rfl,?_,?_⟩
 ·simp[execOp,kU,oA,run_makeSlice hg hT he h0 hn SQ]
 ·simp only [RV];refine⟨⟨_,_,_,rfl⟩,.nZ 1 0 (.slice (some ⟨w.heap.size,0,none⟩) n.toNat n.toNat) (some w.heap.size),by rw[bj,← hs.len];simp,fun Jj s' x' oT he=>?_⟩
  grind
 ·refine jJ.new hs (fun b hb=>by simp only [bB.bl] at hb; cases hb; rfl) ?_;simp only[bd];refine⟨trivial,trivial,fun r hr=>by simp_all,.inr ⟨w.heap.size,0,n.toNat,List.replicate n.toNat zv,e,by simp,rfl,heap_alloc_new _ _,by simp,by unfold maxLen;omega,by simp,fun i r j x hi hj=>?_⟩⟩;have l7:=(bC.1 hi).1;rw[List.length_replicate]at l7;rw[List.getElem?_replicate,if_pos l7]at hi;cases hi;cases j with
  |zero =>
   simp at hj;subst hj;exact⟨zv,by simp_all,.v _⟩
  |succ j=>simp at hj
end
end aw
namespace aw
open Go Go.RowKit Go.MapKept

mutual
def pz (i:Nat) (ds:List (Value × D)):AV→AV
 | .ow j t=>bif Nat.beq j i then .any else .ow j t
 | .el j t r o=>bif Nat.beq j i then .any else .el j t r o
 | .vw j t r=>bif Nat.beq j i then .any else .vw j t r
 | .lo j o=>bif Nat.beq j i then .any else .lo j o
 | .mp j=>bif Nat.beq j i then .d (.map ds) else .mp j
 | .yl j=>bif Nat.beq j i then .any else .yl j
 | .agg l=>.agg (J9 i ds l)
 | .cH l=>.cH (J9 i ds l)
 | .bU f a c=>.bU f (J9 i ds a) (J9 i ds c)
 | .any=>.any
 | .tt=>.tt
 | .ff=>.ff
 | .d x=>.d x
 | .fs r=>.fs r
def J9 (i:Nat) (ds:List (Value × D)):List AV→List AV
 |[]=>[]
 |x::l=>pz i ds x::J9 i ds l
end

mutual
theorem QE {S S':Nat→Prop}{w:World}{φ φ':List bB}{i:Nat}{ds:List (Value × D)}(hk:dE S w S' w)(hp:∀j,j≠i→φ'[j]? = φ[j]?)(ho:∀v,RV S w φ (.mp i) v→Rd S' w (.map ds) v) :
  ∀ (x:AV) (v:Value),RV S w φ x v→RV S' w φ' (pz i ds x) v
 | .any,_,_=>by simp[RV,pz]
 | .tt,_,h=>by simpa[RV,pz]using h
 | .ff,_,h=>by simpa[RV,pz]using h
 | .d x,v,h=>by simp only[RV,pz]at h ⊢;exact h.mono hk
 | .fs aa,v,h=>by simp only[RV,pz]at h ⊢;exact⟨h.1.mono hk,h.2⟩
 | .agg l,v,h=>by
  simp only[RV,pz]at h ⊢;obtain⟨cs,h1,h2⟩:=h;exact⟨cs,h1,wA hk hp ho l cs h2⟩
 | .lo j off,v,h=>by
  simp only[pz];cases hj:Nat.beq j i
  ·have:j≠i:=fun e=>by subst e; simp at hj
   simp only[RV,cond_false]at h ⊢;simp_all
  ·simp[RV]
 | .el j t r o,v,h=>by
  simp only[pz];cases hj:Nat.beq j i
  ·have:j≠i:=fun e=>by subst e; simp at hj
   simp only[RV,cond_false]at h ⊢;simp_all
  ·simp[RV]
 | .vw j t r,v,h=>by
  simp only[pz];cases hj:Nat.beq j i
  ·have:j≠i:=fun e=>by subst e; simp at hj
   simp only[RV,cond_false]at h ⊢;simp_all
  ·simp[RV]
 | .mp j,v,h=>by
  simp only[pz];cases hj:Nat.beq j i
  ·have:j≠i:=fun e=>by subst e; simp at hj
   simp only[cond_false];simp only[RV]at h ⊢;simp_all
  ·have:=cp hj; subst this;simp only[cond_true];have:=ho v h;simpa only[RV]using this
 | .yl j,v,h=>by
  simp only[pz];cases hj:Nat.beq j i
  ·have:j≠i:=fun e=>by subst e; simp at hj
   simp only[RV,cond_false]at h ⊢;simp_all
  ·simp[RV]
 | .ow j t,v,h=>by
  simp only[pz];cases hj:Nat.beq j i
  ·have:j≠i:=fun e=>by subst e; simp at hj
   simp only[RV,cond_false]at h ⊢;simp_all
  ·simp[RV]
 | .cH l,v,h=>by
  simp only[RV,pz]at h ⊢;obtain⟨cs,h1,h2⟩:=h;exact⟨cs,h1,wA hk hp ho l cs h2⟩
 | .bU f a c,v,h=>by
  simp only[RV,pz]at h ⊢;obtain⟨va,vc,h1,h2,h3⟩:=h;exact⟨va,vc,h1,wA hk hp ho a va h2,wA hk hp ho c vc h3⟩
theorem wA {S S':Nat→Prop}{w:World}{φ φ':List bB}{i:Nat}{ds:List (Value × D)}(hk:dE S w S' w)(hp:∀j,j≠i→φ'[j]? = φ[j]?)(ho:∀v,RV S w φ (.mp i) v→Rd S' w (.map ds) v) :
  ∀ (l:List AV) (vs:List Value),aW S w φ l vs→aW S' w φ' (J9 i ds l) vs
 |[],[],_=>by simp[aW,J9]
 |[],_::_,h=>by simp[aW]at h
 |_::_,[],h=>by simp[aW]at h
 |a::l,v::vs,h=>by
  simp only[aW,J9]at h ⊢;exact⟨QE hk hp ho a v h.1,wA hk hp ho l vs h.2⟩
end
section
variable {g:G} {pf:Nat→cC} {ad:Array Oper} {Fin:Exit→Act→World→Prop}

theorem x9 (hu:Iu g){k:List It}{E:bk}{objs:List Ob}(i:Nat)(ds:List (Value × D))(hn:g.φ0.length≤i)(ho:dk objs i=some (.map (ds.map fun p=>(p.1,AV.d p.2))))(ht:gz k=true)
  (hr:R g pf Fin k (qn (pz i ds) E) (da (objs.map (aQ (pz i ds))) i .dead)) (jB:g.rr=[]:=by rfl):R g pf Fin k E objs:=by
 refine mC ht (fun a w hs=>?_) hr;obtain⟨φ,h1,h2,h3,h4,h5,h6⟩:=hs;rw[bu]at ho;have l7:=(bC.1 ho).1;have aaq:i<φ.length:=by rw[h1.len];exact l7
 have JO:∀b,eD φ b→g.S0 b:=fun b hb=>(h2 b hb).elim (hu.up b) (hu.x b)
 have gQ:∀b,eD (φ.set i .no) b→eD φ b:=fun b hb=>by
  rcases lC hb with ⟨j,q,_,g1,g2⟩ |g1
  ·exact⟨j,q,g1,g2⟩
  ·simp[bB.bl]at g1
 have hp:∀j,j≠i→(φ.set i .no)[j]? = φ[j]? := fun j hj=>q6 (fun e=>hj e.symm)
 have bx:dE (SS g.S0 φ) w (SS g.S0 (φ.set i .no)) w:=fun b hb _=>⟨⟨hb.1,fun hc=>hb.2 (gQ b hc)⟩,rfl⟩
 have eQ:φ[i]? = some φ[i]:=dY aaq
 have vR:∀v,RV (SS g.S0 φ) w φ (.mp i) v→Rd (SS g.S0 (φ.set i .no)) w (.map ds) v:=fun v hv=>by
  simp only[RV]at hv;obtain⟨b,eQ,rfl⟩:=hv;have hk:=h1.ok i _ _ eQ ho;simp only[bd]at hk;obtain⟨ents,iY,bc,alP,alQ⟩:=hk;have hb:eD φ b:=⟨i,_,eQ,rfl⟩
  have Ir:¬ eD (φ.set i .no) b:=fun hc=>by
   rcases lC hc with ⟨j,q,hj,g1,g2⟩ |g1
   ·exact hj (h1.jA _ _ _ _ _ g1 eQ g2 rfl)
   ·simp[bB.bl]at g1
  have key:∀ (j:Nat) (x:Value × D),ds[j]? = some x→∃e,ents[j]? = some e∧Rd (SS g.S0 φ) w x.2 e.val:=fun j x hj=>by
   obtain⟨u,g1,g2⟩:=alQ.get j (x:=.d x.2) (by simp[hj]);rw[eU,Array.getElem?_toList]at g1;cases he:ents[j]? with
   |none=>simp_all
   |some e=>rw[he]at g1;simp at g1;subst g1;exact⟨e,rfl,by simpa only[RV]using g2⟩
  refine Rd.map (fun j=>((ents[j]?).map (·.val)).getD undef) ⟨JO b hb,Ir⟩ bc (by simpa[jw,Function.comp_def]using alP) (fun j x hj=>?_) (fun j x hj=>?_)
  ·grind
  ·obtain ⟨e,g1,g2⟩:=key j x hj;simp only[g1,rD,Option.getD_some];exact g2.mono bx
 have hf:=QE (ds:=ds) bx hp vR
 refine⟨φ.set i .no,h1.JM (pz i ds) V1 (fun j p b hj hb=>?_) (fun j oT hj=>?_) hf,fun b hb=>h2 b (gQ b hb),fun u=>?_,h4,Iq.Jk jB h5 gQ,h6.Jk (fun j l I B h=>⟨B,by
  grind⟩) (fun j p hi=>by
  obtain⟨p',h7,h8⟩:=h6.le j p hi
  grind)⟩
 ·by_cases nc:j=i
  ·subst nc;rw[qc aaq]at hj;cases hj;exact hb.elim
  simp_all
 ·rw [bq] at hj
  grind
 ·rcases s5 (f:=pz i ds) E u with h | h
  ·rw[h];exact hf _ _ (h3 u)
  ·rw[h];simp[RV]

theorem E3 (hg:c9 g){dst:Option Nat}{T:Nat}{x y:Operand}{ok:Bool}{ty:Nat}{pos:String}{after:Array Edge}{gd:Option (Nat × Bool)}{ax:List Oper}{k:List It}{E:bk}{objs:List Ob}
  {q cj kt et:Nat} {ds:List (Value × D)} {z:List Value} {kv zv:Value} {kd:TypeDesc} {r:Option (Nat × AV)}
  (bm:aG ad.toList E gd=some true) (hd:aO ⟨g.ty,g.N⟩ dst=true) (hx:ev E x=.d (.map ds)) (hy:ev E y=.d (.v kv)) (hT:g.ty T=some ⟨q,cj,z,.map kt et⟩)
  (oC:g.P.underlying kt=some kd) (AO:IsKey kd kv) (hf:lS kd kv (ds.map fun p=>(p.1,AV.d p.2)) 0=some r) (hz:(g.P.info? et).bind (·.zero)=some zv)
  (hr:R g pf Fin (.dr ad ax::k) (bf E dst (pq ok (lO zv) r)) objs):R g pf Fin (.dr ad (⟨dst,.lookup T x y ok,ty,pos,after,gd⟩::ax)::k) E objs:=by
 refine cL (aI.quiet hg bm hd aC fun φ bP a w hρ hs=>?_) hr;simp only[Op.operands]at hρ;have aN:=hρ x aC;rw[hx]at aN;have ew:=hρ y aC;rw[hy]at ew;simp only[RV]at aN ew;generalize oA:a.eval y=vy at ew;cases ew;generalize QF:a.eval x=vx at aN
 obtain⟨b,ents,iY,rfl,bc,dC⟩:∃ (b:Nat) (ents:Array MapEntry) (iY:Nat),vx=.map (some b)∧w.heap[b]? = some (.map ents iY)∧mT (SS g.S0 φ) w φ (ds.map fun p=>(p.1,AV.d p.2)) ents.toList:=by
  cases aN with
  |map g' hS hb hk xD Dv =>
   refine⟨_,_,_,rfl,hb,by simpa[jw,Function.comp_def]using hk,?_⟩;have aZ:=congrArg List.length hk;simp only[eS,Array.length_toList]at aZ;refine aW.rG k8 fun j u v hu hv=>?_
   rw[eU,eU]at hu;cases hj:ds[j]? with
   |none=>simp_all
   |some x =>
    rw[hj]at hu;simp at hu;subst hu;rw[eU,Array.getElem?_toList,xD j x hj]at hv;cases hv;simpa only[RV]using Dv j x hj
 have kX:g.P.underlying T=some (.map kt et):=by have:=(hg.ty _ _ hT).sh;simpa only[bA]using this
 have hzero:(zeroValue et).run g.P w=.ok zv w:=by
  exact Wq
 have hzR:RV (SS g.S0 φ) w φ (lO zv) zv:=ia (l:=[]) (E:=[]) (E₁:=[]) (a:={ tmps:=#[],defers:=[] }) aC (fun t=>by simp[lk,RV]) (.const zv);have cU:=kx dC hf;cases r with
 |none =>
  simp only at cU;refine aY hs (vv:=if ok then .tuple #[zv,.bool false] else zv) ?_ ?_
  ·simp[execOp,Instr.lookup,run_underlying kX,QF,run_getObj_map bc,oA,run_checkKey oC AO,run_findKey oC cU,hzero]
  ·simp only [pq];cases ok
   ·simpa using hzR
   ·simp only [if_true,RV];exact Wp
 |some p =>
  obtain⟨j,v⟩:=p;obtain⟨vv,h1,h2,_⟩:=cU;refine aY hs (vv:=if ok then .tuple #[vv,.bool true] else vv) ?_ ?_
  ·simp[execOp,Instr.lookup,run_underlying kX,QF,run_getObj_map bc,oA,run_checkKey oC AO,run_findKey oC h1]
  ·simp only [pq];cases ok
   ·simpa using h2
   ·simp only [if_true,RV];exact Wr
end
end aw
namespace aw
open Go Go.RowKit Go.MapKept

def dOf:AV→D
 | .d x=>x
 |_=>.v undef

def GP (l:List (Int × AV)):List (Value × D):=(cn l).map fun p=>(p.1,dOf p.2)

theorem QG {l:List (Int × AV)}(h:∀p∈l,∃n,p.2=iV n):((GP l).map fun p=>(p.1,AV.d p.2))=cn l:=by
 simp only[GP,cn,jw];refine Gg fun p hp=>?_
 obtain⟨n,hn⟩:=h p hp;simp[hn,dOf,iV]
theorem abI (l:List (Int × AV)):(GP l).length=l.length:=by simp[GP,cn]
section
variable {g:G} {pf:Nat→cC} {ad:Array Oper} {Fin:Exit→Act→World→Prop}

theorem AB (hg:c9 g){dst:Option Nat}{T:Nat}{x y:Operand}{ok:Bool}{ty:Nat}{pos:String}{after:Array Edge}{gd:Option (Nat × Bool)}{ax:List Oper}{k:List It}{E:bk}{objs:List Ob}
  {q cj q' oU kt et:Nat} {z z':List Value} {n:Int} {zv:Value} (l:List (Int × AV)) (hl:∀p∈l,∃n,p.2=iV n)
  (bm:aG ad.toList E gd=some true) (hd:aO ⟨g.ty,g.N⟩ dst=true) (hx:ev E x=.d (.map (GP l))) (hy:ev E y=.d (.v (.int .i64 n))) (hT:g.ty T=some ⟨q,cj,z,.map kt et⟩)
  (oC:g.ty kt=some ⟨q',oU,z',.int .i64⟩) (hz:(g.P.info? et).bind (·.zero)=some zv) {v:AV} (hv:jn ok (lO zv) (ib l n)=v)
  (hr:R g pf Fin (.dr ad ax::k) (bf E dst v) objs):R g pf Fin (.dr ad (⟨dst,.lookup T x y ok,ty,pos,after,gd⟩::ax)::k) E objs:=by
 subst hv;have hu:=(hg.ty _ _ oC).sh;simp only[bA]at hu;obtain⟨r,h1,h2⟩:=nj (k':=.i64) (n:=n) (l:=l) (i:=0);refine E3 hg bm hd hx hy hT hu MB (by rw[QG hl];exact h1) hz ?_;have:pq ok (lO zv) r=jn ok (lO zv) (ib l n):=by rw[← h2];cases r<;>rfl
 simp_all

theorem aht (hg:c9 g){dst:Option Nat}{T:Nat}{x:Operand}{ty:Nat}{pos:String}{after:Array Edge}{gd:Option (Nat × Bool)}{ax:List Oper}{k:List It}{E:bk}{objs:List Ob}
  {q cj kt et:Nat} {z:List Value} {ds:List (Value × D)} {n:Int}
  (bm:aG ad.toList E gd=some true) (hd:aO ⟨g.ty,g.N⟩ dst=true) (hx:ev E x=.d (.map ds)) (hT:g.ty T=some ⟨q,cj,z,.map kt et⟩) (hn:(ds.length:Int)=n)
  (hr:R g pf Fin (.dr ad ax::k) (bf E dst (iV n)) objs):R g pf Fin (.dr ad (⟨dst,.call { callee:=.builtin .len,args:=#[x],argTypes:=#[T] },ty,pos,after,gd⟩::ax)::k) E objs:=by
 subst hn;refine cL (aI.quiet hg bm hd aC fun φ bP a w hρ hs=>?_) hr;simp only[Op.operands,Call.operands]at hρ;have aN:=hρ x aC;rw[hx]at aN;simp only[RV]at aN;have hu:=(hg.ty _ _ hT).sh;simp only[bA]at hu;generalize QF:a.eval x=vx at aN;cases aN with
 |@map _ b iY ents g' hS hb hk xD Dv =>
  have aZ:=congrArg List.length hk;simp only[eS,Array.length_toList]at aZ;refine aY hs (vv:=.int .i64 ds.length) ?_ IW;simp[execOp,resolve,invoke,builtin,QF,Builtin.len_,underlying,hu,run_getObj_map hb,goInt,aZ]
end
end aw
namespace aw
open Go Go.RowKit
def elV (x:Nat × Nat × Nat)(j:Nat):Value:=.pointer (some ⟨x.1,x.2.1+j,none⟩)
section
variable {g:G} {pf:Nat→cC} {ad:Array Oper} {Fin:Exit→Act→World→Prop}

theorem alR {S0:Nat→Prop}{φ:List bB}{objs:List Ob}{w:World}(hs:HS S0 φ objs w){id:Nat}{kq:List (Nat × Nat × Nat)}{aa:List (List D)}(ho:dk objs id=some (.Ij kq aa)) :
  φ[id]? = some (.Ij (kq.map (·.1)))∧(kq.map (·.1)).Nodup∧aa.length=kq.length∧∀ (i:Nat) (x:Nat × Nat × Nat) (r:List D),kq[i]? = some x→aa[i]? = some r →
   ∃ (cs:List Value) (T:Nat),w.heap[x.1]? = some (.cells cs.toArray T (0,0))∧r.length≤x.2.2∧x.2.2≤maxLen∧x.2.1+r.length≤cs.length∧∀ (j:Nat) (d:D),r[j]? = some d→∃y,cs[x.2.1+j]? = some y∧Rd (SS S0 φ) w d y:=by
 rw[bu]at ho;have l7:=(bC.1 ho).1;have alS:φ[id]? = some (φ[id]'(by rw[hs.len];exact l7)):=dY _;generalize φ[id]'(by rw[hs.len];exact l7)=pi at alS;have kf:=hs.ok id pi _ alS ho;cases pi<;>try (simp only[bd]at kf;done)
 simp only[bd]at kf
 grind

theorem alT (hg:c9 g){dst:Option Nat}{T:Nat}{p x:Operand}{ty:Nat}{pos:String}{after:Array Edge}{gd:Option (Nat × Bool)}{ax:List Oper}{k:List It}{E:bk}{objs:List Ob}
  (id r:Nat) {j:Nat} {y:Nat × Nat × Nat} {τ:Ty} {kq:List (Nat × Nat × Nat)} {aa:List (List D)} {row:List D} (d:D)
  (bm:aG ad.toList E gd=some true) (hd:aO ⟨g.ty,g.N⟩ dst=true) (hx:ev E p=.d (.v (elV y j))) (ho:dk objs id=some (.Ij kq aa)) (hT:g.ty T=some τ) (hsz:τ.size=1) (hy:kq[r]? = some y) (gL:aa[r]? = some row) (Bb:j<row.length) {l:List AV} (hc:fU (ev E x)=some l) (Vh:xP l=some [d])
  (hr:R g pf Fin (.dr ad ax::k) (bf E dst .any) (da objs id (.Ij kq (aa.set r (row.set j d))))) (dV:iZ pf p=.ji:=by rfl):R g pf Fin (.dr ad (⟨dst,.store T p x,ty,pos,after,gd⟩::ax)::k) E objs:=by
 refine cL ?_ hr;simp only[bI,dV];refine aI.effect hg bm hd aC fun φ a w hρ hs=>?_
 simp only[Op.operands]at hρ;have aN:=hρ p aC;rw[hx]at aN;have ew:=hρ x aC;simp only[RV]at aN;generalize kU:a.eval p=vx at aN;cases aN;obtain⟨eQ,p8,kQ,hk⟩:=alR hs ho;obtain⟨cs,T',bc,h1,h2,h3,h4⟩:=hk r y row hy gL;have hτ:=hg.ty _ _ hT;obtain⟨vo,Gp⟩:=gU ew hc;have vo:=pd vo Vh;obtain⟨c,ase,alU⟩:=vo.get 0 rfl;have aoQ:=vo.length;simp only[eS,dv,lM]at aoQ;obtain⟨w',fm,cS⟩:=my (P:=g.P) hτ (y.2.1+j) bc rfl Gp an an;refine⟨.skip,undef,w',φ.set id (.Ij (kq.map (·.1))),?_,.inr ⟨rfl,rfl⟩,by simp[RV],?_⟩
 ·simp only[execOp,Instr.storeAt,Instr.sureAddr,kU,elV,Sem.run_bind,Sem.run_pure,Result.andThen_ok,fm]
 rw[bq];have aoR:=(bC.1 gL).1;refine jJ.swap hs eQ (.inl rfl) (by rw[cS.size];omega) (fun c _ hc=>cS.other c fun e=>hc (by rw[e];simp only[bB.bl,fA];grind)) (fun b' hb=>.inl hb) cS.os cS.tape cS.out fun bx _=>?_
 simp only[bd];refine⟨trivial,p8,by simp_all,fun i x' r' hi Dv=>?_⟩;by_cases hir:r=i
 ·subst hir;rw[qc aoR]at Dv;cases Dv;rw[hy]at hi;cases hi;refine⟨dx cs (y.2.1+j) (a.eval x).cells.toList,T',cS.at_,by simp_all,h2,by rw[List.length_set,lA];exact h3,fun j' d' Qi=>?_⟩;rw[uN _ _ _ an];by_cases hjj:j=j'
  ·subst hjj;rw[qc Bb]at Qi;cases Qi;refine⟨c,?_,?_⟩
   ·grind
   ·simp only[RV]at alU;exact alU.mono bx
  ·rw [q6 hjj] at Qi;obtain⟨v,h5,h6⟩:=h4 j' d' Qi;exact⟨v,by grind,h6.mono bx⟩
 ·rw [q6 hir] at Dv;obtain⟨Vf,T2,g1,g2,g3,g4,g5⟩:=hk i x' r' hi Dv
  have eo:x'.1≠y.1:=fun e=>hir (by
   have e1:(kq.map (·.1))[r]? = some y.1:=by simp_all
   have e2:(kq.map (·.1))[i]? = some x'.1:=by simp_all
   obtain⟨l1,e1⟩:=bC.1 e1;obtain⟨l2,e2⟩:=bC.1 e2;exact(aba p8).1 (by rw[e1,e2,e]))
  refine⟨Vf,T2,(cS.other _ eo).trans g1,g2,g3,g4,fun j' d' Qi=>?_⟩;obtain⟨v,h5,h6⟩:=g5 j' d' Qi;exact⟨v,h5,h6.mono bx⟩

theorem QH {K:bk→List Ob→Prop}{Q:Exit→Act→World→Prop}{more:List Nat}(hQ:∀E objs a w,K E objs→fe g E objs a w→wpOpsIn g.F g.dep g.P ad Q more a w) :
  ∀ (l:List Oper) (k:Nat) (E:bk) (objs:List Ob) (a:Act) (w:World),(∀ j,j<l.length→l[j]? = ad[k+j]?)→Dr g pf ad l E objs K→fe g E objs a w →
   wpOpsIn g.F g.dep g.P ad Q (List.range' k l.length++more) a w
 |[],k,E,objs,a,w,_,hd,hs=>by simpa using hQ E objs a w hd hs
 |o::l,k,E,objs,a,w,hl,hd,hs=>by
  obtain⟨v,objs',h1,h2⟩:=hd;have h0:ad[k]? = some o:=by simpa using (hl 0 aC).symm
  have ei:=h1.step E objs objs' a w (fun t _=>.refl _) (.inr (.inr ⟨rfl,rfl⟩)) hs Q;rw[dv,I7,jj,wpOpsIn_cons];refine wpOpIn_mono (K:=fun a' w'=>fe g (bf E o.dst v) objs' a' w') (fun a' w' fh=>?_) (by unfold wpOpIn;simp_all);exact QH hQ l (k+1) _ objs' a' w' (fun j hj=>by have:=hl (j+1) PW;grind) h2 fh
end
end aw
namespace aw
open Go Go.RowKit
section
variable {g:G} {pf:Nat→cC} {ad:Array Oper} {Fin:Exit→Act→World→Prop}

theorem QI {S:Nat→Prop}{w:World}{φ:List bB}{E:bk}{a:Act}(hv:kY S w φ E a)(x:Operand):RV S w φ (ev E x) (a.eval x):=by
 cases x with
 |tmp t=>exact hv t
 |const v=>simpa[pg]using ia (l:=[]) (E:=E) (fun t ht=>by cases ht) hv (.const v)
 |global n=>simp[ev,RV]
 |func f=>simp only[ev,Act.eval,RV];exact⟨[],[],rfl,by simp[aW],by simp[aW]⟩

def Nb:List It→Bool
 |[]=>true
 | .code _::k=>Nb k
 | .js _::k=>Nb k
 |_::_=>false

theorem Xv {l:List (Nat × List AV × List AV)}:∀ (k:List It),Nb k=true→∀e a w,KP (EK g l) Fin k e a w=KP g Fin k e a w
 |[],_,_,_,_=>rfl
 | .code c::k,h,e,a,w=>by
  have ih:KP (EK g l) Fin k=KP g Fin k:=by funext e a w;exact Xv k h e a w
  simp only[KP,ih];rfl
 | .js i::k,h,e,a,w=>by
  have ih:KP (EK g l) Fin k=KP g Fin k:=by funext e a w;exact Xv k h e a w
  simp only[KP,ih]
 | .mark _::_,h,_,_,_=>by simp[Nb]at h
 | .dr _ _::_,h,_,_,_=>by simp[Nb]at h

theorem oe (hg:c9 g)(hmk:g.WH=false)(hw:g.F=Fence.wide∧g.dep=0){id:Nat}{k:List It}{E:bk}{objs:List Ob}(n:Nat){x:Operand}{args:Array Operand}{ts:Array Nat}{ty:Nat}{pos:String}{after:Array Edge}
  (hn:ad.toList.drop n=[⟨none,.defer { callee:=.value x,args:=args,argTypes:=ts },ty,pos,after,none⟩])
  (h:R g pf Fin (.dr ad (ad.toList.take n) :: .mark (fun E1 a8=>∃f fs cs,ev E1 x=.bU f fs cs∧R (EK g ((f,fs++args.toList.map (ev E1),cs)::g.rr)) pf Fin k E1 a8)::k) E objs) (p8:mA k=true:=by rfl) (hnm:Nb k=true:=by rfl):R g pf Fin (.code (.region id ad false)::k) E objs:=by
 rintro⟨nQ,ho⟩;have h:=h ho;simp only at h;intro a w hs;simp only[KP];refine wpIn_region ?_
 have hle:n≤ad.toList.length:=by
  rcases Nat.le_total n ad.toList.length with h |h
  ·exact h
  ·rw[gD h]at hn;cases hn
 have hsz:ad.toList.length=n+1:=by
  have:=congrArg List.length hn;rw[MC]at this;simp only[vL]at this;omega
 have Bq:List.range ad.size=List.range' 0 (ad.toList.take n).length++[n]:=by
  have e:ad.size=n+1:=by rw[← hsz];simp
  rw[e,zz,Ge hle,Su,← List.range'_append];simp
 rw[Bq];refine QH (pf:=pf) (K:=fun E' objs'=>RK g Fin (.mark (fun E1 a8=>∃f fs cs,ev E1 x=.bU f fs cs∧R (EK g ((f,fs++args.toList.map (ev E1),cs)::g.rr)) pf Fin k E1 a8)::k) E' objs') (fun E1 a8 a1 w1 hk Vw=>?_) _ 0 E objs a w (fun j hj=>?_) h hs
 ·have hk:=hk a1 w1 Vw;simp only[KP]at hk;obtain⟨E2,dW,⟨f,fs,cs,hx,hM⟩,mn⟩:=hk;rw[wpOpsIn_cons]
  have h0:ad[n]? = some ⟨none,.defer { callee:=.value x,args:=args,argTypes:=ts },ty,pos,after,none⟩:=by
   have:(ad.toList.drop n)[0]? = some ⟨none,.defer { callee:=.value x,args:=args,argTypes:=ts },ty,pos,after,none⟩:=by rw[hn];rfl
   simpa using this
  unfold wpOpIn;rw[h0];simp only[Region.wanted,if_true];refine⟨fun f _=>hg.fn f,?_⟩;obtain⟨φ,h1,h2,h3,h4,⟨ds1,rl,e5,h5,h7⟩,h6⟩:=mn;have aN:=QI (E:=E2) h3 x;rw[hx]at aN;simp only[RV]at aN;obtain⟨va,vc,aN,WX,qg⟩:=aN;have mr:aW (SS g.S0 φ) w1 φ (args.toList.map (ev E2)) (args.toList.map a1.eval):=aW.map _ _ _ fun y _=>QI h3 y
  have hr:(execOp a1.eval ⟨none,.defer { callee:=.value x,args:=args,argTypes:=ts },ty,pos,after,none⟩).run g.P w1=.ok (.defer { target:=.fn (.func f) vc.toArray,args:=(va++args.toList.map a1.eval).toArray }) w1:=by
   have:va.toArray++Array.map a1.eval args=(va++args.toList.map a1.eval).toArray:=by apply Array.toList_inj.1;simp
   simp[execOp,resolve,aN,Deferred.ofValue,this]
  rw[show g.F.round=none by rw[hw.1];rfl,Oper.semAt_none,hr,Oper.uponIn_defer];have kq:ds1=[]:=h5.1 hmk;subst kq;have:=RK.ej (pf:=pf) (k:=k) ho hM (ir p8) { a1 with defers:={ target:=.fn (.func f) vc.toArray,args:=(va++args.toList.map a1.eval).toArray }::a1.defers } w1 ⟨φ,h1,h2,h3,h4,⟨[],{ target:=.fn (.func f) vc.toArray,args:=(va++args.toList.map a1.eval).toArray }::rl,by rw[e5];rfl,⟨fun _=>rfl,.nil,by simp⟩,⟨_,_,rfl,WX.append mr,qg⟩,h7⟩,⟨h6.size,h6.os,h6.tape,h6.out,h6.fr,h6.gen,h6.le⟩⟩;rw[Xv k hnm]at this;exact this
 simp_all
end
end aw
namespace aw
open Go Go.RowKit
variable{gd:Option (Nat × Bool)}{after:Array Edge}{dst:Option Nat}{ax:List Oper}{objs:List Ob}{pos:String}{ts:Array Nat}{k:List It}{ty f i off:Nat}{x:Operand}{args:Array Operand}{E:bk}{l:List AV}{w:World}
section
variable {g:G} {pf:Nat→cC} {ad:Array Oper} {Fin:Exit→Act→World→Prop}

theorem E4{P:Program}{a:Act} :
  (execOp a.eval ⟨dst,.call { callee:=.value (.func f),args:=args,argTypes:=ts },ty,pos,after,gd⟩).run P w=(callFunc f (args.map a.eval)).run P w:=by
 simp[execOp,resolve,Act.eval,Deferred.ofValue,invoke]

theorem Nc(hg:c9 g){r:AV}
  (bm:aG ad.toList E gd=some true) (hd:aO ⟨g.ty,g.N⟩ dst=true) (dV:pf f=.ji)
  (fm:∀ (φ:List bB) (a:Act) (w:World),HS g.S0 φ objs w→(∀y∈args.toList,RV (SS g.S0 φ) w φ (ev E y) (a.eval y))→∃v,(callFunc f (args.map a.eval)).run g.P w=.ok (.value v) w∧RV (SS g.S0 φ) w φ r v)
  (hr:R g pf Fin (.dr ad ax::k) (bf E dst r) objs):R g pf Fin (.dr ad (⟨dst,.call { callee:=.value (.func f),args:=args,argTypes:=ts },ty,pos,after,gd⟩::ax)::k) E objs:=by
 refine cL ?_ hr;simp only[bI,dV];refine .mY hg (cK bm) (dD hd) aC cF (fun b hb h9=>by simp_all) fun φ o₁ jl a w E₁ he hv ho hs=>?_
 have e:o₁=objs∧jl=objs:=by
  simp_all
 obtain⟨rfl,rfl⟩:=e;have hρ:=lf (o:=⟨dst,.call { callee:=.value (.func f),args:=args,argTypes:=ts },ty,pos,after,gd⟩) he hv;simp only[Op.operands,Call.operands]at hρ;obtain⟨v,h1,h2⟩:=fm φ a w hs fun y hy=>hρ y kb
 exact aY hs (vv:=v) (by rw[E4,h1]) h2

theorem ahu(hg:c9 g){r:AV}{Vj new:Value}
  (bm:aG ad.toList E gd=some true) (hd:aO ⟨g.ty,g.N⟩ dst=true) (dV:pf f=.ji) (hx:ev E x=.lo i off) (Aa:x∈args.toList) (ho:dk objs i=some (.box l)) (hl:dk l off=some (.d (.v Vj)))
  (fm:∀ (φ:List bB) (a:Act) (w:World) (b:Nat),a.eval x=.pointer (some ⟨b,off,none⟩)→w.cell? ⟨b,off,none⟩=some Vj→w.frozen? ⟨b,off,none⟩=false→HS g.S0 φ objs w→(∀y∈args.toList,RV (SS g.S0 φ) w φ (ev E y) (a.eval y))→∃v,(callFunc f (args.map a.eval)).run g.P w=.ok (.value v) (w.setCell ⟨b,off,none⟩ new)∧∀w',RV (SS g.S0 φ) w' φ r v)
  (hr:R g pf Fin (.dr ad ax::k) (bf E dst r) (da objs i (.box (da l off (.d (.v new)))))):R g pf Fin (.dr ad (⟨dst,.call { callee:=.value (.func f),args:=args,argTypes:=ts },ty,pos,after,gd⟩::ax)::k) E objs:=by
 refine cL ?_ hr;simp only[bI,dV];refine .mY hg (cK bm) (dD hd) aC (fun h=>absurd rfl (h _)) (fun b hb h9=>by simp_all) fun φ o₁ jl a w E₁ he hv nQ hs=>?_
 have e:o₁=objs∧jl=da objs i (.box (da l off (.d (.v new)))):=by
  simp_all
 obtain⟨rfl,rfl⟩:=e;have hρ:=lf (o:=⟨dst,.call { callee:=.value (.func f),args:=args,argTypes:=ts },ty,pos,after,gd⟩) he hv;simp only[Op.operands,Call.operands]at hρ;have anu:∀y∈args.toList,RV (SS g.S0 φ) w φ (ev E y) (a.eval y):=fun y hy=>hρ y kb
 have aN:=anu x Aa;rw[hx]at aN;simp only[RV]at aN;obtain⟨b,hb,aN⟩:=aN;have dw:=cG hs hb ho;simp only[bd]at dw;obtain⟨cs,T',bc,lz⟩:=dw;rw[bu]at hl;obtain⟨u,hu,huv⟩:=lz.get off hl;simp only[RV]at huv;cases huv;have EE:w.cell? ⟨b,off,none⟩=some Vj:=by simp[World.cell?,bc,hu]
 have hfz:w.frozen? ⟨b,off,none⟩=false:=by simp[World.frozen?,bc]
 obtain⟨v,h1,h2⟩:=fm φ a w b aN EE hfz hs anu;have Nd:∀c,c≠b→(w.setCell ⟨b,off,none⟩ new).heap[c]? = w.heap[c]? := fun c hc=>Below.heap_setCell _ _ _ _ hc
 have gQ:(bB.js b).bl b:=rfl;have hk:=sV (S0:=g.S0) hb gQ Nd;refine⟨.value v,v,w.setCell ⟨b,off,none⟩ new,φ,by rw[E4,h1],.inl rfl,h2 _,?_⟩;refine⟨?_,hk,.refl _,by simp,rfl,rfl,rfl,fun c hc hn=>Nd c fun e=>hn ⟨i,_,hb,by rw[e];rfl⟩,fun _ h=>.inl h,fun _ _ _ B h=>⟨B,h⟩⟩;rw[bq];refine hs.bO hb gQ aC Nd ?_;simp only[bd];refine⟨cs.set off new,T',vV bc _ _,?_⟩;have h3:=lz.mono hk (jZ.refl φ);rw[bq];refine aW.rG (by rw[List.length_set,List.length_set];exact h3.length) fun j y u hy hu=>?_
 rw[List.getElem?_set]at hy hu;by_cases hj:off=j
 ·subst hj;rw[if_pos rfl]at hy hu;have fu:=(bC.1 hl).1;have hlc:off<cs.length:=by simp_all
  rw[if_pos fu]at hy;rw[if_pos hlc]at hu;cases hy;cases hu;simp only[RV];exact .v _
 ·rw [if_neg hj] at hy hu;obtain⟨u',h4,h5⟩:=h3.get j hy
  simp_all

theorem pA{S:Nat→Prop}{φ:List bB}{c v:Value}(h:RV S w φ (.d (.v c)) v):v=c:=by
 simp only[RV]at h;cases h;rfl

theorem QJ{S0:Nat→Prop}{φ:List bB}(hs:HS S0 φ objs w){c v:Value}(ho:dk objs i=some (.box l))(hl:dk l off=some (.d (.v c)))(hv:RV (SS S0 φ) w φ (.lo i off) v) :
  ∃b,v=.pointer (some ⟨b,off,none⟩)∧w.cell? ⟨b,off,none⟩=some c:=by
 simp only[RV]at hv;obtain⟨b,hb,hv⟩:=hv;have dw:=cG hs hb ho;simp only[bd]at dw;obtain⟨cs,T',bc,lz⟩:=dw;rw[bu]at hl;obtain⟨u,hu,huv⟩:=lz.get off hl;have:=pA huv;subst this;exact⟨b,hv,by simp[World.cell?,bc,hu]⟩

theorem GQ(hg:c9 g)
  (hf:∀w,(callFunc f #[]).run g.P w=.ok (.value (.tuple #[])) w) (bm:aG ad.toList E gd=some true) (hd:aO ⟨g.ty,g.N⟩ dst=true) (dV:pf f=.ji)
  (hr:R g pf Fin (.dr ad ax::k) (bf E dst (.cH [])) objs):R g pf Fin (.dr ad (⟨dst,.call { callee:=.value (.func f),args:=#[],argTypes:=ts },ty,pos,after,gd⟩::ax)::k) E objs :=
 Nc hg bm hd dV (fun φ a w _ _=>⟨.tuple #[],by simp_all,by simp[RV,aW]⟩) hr

theorem Xw(hg:c9 g)
  (hf:∀a w,(callFunc f #[.pointer (some a)]).run g.P w=.ok (.value (.tuple #[])) w) (bm:aG ad.toList E gd=some true) (hd:aO ⟨g.ty,g.N⟩ dst=true) (dV:pf f=.ji) (hx:ev E x=.lo i off)
  (hr:R g pf Fin (.dr ad ax::k) (bf E dst (.cH [])) objs):R g pf Fin (.dr ad (⟨dst,.call { callee:=.value (.func f),args:=#[x],argTypes:=ts },ty,pos,after,gd⟩::ax)::k) E objs :=
 Nc hg bm hd dV (fun φ a w _ hρ=>by
  have h:=hρ x aC;rw[hx]at h;simp only[RV]at h;obtain⟨b,_,h⟩:=h;exact⟨.tuple #[],by simp_all,by simp[RV,aW]⟩) hr

theorem Xx(hg:c9 g){c:IntKind}{n:Int}
  (hf:∀a x w,w.cell? a=some (.int c x)→(callFunc f #[.pointer (some a)]).run g.P w=.ok (.value (.int c x)) w) (bm:aG ad.toList E gd=some true) (hd:aO ⟨g.ty,g.N⟩ dst=true) (dV:pf f=.ji) (hx:ev E x=.lo i off) (ho:dk objs i=some (.box l)) (hl:dk l off=some (.d (.v (.int c n))))
  (hr:R g pf Fin (.dr ad ax::k) (bf E dst (.d (.v (.int c n)))) objs):R g pf Fin (.dr ad (⟨dst,.call { callee:=.value (.func f),args:=#[x],argTypes:=ts },ty,pos,after,gd⟩::ax)::k) E objs :=
 Nc hg bm hd dV (fun φ a w hs hρ=>by
  have h:=hρ x aC;rw[hx]at h;obtain⟨b,h,hc⟩:=QJ hs ho hl h;exact⟨.int c n,by simp_all,by simp only[RV];exact .v _⟩) hr

theorem GR(hg:c9 g){ys:Array Operand}{Vj new v:Value}(vs:List Value)
  (hf:∀a w,w.cell? a=some Vj→w.frozen? a=false→(callFunc f (Value.pointer (some a)::vs).toArray).run g.P w=.ok (.value v) (w.setCell a new)) (bm:aG ad.toList E gd=some true) (hd:aO ⟨g.ty,g.N⟩ dst=true) (dV:pf f=.ji) (hx:ev E x=.lo i off) (hys:ys.toList.map (ev E)=vs.map fun c=>AV.d (.v c)) (ho:dk objs i=some (.box l)) (hl:dk l off=some (.d (.v Vj)))
  (hr:R g pf Fin (.dr ad ax::k) (bf E dst (.d (.v v))) (da objs i (.box (da l off (.d (.v new)))))):R g pf Fin (.dr ad (⟨dst,.call { callee:=.value (.func f),args:=(x::ys.toList).toArray,argTypes:=ts },ty,pos,after,gd⟩::ax)::k) E objs :=
 ahu hg (x:=x) bm hd dV hx aC ho hl (fun φ a w b hb hc hz _ hρ=>⟨v,by
  have key:∀ (zs:List Operand) (us:List Value),(∀y∈zs,RV (SS g.S0 φ) w φ (ev E y) (a.eval y))→zs.map (ev E)=us.map (fun c=>AV.d (.v c))→zs.map a.eval=us:=by
   intro zs;induction zs with
   |nil=>intro us _ h;cases us with
    |nil=>rfl
    |cons _ _=>simp at h
   |cons z zs ih =>
    intro us hz h;cases us with
    |nil=>simp at h
    |cons u us =>
     simp only[List.map_cons,List.cons.injEq]at h ⊢;have h1:=hz z aC;rw[h.1]at h1;exact⟨pA h1,ih us (fun y hy=>hz y kb) h.2⟩
  grind,fun w'=>by simp only[RV];exact .v _⟩) hr

theorem aaL(hg:c9 g){src ahv t:Nat}{c:Value}
  (hs:g.P.underlying src=some (.pointer t)) (hdt:g.P.underlying ahv=some .unsafePointer) (hsz:(g.P.info? t).map (fun i=>decide (i.size=0))=some false) (dV:pf 4000000010=.bO 90) (bm:aG ad.toList E gd=some true) (hd:aO ⟨g.ty,g.N⟩ dst=true) (hx:ev E x=.lo i off) (ho:dk objs i=some (.box l)) (hl:dk l off=some (.d (.v c)))
  (hr:R g pf Fin (.dr ad ax::k) (bf E dst (.lo i off)) objs):R g pf Fin (.dr ad (⟨dst,.convert src ahv x,ty,pos,after,gd⟩::ax)::k) E objs:=by
 refine cL ?_ hr;simp only[bI,Gu,dV];refine .mY hg (cK bm) (dD hd) aC cF (fun b hb h9=>by simp_all) fun φ o₁ jl a w E₁ he hv nQ fh=>?_
 have e:o₁=objs∧jl=objs:=by
  simp_all
 obtain⟨rfl,rfl⟩:=e;have hρ:=lf (o:=⟨dst,.convert src ahv x,ty,pos,after,gd⟩) he hv;simp only[Op.operands]at hρ;have aN:=hρ x aC;rw[hx]at aN;obtain⟨b,hb,hc⟩:=QJ fh ho hl aN;refine aY fh (vv:=a.eval x) ?_ aN;simp only[execOp,Sem.run_bind,hb,run_convert_to_unsafe hs hdt hsz hc,Result.andThen_ok,Sem.run_pure]

theorem kp(hg:c9 g){T n:Nat}{fs:Array Field}{fl:Field}
  (hT:g.P.underlying T=some (.struct fs)) (hf:fs[n]? = some fl) (hsz:((g.P.info? fl.type).map fun i=>decide (i.size=0))=some false) (bm:aG ad.toList E gd=some true) (hd:aO ⟨g.ty,g.N⟩ dst=true) (hx:ev E x=.lo i off)
  (hr:R g pf Fin (.dr ad ax::k) (bf E dst (.lo i (off+fl.offset))) objs):R g pf Fin (.dr ad (⟨dst,.fieldAddr T x n,ty,pos,after,gd⟩::ax)::k) E objs:=by
 refine cL (aI.up (aI.quiet hg bm hd aC fun φ o₁ a w hρ hs=>?_)) hr;simp only[Op.operands]at hρ;have aN:=hρ x aC;rw[hx]at aN;simp only[RV]at aN;obtain⟨b,hb,hv⟩:=aN
 have h3:∃i,g.P.info? fl.type=some i∧i.size≠0:=by
  simp_all
 refine aY hs (vv:=.pointer (some ⟨b,off+fl.offset,none⟩)) ?_ (by simp only[RV];simp_all);simp only[execOp,Sem.run_bind,hv,n5 hT hf h3,Result.andThen_ok,Sem.run_pure]
end
end aw
namespace aw
open Go Go.RowKit
section
variable {pf:Nat→cC} {ad:Array Oper}

def GU (p q:Nat) (pf:Nat→cC) (ad:Array Oper):List Oper→List Nat→List Oper→Bool
 |_,_,[]=>true
 |du,acc,o::r =>
  (o.after.toList.all fun e=>!Region.binds .any e || Nat.blt e.on (len du)) &&
  (du.zipIdx.all fun x=>!gE pf ad x.1 o || (fL acc o).testBit x.2 || (Nat.beq x.2 p&&Nat.beq (len du) q)) &&
  (Nat.ble (len du) p || Nat.beq (len du) q || (fL acc o).testBit p || (Nat.blt q (len du)&&(fL acc o).testBit q)) &&
  GU p q pf ad (du++[o]) (acc++[fL acc o]) r

theorem yU {p q:Nat}(hpq:p<q):∀ (ax du:List Oper) (acc:List Nat),ad.toList=du++ax→acc.length=du.length→(∀j i m,acc[j]? = some m→m.testBit i=true→Reach ad i j)→GU p q pf ad du acc ax=true →
  ∀ (j:Nat) (o:Oper),du.length≤j→ad[j]? = some o→(∀e∈o.after.toList,Region.binds .any e=true→e.on<j)∧(∀ (i:Nat) (x:Oper),i<j→ad[i]? = some x→gE pf ad x o=true→Reach ad i j∨(i=p∧j=q))∧(p<j→j<q→Reach ad p j)∧(q<j→Reach ad p j∨Reach ad q j)
 |[],du,acc,h,_,_,_,j,o,hj,ho=>by
  grind
 |o'::r,du,acc,h,hl,hr,hg,j,o,hj,ho=>by
  simp only[GU,aV]at hg;obtain⟨⟨⟨h1,h2⟩,h4⟩,h3⟩:=hg;have Gi:ad[du.length]? = some o':=by rw[← Array.getElem?_toList,h];simp
  have hm:∀i,(fL acc o').testBit i=true→Reach ad i du.length:=fun i hi=>by
   exact abe
  rcases aa4 hj with hj |hj
  ·subst hj;rw[Gi]at ho;cases ho;refine⟨fun e he MQ=>?_,fun i x hi hx hc=>?_,fun hq hq2=>?_,fun hq=>?_⟩
   ·have:=fk.1 h1 e he;rw[bj]at this
    simp_all
   ·have hmem:(x,i)∈du.zipIdx:=by
     rw[V7];rw[← Array.getElem?_toList,h,jx hi]at hx;exact hx
    have:=fk.1 h2 _ hmem;simp only[hc,xK,zA,mS,aV]at this;rcases this with this |⟨g1,g2⟩
    ·simp_all
    ·rw[bj]at g2;simp_all
   ·simp only [mS,aV,bj,I6,Nat.blt_eq] at h4;rcases h4 with ((h4 |h4) |h4) |h4
    ·omega
    ·simp_all
    ·exact hm _ h4
    ·omega
   ·simp only [mS,aV,bj,I6,Nat.blt_eq] at h4;rcases h4 with ((h4 |h4) |h4) |h4
    ·omega
    ·have:=cp h4;omega
    ·exact .inl (hm _ h4)
    simp_all
  ·refine yU hpq r (du++[o']) (acc++[fL acc o']) (by rw [h]; simp) (by simp [hl]) (fun j i m hj hi=>?_) h3 j o I1 ho
   grind
variable {g:G}

theorem Nf {p q:Nat}(hpq:p<q)(dw:∀ (j:Nat) (o:Oper),ad[j]? = some o→(∀e∈o.after.toList,Region.binds .any e=true→e.on<j)∧(∀ (i:Nat) (x:Oper),i<j→ad[i]? = some x→gE pf ad x o=true→Reach ad i j∨(i=p∧j=q))∧(p<j→j<q→Reach ad p j)∧(q<j→Reach ad p j∨Reach ad q j))
  {K:bk→List Ob→Prop} (hK:KC K) {Q:Exit→Act→World→Prop} (hQ:∀E objs a w,K E objs→fe g E objs a w→Q .normal a w) {oa ob:Oper} (Gx:ad[p]? = some oa) (vX:ad[q]? = some ob) (Mj post:List Nat) :
  ∀ (ab:Nat) (aL:Array Bool) (pre:List Nat) (E E2:bk) (objs dW:List Ob) (a:Act) (w:World),(∀ i∈pre,∀ o,ad[i]? = some o→mz o.op=true)→aL.size=ad.size→Cl ad aL→(∀ i,i∈pre++p::(Mj++q::post)↔i<ad.size∧aL.getD i true=false)→(pre++p::(Mj++q::post)).Pairwise (· < ·)→(pre++p::(Mj++q::post)).length≤ab →
   Dr g pf ad (pre.filterMap (ad[·]?)++oa::(Mj.filterMap (ad[·]?)++ob::post.filterMap (ad[·]?))) E objs K→fe g E objs a w→Dr g pf ad (pre.filterMap (ad[·]?)++ob::oa::(Mj.filterMap (ad[·]?)++post.filterMap (ad[·]?))) E2 dW K→fe g E2 dW a w→wpAnyIn g.F g.dep g.P .any ad Q ab aL a w:=by
 have WK:∀ (j:Nat) (o:Oper),ad[j]? = some o→(∀e∈o.after.toList,Region.binds .any e=true→e.on<j)∧∀ (i:Nat) (x:Oper),i<j→ad[i]? = some x→gE pf ad x o=true→Reach ad i j∨(i=p∧j=q):=fun j o ho=>⟨(dw j o ho).1,(dw j o ho).2.1⟩
 intro ab;induction ab with
 |zero=>intro aL pre E E2 objs dW a w _ tQ hc hR _ hf hd hs _ _;simp at hf
 |succ ab ih =>
  intro aL pre E E2 objs dW a w uK tQ hc hR hp hf hd hs Ey mn;obtain⟨pp1,pp2,pp3⟩:=kS.1 hp;have qO:∀k∈pre,k<p:=fun k hk=>pp3 k hk p aC
  have pp4:=(xz.1 pp2).2;have ae3:∀k∈Mj,p<k:=fun k hk=>(xz.1 pp2).1 k DG
  have ae4:∀k∈Mj,k<q:=fun k hk=>(kS.1 pp4).2.2 k hk q aC
  have n7:∀k∈post,q<k:=fun k hk=>(xz.1 (kS.1 pp4).2.1).1 k hk
  have unl:∀k,k∈pre++p::(Mj++q::post)→aL.getD k false=false:=fun k hk=>by
   exact agu
  refine⟨fun Ji=>?_,fun i hi=>?_⟩
  ·exfalso
   obtain⟨k,R',hkR⟩:∃k R',pre++p::(Mj++q::post)=k::R':=by
    cases pre with
    |nil=>exact⟨p,_,rfl⟩
    |cons k r=>exact⟨k,_,rfl⟩
   rw[hkR]at hR hp;exact mB4
  ·obtain ⟨mJ,Mf,o,ho,gi⟩:=mem_ready.1 hi
   have jK:∀k,k∈pre++p::(Mj++q::post)→Reach ad k i→False:=fun k hk hr=>by
    have hl:=kC hc hr (fun o' vp e he hb=>by rw[ho]at vp;cases vp;exact gi e he hb);rw[unl k hk]at hl;cases hl
   have Es:∀k x,k∈pre++p::(Mj++q::post)→k<i→ad[k]? = some x→¬ (k=p∧i=q)→gE pf ad x o=false:=fun k x hk kf lJ eo=>by
    cases MR:gE pf ad x o
    ·rfl
    ·exfalso;rcases (dw i o ho).2.1 k x kf lJ MR with h |h
     ·exact jK k hk h
     ·exact eo h
   have hmem:=(hR i).2 ⟨mJ,Mf⟩;rcases bW.1 hmem with hmem |hmem
   ·obtain ⟨xT,preB,rfl⟩:=ME hmem
    have e1:(xT++i::preB).filterMap (ad[·]?)=xT.filterMap (ad[·]?)++o::preB.filterMap (ad[·]?):=by
     rw[List.filterMap_append,tO,ho]
    rw[e1]at hd Ey;have ael:∀k∈xT,k<i:=fun k hk=>(kS.1 pp1).2.2 k hk i aC
    have MR:∀x∈xT.filterMap (ad[·]?),gE pf ad x o=false:=fun x hx=>by
     exact aks
    rw[List.append_assoc,jj]at hd Ey;obtain⟨v,objs',k9,fv⟩:=Dr.front hK MR hd;obtain⟨v2,uL,WL,VY⟩:=Dr.front hK MR Ey;have ei:=k9.step E objs objs' a w (fun t _=>.refl _) (.inr (.inr ⟨rfl,rfl⟩)) hs Q;have MU:=WL.step E2 dW uL a w (fun t _=>.refl _) (.inr (.inr ⟨rfl,rfl⟩)) mn Q;have WM:=A2 (F:=g.F) (n:=g.dep) (P:=g.P) (Q:=Q) ho (uK i aC o ho) (K:=fun a' w'=>fe g (bf E o.dst v) objs' a' w') (K':=fun a' w'=>fe g (bf E2 o.dst v2) uL a' w') aaP (by unfold wpOpIn;rw[ho];exact MU);refine wpOpIn_mono (fun a' w' fh=>?_) WM;have kq:=j1 (pre:=xT) (post:=preB++p::(Mj++q::post)) tQ hc VV Sk mJ ho gi;refine ih _ (xT++preB) _ _ objs' uL a' w' (fun j hj o' vp=>uK j agb o' vp) kq.1 kq.2.1 VT VX IX aj5 fh.1 aj4 fh.2
   ·rcases eL.1 hmem with hip | hmem
    ·subst hip;rw[Gx]at ho;cases ho;have hd1:=hd
     obtain⟨v,objs',k9,fv⟩:=Dr.front hK (fun x hx=>by
      obtain⟨k,hk,lJ⟩:=xJ.1 hx;exact Es k x DG (qO k hk) lJ (fun ⟨_,h2⟩=>by omega)) hd1
     have ei:=k9.step E objs objs' a w (fun t _=>.refl _) (.inr (.inr ⟨rfl,rfl⟩)) hs Q;refine wpOpIn_mono (K:=fun a' w'=>fe g (bf E oa.dst v) objs' a' w') (fun a' w' fh=>?_) (by unfold wpOpIn;rw[Gx];exact ei);have kq:=j1 (pre:=pre) (post:=Mj++q::post) tQ hc hR hp mJ Gx gi;refine mX WK hK hQ ab _ (pre++(Mj++q::post)) _ objs' a' w' kq.1 kq.2.1 kq.2.2.1 kq.2.2.2 IX (.inl fun h=>?_) (by rw[List.filterMap_append,List.filterMap_append,tO,vX];exact fv) fh;rcases bW.1 h with h |h
     ·have:=qO _ h;omega
     ·rcases bW.1 h with h | h
      ·have:=ae3 _ h;omega
      ·rcases eL.1 h with h | h
       ·omega
       ·have:=n7 _ h;omega
    ·rcases bW.1 hmem with hmem | hmem
     ·exact(jK p aC ((dw i o ho).2.2.1 (ae3 i hmem) (ae4 i hmem))).elim
     rcases eL.1 hmem with hiq |hmem
     ·subst hiq;rw[vX]at ho;cases ho;have hd1:=Ey
      obtain⟨v,objs',k9,fv⟩:=Dr.front hK (fun x hx=>by
       obtain⟨k,hk,lJ⟩:=xJ.1 hx;exact Es k x DG (by have:=qO k hk;omega) lJ (fun ⟨h1,_⟩=>by have:=qO k hk;omega)) hd1
      have ei:=k9.step E2 dW objs' a w (fun t _=>.refl _) (.inr (.inr ⟨rfl,rfl⟩)) mn Q;refine wpOpIn_mono (K:=fun a' w'=>fe g (bf E2 ob.dst v) objs' a' w') (fun a' w' fh=>?_) (by unfold wpOpIn;rw[vX];exact ei);have kq:=j1 (pre:=pre++p::Mj) (post:=post) tQ hc VV Sk mJ vX gi;refine mX WK hK hQ ab _ (pre++p::(Mj++post)) _ objs' a' w' kq.1 kq.2.1 VT VX IX (.inr fun h=>?_) (by rw[List.filterMap_append,tO,Gx,List.filterMap_append];exact fv) fh;rcases bW.1 h with h |h
      ·have:=qO _ h;omega
      ·rcases eL.1 h with h | h
       ·omega
       ·rcases bW.1 h with h | h
        ·have:=ae4 _ h;omega
        ·have:=n7 _ h;omega
     ·exfalso;rcases (dw i o ho).2.2.2 (n7 i hmem) with h |h
      ·exact jK p aC h
      ·exact jK q aC h

def QK {α:Type}(p q:Nat)(l:List α):List α:=l.take p++((l.drop q).take 1++((l.drop p).take (q - p)++l.drop (q+1)))
def ahw (p q:Nat)(pf:Nat→cC)(ad:Array Oper):Bool:=Nat.blt p q&&Nat.blt q (len ad.toList)&&GU p q pf ad [] [] ad.toList

theorem Ka {α:Type}(l:List α)(a n:Nat)(h:a+n≤l.length):(List.range' a n).filterMap (l[·]?)=(l.drop a).take n:=by
 induction n generalizing a with
 |zero=>simp
 |succ n ih =>
  rw[I7,tO,dY an];simp only;rw[ih (a+1) an,List.drop_eq_getElem_cons (by omega:a<l.length),ago]

theorem Xy (hg:c9 g){p q:Nat}(dw:ahw p q pf ad=true){K:bk→List Ob→Prop}(hK:KC K){Q:Exit→Act→World→Prop}(hQ:∀E objs a w,K E objs→fe g E objs a w→Q .normal a w)
  {E:bk} {objs:List Ob} (uK:((ad.toList.take p).all fun o=>mz o.op)=true) (hd:Dr g pf ad ad.toList E objs K) (Ey:Dr g pf ad (QK p q ad.toList) E objs K) {a:Act} {w:World} (hs:fe g E objs a w) (id:Nat):(Code.region id ad true).wpIn g.F g.dep g.P Q a w:=by
 refine wpIn_region_any hg.mixed ?_;simp only[ahw,aV,Nat.blt_eq,bj]at dw;obtain⟨⟨h1,h2⟩,h3⟩:=dw;have hsz:ad.toList.length=ad.size:=by simp
 have Gx:ad[p]? = some ad[p]:=mA7 an;have vX:ad[q]? = some ad[q]:=mA7 an
 have l8:List.range ad.size=List.range' 0 p++p::(List.range' (p+1) (q - (p+1))++q::List.range' (q+1) (ad.size - (q+1))):=by
  obtain⟨m,hm⟩:∃m,ad.size=p+(1+((q - (p+1))+(1+m))):=⟨ad.size - (q+1),by omega⟩;have e1:ad.size - (q+1)=m:=by omega
  rw[e1,Su,hm,← List.range'_append,← List.range'_append,← List.range'_append,← List.range'_append];have e2:0+1 * p=p:=by omega
  have e3:p+1 * 1=p+1:=by omega
  have e4:p+1+1 * (q - (p+1))=q:=by omega
  have e5:q+1 * 1=q+1:=by omega
  rw[e2,e3,e4,e5];simp[I7]
 have f:∀a n,a+n≤ad.size→(List.range' a n).filterMap (ad[·]?)=(ad.toList.drop a).take n:=fun a n h=>by
  have:=Ka ad.toList a n an;simpa using this
 have q7:=f 0 p an;have aoS:=f (p+1) (q - (p+1)) an;have n7:=f (q+1) (ad.size - (q+1)) an;rw[V6]at q7
 have ahx:(List.range' (q+1) (ad.size - (q+1))).filterMap (ad[·]?)=ad.toList.drop (q+1):=by
  rw[n7,Ih aC]
 have ga:ad.toList=ad.toList.take p++ad[p]::((ad.toList.drop (p+1)).take (q - (p+1))++ad[q]::ad.toList.drop (q+1)):=by
  have h7:ad.toList=ad.toList.take p++ad.toList.drop p:=(List.take_append_drop _ _).symm;have h8:ad.toList.drop p=ad[p]::ad.toList.drop (p+1):=by rw[List.drop_eq_getElem_cons an];simp
  have h9:ad.toList.drop (p+1)=(ad.toList.drop (p+1)).take (q - (p+1))++ad.toList.drop q:=by
   conv=>lhs;rw[← List.take_append_drop (q - (p+1)) (ad.toList.drop (p+1))]
   rw[List.drop_drop,show p+1+(q - (p+1))=q by omega]
  have mm:ad.toList.drop q=ad[q]::ad.toList.drop (q+1):=by rw[List.drop_eq_getElem_cons an];simp
  conv=>lhs;rw[h7,h8,h9,mm]
 have gb:QK p q ad.toList=ad.toList.take p++ad[q]::ad[p]::((ad.toList.drop (p+1)).take (q - (p+1))++ad.toList.drop (q+1)):=by
  unfold QK;have h8:ad.toList.drop p=ad[p]::ad.toList.drop (p+1):=by rw[List.drop_eq_getElem_cons an];simp
  have mm:ad.toList.drop q=ad[q]::ad.toList.drop (q+1):=by rw[List.drop_eq_getElem_cons an];simp
  rw[h8,mm,show q - p=(q - (p+1))+1 by omega];simp
 rw[gb]at Ey;rw[ga]at hd;refine Nf h1 (ad:=ad) (fun j o ho=>yU h1 (ad:=ad) ad.toList [] [] rfl rfl aC h3 j o fy ho) hK hQ Gx vX (List.range' (p+1) (q - (p+1))) (List.range' (q+1) (ad.size - (q+1))) ad.size (Array.replicate ad.size false) (List.range' 0 p) E E objs objs a _ ?_ aC ?_ ?_ ?_ ?_ ?_ hs.drew ?_ hs.drew
 ·intro j hj o ho;have hj:j<p:=by have:=List.mem_range'.1 hj;omega
  have:=fk.1 uK o (uE.2 ⟨j,by rw[qb hj,Array.getElem?_toList];exact ho⟩);exact this
 ·intro k o hk;simp[Array.getD]at hk
 ·intro i;rw[← l8];simp only[zC,Array.getD,V8];constructor
  ·intro h;simp[h]
  ·intro h;exact h.1
 ·rw[← l8];exact St
 ·rw[← l8];simp
 ·rw[q7,aoS,ahx];exact hd
 grind

theorem abJ {Fin:Exit→Act→World→Prop}(hg:c9 g)(p q:Nat){id:Nat}{k:List It}{E:bk}{objs:List Ob}(hx:ahw p q pf ad=true)(uK:((ad.toList.take p).all fun o=>mz o.op)=true)(h1:R g pf Fin (.dr ad ad.toList::k) E objs)(h2:R g pf Fin (.dr ad (QK p q ad.toList)::k) E objs):R g pf Fin (.code (.region id ad true)::k) E objs:=by
 rintro⟨nQ,ho⟩;have h1:=h1 ho;have h2:=h2 ho;simp only at h1 h2;intro a w hs;simp only[KP];have hQ:∀E objs a w,RK g Fin k E objs→fe g E objs a w→KP g Fin k .normal a w:=fun _ _ a w hr hs=>hr a w hs
 exact Xy hg hx (A7 k) hQ uK h1 h2 hs id
end
end aw
namespace aw
open Go Go.RowKit
section
variable {g:G} {pf:Nat→cC} {ad:Array Oper} {Fin:Exit→Act→World→Prop}

theorem Vt (hg:c9 g){o:Oper}{ax:List Oper}{k:List It}{E:bk}{objs objs':List Ob}{v:AV}(DM:held (jC pf) o.op=false)(bm:aG ad.toList E o.guard=some true)(hd:aO ⟨g.ty,g.N⟩ o.dst=true)
  (h:db g.ty (ev E) objs o.op=some (v,objs')) (hr:R g pf Fin (.dr ad ax::k) (bf E o.dst v) objs'):R g pf Fin (.dr ad (o::ax)::k) E objs :=
 cL (.JE hg DM (cK bm) (dD hd) h) hr

theorem GV {ty:Nat→Option Ty}{ρ:Operand→AV}{objs objs':List Ob}{T:Nat}{a x:Operand}{τ:Ty}{i off:Nat}{l new:List AV}(hT:ty T=some τ)(ha:ρ a=.lo i off)(ho:dk objs i=some (.box l))(hx:fU (ρ x)=some new)(hn:new.length=τ.size)(hf:off+τ.size≤l.length)
  (he:da objs i (.box (gy l off new))=objs'):db ty ρ objs (.store T a x)=some (.any,objs'):=by
 subst he;have h1:Nat.beq (len new) τ.size=true:=by rw[bj,hn];simp_all
 have h2:Nat.ble (off+τ.size) (len l)=true:=by rw[bj];simp_all
 simp[db,cJ,eX,iz,hT,ha,ho,hx,h1,h2]
end
end aw
namespace aw
open Go Go.RowKit
variable{gd:Option (Nat × Bool)}{after:Array Edge}{dst:Option Nat}{ax:List Oper}{objs:List Ob}{pos:String}{k:List It}{x:Operand}{s:ByteArray}{ty T:Nat}{E:bk}{z:List Value}
section
variable {g:G} {pf:Nat→cC} {ad:Array Oper} {Fin:Exit→Act→World→Prop}

theorem Br(hg:c9 g){T T':Nat}{x y:Operand}
  {a b:ByteArray} (c:ByteArray)
  (bm:aG ad.toList E gd=some true) (hd:aO ⟨g.ty,g.N⟩ dst=true) (hx:ev E x=.d (.v (.string a))) (hy:ev E y=.d (.v (.string b))) (hs:a.size+b.size≤1000000000) (hc:a++b=c)
  (hr:R g pf Fin (.dr ad ax::k) (bf E dst (.d (.v (.string c)))) objs):R g pf Fin (.dr ad (⟨dst,.binOp .add T x y T',ty,pos,after,gd⟩::ax)::k) E objs:=by
 subst hc;refine cL (aI.up (aI.quiet hg bm hd aC fun φ objs w' w hρ fh=>?_)) hr;rename_i ac;simp only[Op.operands]at hρ;have aN:=hρ x aC;rw[hx]at aN;have ew:=hρ y aC;rw[hy]at ew;simp only[RV]at aN ew;generalize kU:w'.eval x=vx at aN;generalize oA:w'.eval y=vy at ew;cases aN;cases ew;refine aY fh (vv:=.string (a++b)) ?_ xH;have h1:¬ (((a.size+b.size:Nat):Int) > IntKind.i64.max):=by simp[IntKind.max,IntKind.signed,IntKind.bits];omega
 have h2:(binOp .add T (.string a) (.string b)).run g.P w=.ok (.string (a++b)) w:=by
  simp only[binOp,Op.stringOp]
  simp_all
 simp only[execOp,Sem.run_bind,kU,oA,n6 (show Gs (.string a)=true from rfl),Result.andThen_ok,h2,Sem.run_pure]

theorem QL(hg:c9 g){S D:Nat}
  {q cj q' oU:Nat} {z z':List Value} {kk k2:IntKind} {n:Int} (c:ByteArray)
  (bm:aG ad.toList E gd=some true) (hd:aO ⟨g.ty,g.N⟩ dst=true) (hx:ev E x=.d (.v (.int k2 n))) (hS:g.ty S=some ⟨q,cj,z,.int kk⟩) (hD:g.ty D=some ⟨q',oU,z',.str⟩) (hc:Utf8.encode n=c)
  (hr:R g pf Fin (.dr ad ax::k) (bf E dst (.d (.v (.string c)))) objs):R g pf Fin (.dr ad (⟨dst,.convert S D x,ty,pos,after,gd⟩::ax)::k) E objs:=by
 subst hc;refine cL (aI.up (aI.quiet hg bm hd aC fun φ objs w' w hρ fh=>?_)) hr;simp only[Op.operands]at hρ;have aN:=hρ x aC;rw[hx]at aN;simp only[RV]at aN;generalize kU:w'.eval x=vx at aN;cases aN;have hu:=(hg.ty _ _ hS).sh;have hv:=(hg.ty _ _ hD).sh;simp only[bA]at hu hv;refine aY fh (vv:=.string (Utf8.encode n)) ?_ xH;simp[execOp,kU,convert,run_underlying hu,run_underlying hv,Conv.intToString]

theorem Bt(hg:c9 g)
  {q cj:Nat}  
  (bm:aG ad.toList E gd=some true) (hd:aO ⟨g.ty,g.N⟩ dst=true) (hx:ev E x=.d (.v (.string s))) (hT:g.ty T=some ⟨q,cj,z,.str⟩)
  (hr:R g pf Fin (.dr ad ax::k) (bf E dst (.lo (len objs) 0)) (objs++[.Ik s 0])):R g pf Fin (.dr ad (⟨dst,.range T x,ty,pos,after,gd⟩::ax)::k) E objs:=by
 refine cL (aI.effect hg bm hd aC fun φ a w hρ hs=>?_) hr;simp only[Op.operands]at hρ;have aN:=hρ x aC;rw[hx]at aN;simp only[RV]at aN;generalize kU:a.eval x=vx at aN;cases aN;have hu:=(hg.ty _ _ hT).sh;simp only[bA]at hu;refine⟨.value (.pointer (some ⟨w.heap.size,0,none⟩)),.pointer (some ⟨w.heap.size,0,none⟩),w.alloc (.stringIter s 0),φ++[.js w.heap.size],?_,.inl rfl,?_,?_⟩
 ·simp only [execOp,kU,Instr.range,Sem.run_bind,run_underlying hu,Result.andThen_ok,Sem.run_pure,run_newObj];rfl
 ·simp only [RV];exact⟨w.heap.size,by rw[bj,← hs.len];simp,rfl⟩
 ·refine jJ.new hs (fun b hb=>by simp only [bB.bl] at hb; exact hb.symm) ?_;simp only[bd];exact heap_alloc_new _ _

theorem GW(hg:c9 g)
  {i p:Nat}  {c wd:Nat}
  (bm:aG ad.toList E gd=some true) (hd:aO ⟨g.ty,g.N⟩ dst=true) (hx:ev E x=.lo i 0) (ho:dk objs i=some (.Ik s p)) (hp:p<s.size) (hc:Utf8.decode s p=(c,wd))
  (hr:R g pf Fin (.dr ad ax::k) (bf E dst (.cH [.tt,iV p,.d (.v (.int .i32 c))])) (da objs i (.Ik s (p+wd)))):R g pf Fin (.dr ad (⟨dst,.next x true,ty,pos,after,gd⟩::ax)::k) E objs:=by
 refine cL (aI.effect hg bm hd aC fun φ a w hρ hs=>?_) hr;simp only[Op.operands]at hρ;have aN:=hρ x aC;rw[hx]at aN;simp only[RV]at aN;obtain⟨b,eQ,kU⟩:=aN;have hk:=cG hs eQ ho;simp only[bd]at hk;have gQ:b<w.heap.size:=(tN.1 hk).1;refine⟨.value (.tuple #[.bool true,.int .i64 p,.int .i32 c]),.tuple #[.bool true,.int .i64 p,.int .i32 c],w.putObj b (.stringIter s (p+wd)),φ.set i (.js b),?_,.inl rfl,?_,?_⟩
 ·have kO:(getObj b).run g.P w=.ok (.stringIter s p) w:=by simp [getObj,Sem.run,hk]
  have kT:(setObj b (.stringIter s (p+wd))).run g.P w=.ok () (w.putObj b (.stringIter s (p+wd))):=by simp[setObj,Sem.run,hk,World.putObj]
  simp only[execOp,kU,Instr.next,Sem.run_bind,kO,Result.andThen_ok];rw[if_pos hp];simp only[hc,Sem.run_bind,kT,Result.andThen_ok,Sem.run_pure];rfl
 ·simp only [RV,aW];exact⟨[_,_,_],rfl,rfl,by simp only[iV,RV];exact .v _,.v _,trivial⟩
 ·rw [bq];refine jJ.swap hs eQ (.inl rfl) aC (fun c _ hc=>World.putObj_heap_other fun e=>hc (by rw[e];rfl)) (fun b' hb=>.inl hb) rfl rfl rfl fun _ _=>?_
  simp only[bd];exact World.putObj_heap_same gQ

theorem GX(hg:c9 g)
  {i p:Nat} 
  (bm:aG ad.toList E gd=some true) (hd:aO ⟨g.ty,g.N⟩ dst=true) (hx:ev E x=.lo i 0) (ho:dk objs i=some (.Ik s p)) (hp:s.size≤p)
  (hr:R g pf Fin (.dr ad ax::k) (bf E dst (.cH [.ff])) objs):R g pf Fin (.dr ad (⟨dst,.next x true,ty,pos,after,gd⟩::ax)::k) E objs:=by
 refine cL (aI.effect hg bm hd aC fun φ a w hρ hs=>?_) hr;simp only[Op.operands]at hρ;have aN:=hρ x aC;rw[hx]at aN;simp only[RV]at aN;obtain⟨b,eQ,kU⟩:=aN;have hk:=cG hs eQ ho;simp only[bd]at hk;refine aY hs (vv:=.tuple #[.bool false]) ?_ (by simp only[RV,aW];exact⟨[_],rfl,rfl,trivial⟩);have kO:(getObj b).run g.P w=.ok (.stringIter s p) w:=by simp[getObj,Sem.run,hk]
 simp only[execOp,kU,Instr.next,Sem.run_bind,kO,Result.andThen_ok];rw[if_neg an]
 simp_all

theorem Xz(hg:c9 g)
  {q cj:Nat}   {n:Int}
  (bm:aG ad.toList E gd=some true) (hd:aO ⟨g.ty,g.N⟩ dst=true) (hx:ev E x=.d (.v (.string s))) (hT:g.ty T=some ⟨q,cj,z,.str⟩) (hn:(s.size:Int)=n)
  (hr:R g pf Fin (.dr ad ax::k) (bf E dst (iV n)) objs):R g pf Fin (.dr ad (⟨dst,.call { callee:=.builtin .len,args:=#[x],argTypes:=#[T] },ty,pos,after,gd⟩::ax)::k) E objs:=by
 subst hn;refine cL (aI.up (aI.quiet hg bm hd aC fun φ objs a w hρ hs=>?_)) hr;simp only[Op.operands,Call.operands]at hρ;have aN:=hρ x aC;rw[hx]at aN;simp only[RV]at aN;generalize kU:a.eval x=vx at aN;cases aN;have hu:=(hg.ty _ _ hT).sh;simp only[bA]at hu;refine aY hs (vv:=.int .i64 s.size) ?_ IW;simp[execOp,resolve,invoke,builtin,Builtin.len_,kU,run_underlying hu,Result.andThen];rfl
end
end aw
namespace aw
open Go Go.RowKit
variable{gd:Option (Nat × Bool)}{after:Array Edge}{dst:Option Nat}{ax:List Oper}{objs:List Ob}{pos:String}{k:List It}{aa:List (List D)}{z:List Value}{ty T:Nat}{E:bk}{τ:Ty}{x:Operand}
section
variable {g:G} {pf:Nat→cC} {ad:Array Oper} {Fin:Exit→Act→World→Prop}

theorem sG(hg:c9 g){lo hi:Option Operand}
  {i s sz q cj e:Nat}    (rows':List (List D)) {h:Int}
  (bm:aG ad.toList E gd=some true) (hd:aO ⟨g.ty,g.N⟩ dst=true) (dV:Qe pf=.bO 1) (hx:ev E x=.ow i s) (ho:dk objs i=some (.arr sz s aa)) (hh:q8 E hi aa.length=some h) (Qp:q8 E lo 0=some 0) (hT:g.ty T=some ⟨q,cj,z,.slice e⟩) (he:g.ty e=some τ) (hsz:τ.size=sz)
  (h0:0≤h) (h2:h≤aa.length) (eA:aa.take h.toNat=rows')
  (hr:R g pf Fin (.dr ad ax::k) (bf E dst (.ow i (Nat.succ s))) (da objs i (.arr sz (Nat.succ s) rows'))):R g pf Fin (.dr ad (⟨dst,.slice T x lo hi none,ty,pos,after,gd⟩::ax)::k) E objs:=by
 subst eA;refine cL ?_ hr;simp only[bI,dV];refine aI.eT hg (Bc ho) bm hd aC fun φ a w hρ hs=>?_
 simp only[Op.operands]at hρ;have aN:=hρ x aC;rw[hx]at aN;simp only[RV]at aN;obtain⟨_,ph,eQ,aN⟩:=aN;have hk:=cG hs eQ ho;cases ph<;>try (simp only[bd]at hk;done)
 rename_i Ip s2 v2 Gk;simp only[bd]at hk;obtain⟨e1,e2,kQ,Mg⟩:=hk;subst e1;subst e2;have hv:=(aN _ _ _ _ rfl).2 rfl;clear aN;rw[bq];have fu:i<φ.length:=(bC.1 eQ).1;have hτ:=hg.ty _ _ he;have htl:(aa.take h.toNat).length=h.toNat:=by simp_all
 have MQ:∀cap:Nat,(h:Int)≤cap→(Instr.sliceBounds true aa.length cap (lo.map a.eval) (hi.map a.eval) none).run g.P w=.ok (0,h.toNat,cap) w:=fun cap hc=>by
  have:=ni (P:=g.P) (w:=w) (sl:=true) (a:=a) (len:=aa.length) (cap:=cap) (lo:=lo) (hi:=hi) (l:=0) Qp hh (fun y hy n he=>by
   have:=hρ y kb;rw[he]at this;simp only[RV]at this;generalize a.eval y=u at this;cases this;rfl) (fun y hy n he=>by
   have:=hρ y kb;rw[he]at this;simp only[RV]at this;generalize a.eval y=u at this;cases this;rfl) (gP 0) h0 hc
  simp_all
 have eK:∀r∈aa.take h.toNat,r.length=sz:=fun r hr=>kQ r (Wd hr)
 rcases Mg with ⟨a0,rfl,eA,rfl⟩ |⟨b,o,cap,cs,Tb,rfl,rfl,bc,hn,rF,hle,vR⟩
 ·subst eA;have Xs:h=0:=by grind
  subst Xs;have hb:=MQ 0 aC;refine⟨.value (.slice a0 0 0),.slice a0 0 0,w,φ.set i (.nZ sz (Nat.succ s) (.slice a0 0 0) none),?_,.inl rfl,?_,?_⟩
  ·simp only [lM] at hb;simp[execOp,Instr.sliceAt,Instr.slice,hv,underlying,bN hg hT,hb,run_sizeOf hτ]
  ·simp only [RV]
   simp_all
  ·refine jJ.swap hs eQ (.inr (.inl ⟨_,_,_,_,_,_,_,_,rfl,rfl,I8 _⟩)) cP (fun _ _ _=>rfl) (fun b hb=>by simp [bB.bl] at hb) rfl rfl rfl fun _ _=>?_
   simp only[bd]
   simp_all
 ·have hb:=MQ cap an
  have xO:(if cap=0 then (some (⟨b,o,none⟩:Addr)) else (some (⟨b,o,none⟩:Addr)).map (·.add (0 * τ.size)))=some ⟨b,o,none⟩:=by
   split
   ·rfl
   ·simp only[rD,fK,Wc,Ja]
  refine⟨.value (.slice (some ⟨b,o,none⟩) h.toNat cap),.slice (some ⟨b,o,none⟩) h.toNat cap,w,φ.set i (.nZ sz (Nat.succ s) (.slice (some ⟨b,o,none⟩) h.toNat cap) (some b)),?_,.inl rfl,?_,?_⟩
  ·simp only[execOp,Instr.sliceAt,Instr.slice,hv,underlying,Sem.run_bind,run_program,Result.andThen_ok,bN hg hT,Sem.run_pure,hb,run_sizeOf hτ,So,Option.map_none,xO]
  ·simp only [RV]
   simp_all
  ·refine jJ.swap hs eQ (.inr (.inl ⟨_,_,_,_,_,_,_,_,rfl,rfl,I8 _⟩)) cP (fun _ _ _=>rfl) (fun b' hb=>.inl hb) rfl rfl rfl fun bx _=>?_
   simp only[bd];refine⟨trivial,trivial,eK,.inr ⟨b,o,cap,cs,Tb,by rw[htl],rfl,bc,by rw[htl];omega,rF,hle,fun i' r j x' hi hj=>?_⟩⟩;have l7:=(bC.1 hi).1;rw[htl]at l7;rw[qb l7]at hi;obtain⟨y,h3,h4⟩:=vR i' r j x' hi hj;exact⟨y,h3,h4.mono bx⟩

theorem Kb(hg:c9 g){T n:Nat}{parts:Array (Nat × Operand)}
  {q cj e sz:Nat}   (aa:List (List D))
  (bm:aG ad.toList E gd=some true) (hd:aO ⟨g.ty,g.N⟩ dst=true) (dV:Qf pf=.bO 0) (hT:g.ty T=some ⟨q,cj,z,.slice e⟩) (he:g.ty e=some τ) (eA:kN (parts.toList.map fun p=>(p.1,ev E p.2)) 0 τ.size=some aa) (hn:aa.length=n) (hsz:τ.size=sz) (hb:n * sz≤100000) (zF:n≤100000)
  (hr:R g pf Fin (.dr ad ax::k) (bf E dst (.ow (len objs) 0)) (objs++[.arr sz 0 aa])):R g pf Fin (.dr ad (⟨dst,.buildSlice T n parts,ty,pos,after,gd⟩::ax)::k) E objs:=by
 subst hsz;refine cL ?_ hr;simp only[bI,dV];refine aI.eT hg (.add _ _) bm hd aC fun φ a w hρ hs=>?_
 have Gt:=(hg.ty _ _ hT).sh;simp only[bA]at Gt;have hτ:=hg.ty _ _ he
 have anu:∀p∈parts.toList,RV (SS g.S0 φ) w φ (ev E p.2) (a.eval p.2):=fun p hp=>hρ p.2 (by
  simp only[Op.operands,Array.toList_map,fA]
  grind)
 have hlp:aa.length=parts.size:=by
  have key:∀ (l:List (Nat × AV)) (k:Nat) (rs:List (List D)),kN l k τ.size=some rs→rs.length=l.length:=by
   intro l;induction l with
   |nil=>intro k rs h;simp[kN]at h;subst h;rfl
   |cons x l ih =>
    intro k rs h;exact akk
  grind
 obtain⟨zv,Ig,U8⟩:=iq hτ w;have Jh:=hτ.zl;have hzs:zv.cells.size=τ.size:=by grind
 generalize fv:(if n * τ.size=0 then ([]:List Value) else ((List.range (n * τ.size)).map fun i=>zv.cells[i % zv.cells.size]!))=ax
 have kQ:ax.length=n * τ.size:=by
  grind
 obtain ⟨cells,h1,h2,MO,h3⟩:=sW (S0:=g.S0) (φ:=φ) (w:=w) hτ (parts.toList.map fun p=>(p.1,ev E p.2)) (parts.toList.map fun p=>(p.1,a.eval p.2)) 0 aa [] ax
  k8 (by simp only[jw];exact aW.map _ _ _ fun p hp=>anu p hp) eA aC k8
 simp only[o8]at h1;have Ve:(parts.map fun (i,x)=>(i,a.eval x)).toList=parts.toList.map fun p=>(p.1,a.eval p.2):=by simp_all
 have fm:(Instr.buildSlice T n (parts.map fun (i,x)=>(i,a.eval x))).run g.P w=.ok (.slice (some ⟨w.heap.size,0,none⟩) n n) (w.alloc (.cells cells.toArray e)):=by
  have h0:¬ (n * τ.size > 2 ^ 24):=by omega
  simp only[Instr.buildSlice,underlying,Sem.run_bind,run_program,Result.andThen_ok,Gt,Sem.run_pure,run_sizeOf hτ];rw[Sem.run_ite];rw[if_neg h0];by_cases hz0:n * τ.size=0
  ·rw [Sem.run_ite,if_pos hz0];have SE:ax=[]:=jy.1 an;rw[SE]at h1;simp only[Sem.run_pure,Result.andThen_ok,hz0,Ve,newRow,Sem.run_bind];simp only[show (Array.map (fun x=>(#[]:Array Value)[x % (#[]:Array Value).size]!) (Array.range 0))=([]:List Value).toArray from by simp,h1,Sem.run_bind,run_newObj,Result.andThen_ok,Sem.run_pure];rfl
  ·rw [Sem.run_ite,if_neg hz0]
   have:(Array.range (n * τ.size)).map (fun x=>zv.cells[x % zv.cells.size]!)=ax.toArray:=by
    grind
   simp only[Sem.run_bind,Ig,Sem.run_pure,Result.andThen_ok,this,Ve,h1,newRow,run_newObj];rfl
 refine⟨.value (.slice (some ⟨w.heap.size,0,none⟩) n n),.slice (some ⟨w.heap.size,0,none⟩) n n,w.alloc (.cells cells.toArray e),φ++[.nZ τ.size 0 (.slice (some ⟨w.heap.size,0,none⟩) n n) (some w.heap.size)],?_,.inl rfl,?_,?_⟩
 ·simp only[execOp,Sem.run_bind,fm,Result.andThen_ok,Sem.run_pure]
 ·simp only [RV];refine⟨⟨_,_,_,rfl⟩,.nZ τ.size 0 (.slice (some ⟨w.heap.size,0,none⟩) n n) (some w.heap.size),by rw[bj,← hs.len];simp,fun Jj s' x' oT he=>?_⟩
  grind
 ·refine jJ.new hs (fun b hb=>by simp only [bB.bl] at hb; cases hb; rfl) ?_;simp only[bd];refine⟨trivial,trivial,fun r hr=>?_,.inr ⟨w.heap.size,0,n,cells,e,by rw[hn],rfl,heap_alloc_new _ _,by omega,by unfold maxLen;omega,by simp_all,fun i r j x hi hj=>?_⟩⟩
  ·obtain ⟨i,hi⟩:=uE.1 hr
   grind
  ·obtain ⟨u,hu1,SD⟩:=(h3 i r hi).2 j x hj;exact⟨u,by simp_all,SD.mono (rI (fun b hb=>by simp only[bB.bl]at hb;cases hb;rfl))⟩

theorem R5(hg:c9 g)(m:Nat){x i:Operand}
  {id s sz q cj e:Nat}    {n:Int}
  (bm:aG ad.toList E gd=some true) (hd:aO ⟨g.ty,g.N⟩ dst=true) (dV:Ew pf=.look (m+1)) (ahy:¬ o4 g.φ0.length m id (.arr sz s aa)) (hx:ev E x=.ow id s) (ho:dk objs id=some (.arr sz s aa)) (hi:ev E i=.d (.v (.int .i64 n))) (hT:g.ty T=some ⟨q,cj,z,.slice e⟩) (he:g.ty e=some τ) (hsz:τ.size=sz)
  (h0:0≤n) (fu:n.toNat<aa.length)
  (hr:R g pf Fin (.dr ad ax::k) (bf E dst (.el id s n.toNat 0)) objs):R g pf Fin (.dr ad (⟨dst,.indexAddr T x i,ty,pos,after,gd⟩::ax)::k) E objs:=by
 refine cL ?_ hr;simp only[bI,dV];refine aI.fM hg m bm hd aC fun φ a w bP hgr hρ hs=>?_
 simp only[Op.operands]at hρ;have aN:=hρ x aC;rw[hx]at aN;have v8:=hρ i aC;rw[hi]at v8;simp only[RV]at v8;generalize hvi:a.eval i=vi at v8;cases v8
 have ho:dk bP id=some (.arr sz s aa):=by
  have h:=aN;simp only[RV]at h;obtain⟨_,ph,eQ,_⟩:=h;rw[bu]at ho ⊢;exact Gr.Ex hgr ho AF ahy
 exact mB9

theorem VB(hg:c9 g)(m:Nat)
  {id s sz r j:Nat}   {row:List D} {v:AV}
  (bm:aG ad.toList E gd=some true) (hd:aO ⟨g.ty,g.N⟩ dst=true) (dV:kA pf x=.look (m+1)) (ahy:¬ o4 g.φ0.length m id (.arr sz s aa)) (hx:ev E x=.el id s r j) (ho:dk objs id=some (.arr sz s aa)) (hT:g.ty T=some τ) (gL:aa[r]? = some row) (hp:ky τ (row.map .d) j=some v)
  (hr:R g pf Fin (.dr ad ax::k) (bf E dst v) objs):R g pf Fin (.dr ad (⟨dst,.load T x,ty,pos,after,gd⟩::ax)::k) E objs:=by
 refine cL ?_ hr;simp only[bI,dV];refine aI.fM hg m bm hd aC fun φ a w bP hgr hρ hs=>?_
 simp only[Op.operands]at hρ;have aN:=hρ x aC;rw[hx]at aN;simp only[RV]at aN;obtain⟨_,ph,eQ,aN⟩:=aN
 have ho:dk bP id=some (.arr sz s aa):=by
  rw[bu]at ho ⊢;exact Gr.Ex hgr ho AF ahy
 have hk:=cG hs eQ ho;cases ph<;>try (simp only[bd]at hk;done)
 rename_i Ip s2 v2 Gk;simp only[bd]at hk;exact mB5

open Classical in
theorem Vo(hg:c9 g){d x:Operand}
  {i off:Nat} {l new:List AV} 
  (bm:aG ad.toList E gd=some true) (hd:aO ⟨g.ty,g.N⟩ dst=true) (dV:iZ pf d=.bO 10000) (hx:ev E d=.lo i off) (ho:dk objs i=some (.box l)) (hT:g.ty T=some τ) (hc:fU (ev E x)=some new)
  (hl:Nat.beq (len new) τ.size=true) (lN:Nat.ble (Nat.add off τ.size) (len l)=true)
  (hr:R g pf Fin (.dr ad ax::k) (bf E dst .any) (da objs i (.box (gy l off new)))):R g pf Fin (.dr ad (⟨dst,.store T d x,ty,pos,after,gd⟩::ax)::k) E objs:=by
 refine cL ?_ hr;simp only[bI,dV];refine .mY hg (cK bm) (dD hd) aC (fun h=>absurd rfl (h _)) (fun b hb _=>?_) fun φ o₁ jl a w E₁ tS hv vp hs=>?_
 ·cases hb;intro j y hj;rw[bu]at ho;rw[bq];by_cases e:j=i
  ·subst e;exact⟨_,qc (bC.1 ho).1,.inr ⟨.inr (.inr ⟨rfl,by rw[ho]at hj;cases hj;rfl⟩),.inr (.inr ⟨rfl,rfl⟩)⟩⟩
  grind
 ·rcases vp with ⟨h,_⟩ | ⟨_,h,_⟩ | ⟨rfl,rfl⟩
  ·cases h
  ·cases h
  have hρ:=lf tS hv;simp only[Op.operands]at hρ;refine j0 (ρA:=fun y=>if y=d then .lo i off else if y=x then ev E x else .any) hg.ty hs (fun y=>?_) ?_
  ·split
   ·rename_i h;rw[h,← hx];exact hρ d aC
   ·split
    ·rename_i h;rw[h];exact hρ x aC
    ·simp[RV]
  ·have hxx:(if x=d then AV.lo i off else if x=x then ev E x else .any)=ev E x:=by
    split
    ·rename_i h;rw[h,hx]
    ·rw[if_pos rfl]
   have ahs:(if x=d then AV.lo i off else ev E x)=ev E x:=by rw[if_pos rfl]at hxx;exact hxx
   simp only[db,cJ,eX,iz,hT,if_true,ho,ahs,hc,hl,lN,cond_true]

theorem s8(hg:c9 g){x i:Operand}
  {id s r j n sz cj e:Nat}   {m:Int} (j':Nat)
  (bm:aG ad.toList E gd=some true) (hd:aO ⟨g.ty,g.N⟩ dst=true) (hx:ev E x=.el id s r j) (hi:ev E i=.d (.v (.int .i64 m))) (hT:g.ty T=some ⟨sz,cj,z,.array n e⟩) (he:g.ty e=some τ)
  (h0:0≤m) (fu:m<n) (ho:j+m.toNat * τ.size=j')
  (hr:R g pf Fin (.dr ad ax::k) (bf E dst (.el id s r j')) objs):R g pf Fin (.dr ad (⟨dst,.indexAddr T x i,ty,pos,after,gd⟩::ax)::k) E objs:=by
 subst ho;refine cL (aI.up (aI.quiet hg bm hd aC fun φ o₁ a w hρ hs=>?_)) hr;simp only[Op.operands]at hρ;have aN:=hρ x aC;rw[hx]at aN;have v8:=hρ i aC;rw[hi]at v8;simp only[RV]at aN v8;obtain⟨⟨b,o,kU⟩,ph,eQ,aN⟩:=aN;generalize hvi:a.eval i=vi at v8;cases v8;have Gt:=(hg.ty _ _ hT).sh;simp only[bA]at Gt;refine aY hs (vv:=.pointer (some ⟨b,o+m.toNat * τ.size,none⟩)) ?_ ?_
 ·have fm:(Instr.indexAt T (a.eval x) (a.eval i)).run g.P w=.ok (.pointer (some ⟨b,o+m.toNat * τ.size,none⟩)) w:=by
   simp only[Instr.indexAt,kU,hvi,asIntOf,underlying,Sem.run_bind,Sem.run_pure,run_program,Result.andThen_ok,Gt,Instr.sureAddr];rw[Sem.run_ite,if_pos ⟨h0,fu⟩];simp only[Sem.run_bind,run_sizeOf (hg.ty _ _ he),Result.andThen_ok,Sem.run_pure,fK]
  simp only[execOp,Sem.run_bind,fm,Result.andThen_ok,Sem.run_pure]
 ·simp only [RV]
  grind
end
end aw
