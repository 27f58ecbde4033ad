import Derived.Test.YtmjmngigbachdaaGreatDoorPslB
import Derived.Test.YtmjmngigbachdaaGreatDoorProg
import Derived.RangeFuncNested
import Derived.MapKept
import Derived.Laws.Strings
import Derived.ProofKit
import Derived.SizedLaws
import Derived.ChangeSame
import Derived.JoinedOf
import Derived.Laws.LoneSync
import Derived.Laws.BytesString
set_option maxRecDepth 100000
set_option maxHeartbeats 4000000
namespace Go.Proofs.YtmjmngigbachdaaGreatDoor
open Go ax Go.Proofs
abbrev bk:Ty:=⟨1,8,[.nilFunc],.one⟩
abbrev aib:Ty:=⟨1,8,[.int .i64 0],.int .i64⟩
abbrev acC:Ty:=⟨1,1,[.int .u8 0],.int .u8⟩
abbrev amD:Ty:=⟨4,24,[.int .i64 0,.int .i64 0,.bool false,.int .u8 0],.struct [(0,2),(1,3),(2,4),(3,6)]⟩
abbrev aic:Ty:=⟨1,16,[.string ByteArray.empty],.str⟩
abbrev aid:Ty:=⟨1,8,[.int .u64 0],.int .u64⟩
abbrev amE:Ty:=⟨2,24,[.string ByteArray.empty,.int .u64 0],.struct [(0,9),(1,12)]⟩
abbrev mU:Ty:=⟨1,8,[.pointer none],.one⟩
abbrev amF:Ty:=⟨1,8,[.pointer none],.struct [(0,17)]⟩
abbrev aie:Ty:=⟨1,16,[.nilIface],.one⟩
abbrev Yj:Ty:=⟨1,4,[.int .i32 0],.int .i32⟩
abbrev afN:Ty:=⟨1,24,[.slice none 0 0],.struct [(0,22)]⟩
abbrev afO:Ty:=⟨4,56,[.int .i64 0,.string ByteArray.empty,.int .i64 0,.slice none 0 0],.struct [(0,3),(1,9),(2,3),(3,25)]⟩
abbrev afP:Ty:=⟨6,88,[.int .i64 0,.string ByteArray.empty,.int .i64 0,.slice none 0 0,.slice none 0 0,.int .i64 0],.struct [(0,27),(4,28),(5,3)]⟩
abbrev afQ:Ty:=⟨8,136,[.int .i64 0,.int .i64 0,.string ByteArray.empty,.int .i64 0,.slice none 0 0,.slice none 0 0,.slice none 0 0,.slice none 0 0],.struct [(0,3),(1,27),(5,28),(6,28),(7,28)]⟩
abbrev afR:Ty:=⟨4,56,[.int .i64 0,.string ByteArray.empty,.slice none 0 0,.int .i64 0],.struct [(0,3),(1,9),(2,25),(3,37)]⟩
abbrev KX:Ty:=⟨0,0,[],.struct []⟩
abbrev afS:Ty:=⟨12,168,[.slice none 0 0,.pointer none,.int .i64 0,.string ByteArray.empty,.int .i64 0,.slice none 0 0,.int .i64 0,.slice none 0 0,.pointer none,.int .i64 0,.int .i64 0,.slice none 0 0],.struct [(0,24),(1,58),(2,27),(6,3),(7,60),(8,61),(9,2),(10,66),(11,36)]⟩
abbrev afT:Ty:=⟨5,80,[.int .i64 0,.string ByteArray.empty,.int .i64 0,.slice none 0 0,.slice none 0 0],.struct [(0,27),(4,52)]⟩
abbrev RD:Ty:=⟨2,24,[.string ByteArray.empty,.int .i64 0],.struct [(0,9),(1,3)]⟩
abbrev afU:Ty:=⟨2,32,[.map none,.slice none 0 0],.struct [(0,91),(1,46)]⟩
abbrev afV:Ty:=⟨11,160,[.int .i64 0,.int .i64 0,.string ByteArray.empty,.int .i64 0,.slice none 0 0,.slice none 0 0,.slice none 0 0,.slice none 0 0,.int .i64 0,.int .i64 0,.pointer none],.struct [(0,35),(8,3),(9,3),(10,61)]⟩
abbrev afW:Ty:=⟨9,96,[.int .i64 0,.int .i64 0,.int .i64 0,.string ByteArray.empty,.int .i64 0,.slice none 0 0,.int .i64 0,.pointer none,.bool false],.struct [(0,3),(1,3),(2,27),(6,3),(7,61),(8,4)]⟩
abbrev afX:Ty:=⟨2,8,[.int .i32 0,.int .u32 0],.struct [(0,21),(1,114)]⟩
abbrev afY:Ty:=⟨4,24,[.int .u32 0,.int .i32 0,.int .u32 0,.map none],.struct [(0,122),(3,123)]⟩
abbrev afZ:Ty:=⟨11,120,[.string ByteArray.empty,.slice none 0 0,.int .i64 0,.slice none 0 0,.int .i64 0,.int .i64 0,.int .i64 0,.int .u32 0,.int .i32 0,.int .u32 0,.map none],.struct [(0,9),(1,109),(2,3),(3,52),(4,3),(5,3),(6,37),(7,125)]⟩
abbrev af0:Ty:=⟨5,48,[.int .i64 0,.string ByteArray.empty,.int .i64 0,.int .i64 0,.bool false],.struct [(0,3),(1,9),(2,3),(3,3),(4,4)]⟩
abbrev af1:Ty:=⟨2,16,[.int .i64 0,.int .i64 0],.struct [(0,3),(1,37)]⟩
abbrev af2:Ty:=⟨2,16,[.int .i64 0,.int .i64 0],.struct [(0,3),(1,3)]⟩
abbrev af3:Ty:=⟨3,24,[.int .i64 0,.int .i64 0,.int .i64 0],.struct [(0,3),(1,3),(2,3)]⟩
abbrev af4:Ty:=⟨5,64,[.bool false,.slice none 0 0,.bool false,.string ByteArray.empty,.int .i64 0],.struct [(0,4),(1,25),(2,4),(3,9),(4,3)]⟩
abbrev af5:Ty:=⟨5,64,[.int .i64 0,.int .i64 0,.string ByteArray.empty,.int .i64 0,.slice none 0 0],.struct [(0,3),(1,27)]⟩
abbrev af6:Ty:=⟨7,96,[.slice none 0 0,.bool false,.slice none 0 0,.bool false,.string ByteArray.empty,.int .i64 0,.int .i64 0],.struct [(0,25),(1,186),(6,37)]⟩
abbrev af7:Ty:=⟨2,32,[.pointer none,.slice none 0 0],.struct [(0,250),(1,221)]⟩
abbrev af8:Ty:=⟨2,32,[.pointer none,.slice none 0 0],.struct [(0,252)]⟩
abbrev af9:Ty:=⟨2,2,[.int .u8 0,.int .u8 0],.struct [(0,5),(1,5)]⟩
abbrev aga:Ty:=⟨4,40,[.pointer none,.pointer none,.pointer none,.string ByteArray.empty],.struct [(0,17),(1,17),(2,17),(3,9)]⟩
abbrev agb:Ty:=⟨11,48,[.int .u64 0,.int .u64 0,.int .u32 0,.int .u8 0,.int .u8 0,.int .u8 0,.int .u8 0,.nilFunc,.pointer none,.int .i32 0,.int .i32 0],.struct [(0,12),(1,12),(2,114),(3,317),(4,5),(5,5),(6,318),(7,319),(8,267),(9,320),(10,321)]⟩
def tyT:TT:=(.node 163 (.node 77 (.node 36 (.node 18 (.node 9 (.node 5 (.node 3 (.node 2 (.node 1 .aC bk .aC) aib .aC) aib (.node 4 .aC ⟨1,1,[.bool false],.bool⟩ .aC)) acC (.node 7 (.node 6 .aC acC .aC) amD (.node 8 .aC amD .aC))) aic (.node 14 (.node 12 (.node 11 (.node 10 .aC aic .aC) aic .aC) aid (.node 13 .aC amE .aC)) amE (.node 16 (.node 15 .aC mU .aC) mU (.node 17 .aC mU .aC)))) amF (.node 27 (.node 23 (.node 21 (.node 20 (.node 19 .aC amF .aC) aie .aC) Yj (.node 22 .aC ⟨1,24,[.slice none 0 0],.slice 30⟩ .aC)) afN (.node 25 (.node 24 .aC afN .aC) ⟨1,24,[.slice none 0 0],.slice 27⟩ (.node 26 .aC afO .aC))) afO (.node 32 (.node 30 (.node 29 (.node 28 .aC ⟨1,24,[.slice none 0 0],.slice 35⟩ .aC) afP .aC) afP (.node 31 .aC bk .aC)) bk (.node 34 (.node 33 .aC bk .aC) afQ (.node 35 .aC afQ .aC))))) ⟨1,24,[.slice none 0 0],.slice 56⟩ (.node 58 (.node 47 (.node 42 (.node 40 (.node 39 (.node 37 .aC aib .aC) bk .aC) bk (.node 41 .aC bk .aC)) bk (.node 45 (.node 44 .aC bk .aC) bk (.node 46 .aC ⟨1,24,[.slice none 0 0],.slice 3⟩ .aC))) bk (.node 54 (.node 51 (.node 49 (.node 48 .aC bk .aC) bk .aC) bk (.node 52 .aC ⟨1,24,[.slice none 0 0],.slice 9⟩ .aC)) bk (.node 56 (.node 55 .aC afR .aC) afR (.node 57 .aC mU .aC)))) mU (.node 69 (.node 63 (.node 61 (.node 60 (.node 59 .aC bk .aC) ⟨1,24,[.slice none 0 0],.slice 105⟩ .aC) mU (.node 62 .aC KX .aC)) KX (.node 67 (.node 64 .aC KX .aC) afS (.node 68 .aC afS .aC))) bk (.node 73 (.node 71 (.node 70 .aC bk .aC) bk (.node 72 .aC bk .aC)) bk (.node 75 (.node 74 .aC bk .aC) bk (.node 76 .aC bk .aC)))))) ⟨1,24,[.slice none 0 0],.slice 81⟩ (.node 125 (.node 100 (.node 90 (.node 83 (.node 81 (.node 80 (.node 79 .aC bk .aC) afT .aC) afT (.node 82 .aC RD .aC)) RD (.node 86 (.node 84 .aC bk .aC) bk (.node 88 .aC bk .aC))) bk (.node 95 (.node 93 (.node 92 (.node 91 .aC ⟨1,8,[.map none],.map 3 27⟩ .aC) afU .aC) afU (.node 94 .aC afV .aC)) afV (.node 98 (.node 97 .aC bk .aC) bk (.node 99 .aC bk .aC)))) bk (.node 109 (.node 105 (.node 103 (.node 102 (.node 101 .aC bk .aC) bk .aC) bk (.node 104 .aC afW .aC)) afW (.node 107 (.node 106 .aC bk .aC) bk (.node 108 .aC bk .aC))) ⟨1,24,[.slice none 0 0],.slice 130⟩ (.node 117 (.node 113 (.node 112 (.node 111 .aC bk .aC) mU .aC) KX (.node 114 .aC ⟨1,4,[.int .u32 0],.int .u32⟩ .aC)) afX (.node 123 (.node 118 .aC afX .aC) ⟨1,8,[.map none],.map 9 170⟩ (.node 124 .aC afY .aC))))) afY (.node 143 (.node 134 (.node 130 (.node 128 (.node 127 (.node 126 .aC afZ .aC) afZ .aC) bk (.node 129 .aC af0 .aC)) af0 (.node 132 (.node 131 .aC bk .aC) bk (.node 133 .aC mU .aC))) af1 (.node 139 (.node 137 (.node 136 (.node 135 .aC af1 .aC) bk .aC) ⟨1,8,[.map none],.map 83 4⟩ (.node 138 .aC bk .aC)) bk (.node 141 (.node 140 .aC bk .aC) bk (.node 142 .aC ⟨1,8,[.map none],.map 3 4⟩ .aC)))) mU (.node 154 (.node 149 (.node 146 (.node 145 (.node 144 .aC af2 .aC) af2 .aC) bk (.node 147 .aC bk .aC)) bk (.node 151 (.node 150 .aC bk .aC) bk (.node 153 .aC bk .aC))) mU (.node 159 (.node 156 (.node 155 .aC bk .aC) mU (.node 157 .aC bk .aC)) bk (.node 161 (.node 160 .aC bk .aC) bk (.node 162 .aC mU .aC))))))) RD (.node 244 (.node 206 (.node 184 (.node 175 (.node 170 (.node 168 (.node 166 (.node 164 .aC RD .aC) bk .aC) bk (.node 169 .aC af3 .aC)) af3 (.node 173 (.node 172 .aC bk .aC) bk (.node 174 .aC bk .aC))) bk (.node 180 (.node 178 (.node 177 (.node 176 .aC bk .aC) ⟨1,24,[.slice none 0 0],.slice 83⟩ .aC) bk (.node 179 .aC bk .aC)) bk (.node 182 (.node 181 .aC bk .aC) ⟨1,24,[.slice none 0 0],.slice 209⟩ (.node 183 .aC bk .aC)))) ⟨1,8,[.map none],.map 3 3⟩ (.node 195 (.node 190 (.node 188 (.node 186 (.node 185 .aC af4 .aC) af4 .aC) bk (.node 189 .aC bk .aC)) bk (.node 192 (.node 191 .aC bk .aC) bk (.node 193 .aC bk .aC))) bk (.node 201 (.node 199 (.node 198 (.node 197 .aC bk .aC) bk .aC) bk (.node 200 .aC bk .aC)) bk (.node 203 (.node 202 .aC bk .aC) bk (.node 204 .aC bk .aC))))) bk (.node 224 (.node 215 (.node 211 (.node 209 (.node 208 (.node 207 .aC bk .aC) af5 .aC) af5 (.node 210 .aC mU .aC)) af6 (.node 213 (.node 212 .aC af6 .aC) ⟨1,8,[.map none],.map 9 33⟩ (.node 214 .aC bk .aC))) ⟨8,112,[.int .i64 0,.string ByteArray.empty,.int .i64 0,.slice none 0 0,.int .i64 0,.string ByteArray.empty,.int .i64 0,.slice none 0 0],.array 2 27⟩ (.node 220 (.node 218 (.node 217 (.node 216 .aC ⟨1,24,[.slice none 0 0],.slice 215⟩ .aC) ⟨1,8,[.map none],.map 218 4⟩ .aC) ⟨2,16,[.int .i64 0,.int .i64 0],.array 2 3⟩ (.node 219 .aC bk .aC)) bk (.node 222 (.node 221 .aC ⟨1,24,[.slice none 0 0],.slice 5⟩ .aC) bk (.node 223 .aC mU .aC)))) bk (.node 234 (.node 229 (.node 227 (.node 226 (.node 225 .aC bk .aC) bk .aC) bk (.node 228 .aC bk .aC)) bk (.node 231 (.node 230 .aC bk .aC) mU (.node 233 .aC bk .aC))) bk (.node 239 (.node 237 (.node 235 .aC bk .aC) bk (.node 238 .aC bk .aC)) bk (.node 242 (.node 241 .aC bk .aC) bk (.node 243 .aC mU .aC)))))) bk (.node 281 (.node 262 (.node 253 (.node 249 (.node 247 (.node 246 (.node 245 .aC mU .aC) bk .aC) KX (.node 248 .aC bk .aC)) mU (.node 251 (.node 250 .aC mU .aC) af7 (.node 252 .aC af7 .aC))) af8 (.node 258 (.node 256 (.node 255 (.node 254 .aC af8 .aC) bk .aC) bk (.node 257 .aC bk .aC)) ⟨1,8,[.map none],.map 9 269⟩ (.node 260 (.node 259 .aC bk .aC) mU (.node 261 .aC bk .aC)))) bk (.node 272 (.node 267 (.node 265 (.node 264 (.node 263 .aC bk .aC) bk .aC) bk (.node 266 .aC bk .aC)) mU (.node 269 (.node 268 .aC bk .aC) bk (.node 271 .aC mU .aC))) bk (.node 276 (.node 274 (.node 273 .aC mU .aC) bk (.node 275 .aC mU .aC)) bk (.node 278 (.node 277 .aC bk .aC) aie (.node 279 .aC aie .aC))))) bk (.node 302 (.node 290 (.node 286 (.node 284 (.node 283 (.node 282 .aC bk .aC) aid .aC) bk (.node 285 .aC bk .aC)) bk (.node 288 (.node 287 .aC bk .aC) bk (.node 289 .aC ⟨24,24,[.int .u8 0,.int .u8 0,.int .u8 0,.int .u8 0,.int .u8 0,.int .u8 0,.int .u8 0,.int .u8 0,.int .u8 0,.int .u8 0,.int .u8 0,.int .u8 0,.int .u8 0,.int .u8 0,.int .u8 0,.int .u8 0,.int .u8 0,.int .u8 0,.int .u8 0,.int .u8 0,.int .u8 0,.int .u8 0,.int .u8 0,.int .u8 0],.array 24 5⟩ .aC))) aid (.node 297 (.node 294 (.node 292 (.node 291 .aC bk .aC) bk .aC) bk (.node 296 .aC bk .aC)) bk (.node 300 (.node 298 .aC ⟨20,160,[.int .u64 0,.int .u64 0,.int .u64 0,.int .u64 0,.int .u64 0,.int .u64 0,.int .u64 0,.int .u64 0,.int .u64 0,.int .u64 0,.int .u64 0,.int .u64 0,.int .u64 0,.int .u64 0,.int .u64 0,.int .u64 0,.int .u64 0,.int .u64 0,.int .u64 0,.int .u64 0],.array 20 290⟩ .aC) bk (.node 301 .aC bk .aC)))) bk (.node 314 (.node 308 (.node 306 (.node 305 (.node 303 .aC bk .aC) af9 .aC) af9 (.node 307 .aC ⟨32,32,[.int .u8 0,.int .u8 0,.int .u8 0,.int .u8 0,.int .u8 0,.int .u8 0,.int .u8 0,.int .u8 0,.int .u8 0,.int .u8 0,.int .u8 0,.int .u8 0,.int .u8 0,.int .u8 0,.int .u8 0,.int .u8 0,.int .u8 0,.int .u8 0,.int .u8 0,.int .u8 0,.int .u8 0,.int .u8 0,.int .u8 0,.int .u8 0,.int .u8 0,.int .u8 0,.int .u8 0,.int .u8 0,.int .u8 0,.int .u8 0,.int .u8 0,.int .u8 0],.array 16 306⟩ .aC)) ⟨32,32,[.int .u8 0,.int .u8 0,.int .u8 0,.int .u8 0,.int .u8 0,.int .u8 0,.int .u8 0,.int .u8 0,.int .u8 0,.int .u8 0,.int .u8 0,.int .u8 0,.int .u8 0,.int .u8 0,.int .u8 0,.int .u8 0,.int .u8 0,.int .u8 0,.int .u8 0,.int .u8 0,.int .u8 0,.int .u8 0,.int .u8 0,.int .u8 0,.int .u8 0,.int .u8 0,.int .u8 0,.int .u8 0,.int .u8 0,.int .u8 0,.int .u8 0,.int .u8 0],.array 32 5⟩ (.node 312 (.node 311 .aC bk .aC) aga (.node 313 .aC aga .aC))) ⟨0,0,[],.array 0 16⟩ (.node 320 (.node 318 (.node 317 .aC acC .aC) acC (.node 319 .aC bk .aC)) Yj (.node 322 (.node 321 .aC Yj .aC) agb (.node 323 .aC agb .aC))))))))
theorem gK:jE Tryz.prog tyT.get:=TT.ok (by kernel_rfl)
theorem mixed:Tryz.prog.follows .mixedOrders=true:=by kernel_rfl
end Go.Proofs.YtmjmngigbachdaaGreatDoor

namespace ax
open Go Go.RowKit
def rn (is:List Nat)(base i:Nat):Nat :=
 match dq is i with
 |some j=>j
 |none=>Nat.add base (Nat.sub i (len is))
mutual
def dh (f:Nat->Nat):AV->AV| .lo i o=>.lo (f i) o| .el i s r j=>.el (f i) s r j| .vw i s r=>.vw (f i) s r| .ow i s=>.ow (f i) s| .mp i=>.mp (f i)| .yl i=>.yl (f i)| .agg l=>.agg (iH f l)| .cP l=>.cP (iH f l)| .b9 g a c=>.b9 g (iH f a) (iH f c)| .any=>.any| .tt=>.tt| .ff=>.ff| .d x=>.d x| .fs r=>.fs r
def iH (f:Nat->Nat):List AV->List AV|[]=>[]|x::l=>dh f x::iH f l
end
def bG (f:Nat->Nat):Ob->Ob| .box l=>.box (iH f l)| .arr sz s aa=>.arr sz s aa| .map es=>.map (es.map λx=>(x.1,dh f x.2))| .Ju pre=>.Ju pre| .Jv hs aa=>.Jv hs aa| .Jw s pos=>.Jw s pos| .dead=>.dead| .gZ T l=>.gZ T (iH f l)| .qG e s bs=>.qG e s bs| .uj es=>.uj (es.map λx=>(x.1,dh f x.2))
theorem gR (f:Nat->Nat):∀(l:List AV),iH f l=l.map (dh f)|[]=>by simp[iH]|x::l=>by simp[iH,gR f l]
mutual
theorem RV.RE {S S':Nat->Prop}{w:World}{φ ψ:List bI}{f:Nat->Nat}(hk:dL S w S' w)(h:∀i p,φ[i]? = some p->ψ[f i]? = some p):∀{x:AV} {v:Value},RV S w φ x v->RV S' w ψ (dh f x) v
 | .any,_,_=>by simp[RV,dh]
 | .tt,_,h=>by simpa[RV,dh]using h
 | .ff,_,h=>by simpa[RV,dh]using h
 | .d x,v,h=>by simp only[RV,dh]at h ⊢;exact h.mono hk
 | .fs aa,v,h=>by simp only[RV,dh]at h ⊢;exact⟨h.1.mono hk,h.2⟩
 | .agg l,v,hv=>by simp only[RV,dh]at hv ⊢;obtain⟨cs,h1,h2⟩:=hv;exact⟨cs,h1,aW.RE hk h h2⟩
 | .lo i off,v,hv=>by simp only[RV,dh]at hv ⊢;grind
 | .el i t r j,v,hv=>by simp only[RV,dh]at hv ⊢;grind
 | .vw i t r,v,hv=>by simp only[RV,dh]at hv ⊢;grind
 | .ow i t,v,hv=>by simp only[RV,dh]at hv ⊢;grind
 | .mp i,v,hv=>by simp only[RV,dh]at hv ⊢;grind
 | .yl i,v,hv=>by simp only[RV,dh]at hv ⊢;grind
 | .cP l,v,hv=>by simp only[RV,dh]at hv ⊢;obtain⟨cs,h1,h2⟩:=hv;exact⟨cs,h1,aW.RE hk h h2⟩
 | .b9 g a c,v,hv=>by simp only[RV,dh]at hv ⊢;obtain⟨va,vc,h1,h2,h3⟩:=hv;exact⟨va,vc,h1,aW.RE hk h h2,aW.RE hk h h3⟩
theorem aW.RE {S S':Nat->Prop}{w:World}{φ ψ:List bI}{f:Nat->Nat}(hk:dL S w S' w)(h:∀i p,φ[i]? = some p->ψ[f i]? = some p):∀{l:List AV} {vs:List Value},aW S w φ l vs->aW S' w ψ (iH f l) vs|[],[],_=>by simp[aW,iH]|[],_::_,h=>by simp[aW]at h|_::_,[],h=>by simp[aW]at h|a::l,v::vs,hv=>by simp only[aW,iH]at hv ⊢;exact⟨RV.RE hk h hv.1,aW.RE hk h hv.2⟩
end
mutual
theorem RV.oM {S S':Nat->Prop}{w:World}{φ ψ:List bI}{f:Nat->Nat}(hk:dL S w S' w)(h:∀i p,φ[f i]? = some p->ψ[i]? = some p):∀{x:AV} {v:Value},RV S w φ (dh f x) v->RV S' w ψ x v
 | .any,_,_=>by simp[RV]
 | .tt,_,h=>by simpa[RV,dh]using h
 | .ff,_,h=>by simpa[RV,dh]using h
 | .d x,v,h=>by simp only[RV,dh]at h ⊢;exact h.mono hk
 | .fs aa,v,h=>by simp only[RV,dh]at h ⊢;exact⟨h.1.mono hk,h.2⟩
 | .agg l,v,hv=>by simp only[RV,dh]at hv ⊢;obtain⟨cs,h1,h2⟩:=hv;exact⟨cs,h1,aW.oM hk h h2⟩
 | .lo i off,v,hv=>by simp only[RV,dh]at hv ⊢;grind
 | .el i t r j,v,hv=>by simp only[RV,dh]at hv ⊢;grind
 | .vw i t r,v,hv=>by simp only[RV,dh]at hv ⊢;grind
 | .ow i t,v,hv=>by simp only[RV,dh]at hv ⊢;obtain⟨h0,p,h1,h2⟩:=hv;exact⟨h0,p,h _ _ h1,h2⟩
 | .mp i,v,hv=>by simp only[RV,dh]at hv ⊢;obtain⟨b,h1,h2⟩:=hv;exact⟨b,h _ _ h1,h2⟩
 | .yl i,v,hv=>by simp only[RV,dh]at hv ⊢;obtain⟨l,I,B,h1,h2⟩:=hv;exact⟨l,I,B,h _ _ h1,h2⟩
 | .cP l,v,hv=>by simp only[RV,dh]at hv ⊢;obtain⟨cs,h1,h2⟩:=hv;exact⟨cs,h1,aW.oM hk h h2⟩
 | .b9 g a c,v,hv=>by simp only[RV,dh]at hv ⊢;obtain⟨va,vc,h1,h2,h3⟩:=hv;exact⟨va,vc,h1,aW.oM hk h h2,aW.oM hk h h3⟩
theorem aW.oM {S S':Nat->Prop}{w:World}{φ ψ:List bI}{f:Nat->Nat}(hk:dL S w S' w)(h:∀i p,φ[f i]? = some p->ψ[i]? = some p):∀{l:List AV} {vs:List Value},aW S w φ (iH f l) vs->aW S' w ψ l vs|[],[],_=>by simp[aW]|[],_::_,h=>by simp[aW,iH]at h|_::_,[],h=>by simp[aW,iH]at h|a::l,v::vs,hv=>by simp only[aW,iH]at hv ⊢;exact⟨RV.oM hk h hv.1,aW.oM hk h hv.2⟩
end
theorem bj.RE {S S':Nat->Prop}{w:World}{φ ψ:List bI}{f:Nat->Nat}(hk:dL S w S' w)(h:∀i p,φ[i]? = some p->ψ[f i]? = some p){ph:bI}{ob:Ob}(ho:bj S w φ ph ob):bj S' w ψ ph (bG f ob):=by
 cases ph<;>cases ob<;>simp only[bj,bG]at ho ⊢
 obtain ⟨cs,T,h1,h2⟩:=ho;exact⟨cs,T,h1,h2.RE hk h⟩;obtain ⟨ents,jr,h1,h2,h3⟩:=ho;refine⟨ents,jr,h1,?_,?_⟩;simpa[kn,Function.comp_def]using h2;have:=h3.RE hk h;rw[gR]at this;simpa[kn,Function.comp_def]using this;exact ho;obtain ⟨cs,h1,h2⟩:=ho;exact⟨cs,h1,h2.RE hk h⟩;obtain ⟨ents,jr,Eg,h0,h1,h2,h3⟩:=ho;refine⟨ents,jr,Eg.map λx=>(x.1,dh f x.2),h0.map _,h1,?_,?_⟩;simpa[kn,Function.comp_def]using h2;have:=h3.RE hk h;rw[gR]at this;simpa[kn,Function.comp_def]using this;obtain ⟨h0,No,h1,h2⟩:=ho;exact alG;exact ho;exact⟨ho.1,ho.1 _ _ _ _ _ _ cZ (λ_ _=>rfl) hk ho.2⟩;obtain ⟨h0,No,h1,h2⟩:=ho;exact alK
theorem wU {α β:Type}{f:α->β}{l m:List β}(h:l.Perm m):∀es:List α,m=es.map f->∃Eg:List α,Eg.Perm es/\l=Eg.map f:=by
 induction h with
 |nil=>simp_all
 |cons x _ ih=>
  intro es he;cases es with
  |nil=>simp at he
  |cons a es=>simp only[bM,List.cons.injEq]at he;obtain⟨rfl,he⟩:=he;obtain⟨Eg,h1,rfl⟩:=ih es he;exact⟨a::Eg,h1.cons a,rfl⟩
 |swap x y l=>
  intro es he;cases es with
  |nil=>simp at he
  |cons a es=>
   cases es with
   |nil=>simp at he
   |cons b es=>simp only[bM,List.cons.injEq]at he;obtain⟨rfl,rfl,rfl⟩:=he;exact⟨b::a::es,.swap _ _ _,rfl⟩
 |trans _ _ ih1 wg=>intro es he;obtain⟨es1,h1,rfl⟩:=wg es he;obtain⟨es2,h2,rfl⟩:=ih1 es1 rfl;exact⟨es2,h2.trans h1,rfl⟩
theorem bj.oM {S S':Nat->Prop}{w:World}{φ ψ:List bI}{f:Nat->Nat}(hk:dL S w S' w)(h:∀i p,φ[f i]? = some p->ψ[i]? = some p){ph:bI}{ob:Ob}(ho:bj S w φ ph (bG f ob)):bj S' w ψ ph ob:=by
 cases ph<;>cases ob<;>simp only[bj,bG]at ho ⊢
 obtain ⟨cs,T,h1,h2⟩:=ho;exact⟨cs,T,h1,h2.oM hk h⟩;obtain ⟨ents,jr,h1,h2,h3⟩:=ho;refine⟨ents,jr,h1,?_,?_⟩;simpa[kn,Function.comp_def]using h2;rename_i es;have h4:iH f (es.map (·.2))=(es.map λx=>(x.1,dh f x.2)).map (·.2):=by rw[gR];simp_all
 rw[<-h4]at h3;exact h3.oM hk h;exact ho;obtain ⟨cs,h1,h2⟩:=ho;exact⟨cs,h1,h2.oM hk h⟩;obtain ⟨ents,jr,Eg,h0,h1,h2,h3⟩:=ho;obtain⟨es2,h4,rfl⟩:=wU h0 _ rfl;refine⟨ents,jr,es2,h4,h1,?_,?_⟩;simpa[kn,Function.comp_def]using h2;have h5:iH f (es2.map (·.2))=(es2.map λx=>(x.1,dh f x.2)).map (·.2):=by rw [gR]; simp_all
 rw[<-h5]at h3;exact h3.oM hk h;obtain ⟨h0,No,h1,h2⟩:=ho;exact alG;exact ho;exact⟨ho.1,ho.1 _ _ _ _ _ _ cZ (λ_ _=>rfl) hk ho.2⟩;obtain ⟨h0,No,h1,h2⟩:=ho;exact alK
def db {α:Type}:List Nat->List α->List α->List α|[],new,l=>l++new|j::is,o::new,l=>db is new (dj l j o)|_::_,[],l=>l
def HI (j:Nat):List Nat->Bool|[]=>false|i::is=>bif Nat.beq i j then true else HI j is
def isOk (n:Nat):List Nat->Bool|[]=>true|i::is=>bif Nat.ble (Nat.succ i) n then(bif HI i is then false else isOk n is)else false
theorem BT {j:Nat}:∀{is:List Nat},HI j is=true↔j∈is
 |[]=>by simp[HI]
 |i::is=>by
  simp only[HI];cases h:Nat.beq i j;have:i≠j:=λe=>by subst e; simp at h
  simp only[cond_false,BT,cE];exact⟨.inr,λh=>h.resolve_left λe=>this e.symm⟩;simp_all
theorem tF {n:Nat}:∀{is:List Nat},isOk n is=true->is.Nodup/\∀i∈is,i<n|[],_=>by simp|i::is,h=>by simp only[isOk]at h;obtain⟨h1,h2⟩:=Yb h;have h1:=ko h1;cases hm:HI i is;rw [hm]at h2;obtain⟨h3,h4⟩:=tF h2;refine⟨Bo.2 ⟨λhi=>?_,h3⟩,λj hj=>(cE.1 hj).elim (λe=>by rw[e];exact h1) (h4 j)⟩;rw[BT.2 hi]at hm;cases hm;simp_all
theorem lQ {α:Type}:∀{is:List Nat} {new l:List α},is.length<=new.length->(db is new l).length=l.length+(new.length-is.length)|[],new,l,_=>by simp[db]|j::is,[],l,h=>by simp at h|j::is,o::new,l,h=>by simp only[db];rw[lQ ln,bx];simp
theorem jt {α:Type}:∀{is:List Nat} {new l:List α} {j:Nat},j ∉ is->j<l.length->(db is new l)[j]? = l[j]?|[],new,l,j,_,h=>by simp only[db];grind|i::is,[],l,j,_,_=>rfl|i::is,o::new,l,j,hj,h=>by simp only[cE,not_or]at hj;simp only[db];rw[jt hj.2 (by rw[bx];simpa using h),bx,wB (λe=>hj.1 e.symm)]
theorem yD {α:Type}:∀{is:List Nat} {new l:List α} {i:Nat},is.Nodup->(∀j∈is,j<l.length)->is.length<=new.length->(db is new l)[rn is l.length i]? = new[i]?
 |[],new,l,i,_,_,_=>by simp only[db,rn,dq,len,NN,Nat.sub_eq];grind
 |j::is,[],l,i,_,_,h=>by simp at h
 |j::is,o::new,l,i,hn,hl,h=>by
  have Bf:=Bo.1 hn;have BP:=hl j aD;simp only[db];cases i with
  |zero=>have:rn (j::is) l.length 0=j:=rfl;rw[this,jt Bf.1 (by rw[bx];simpa using BP),bx,u7 BP];rfl
  |succ i=>
   have:rn (j::is) l.length (i+1)=rn is (dj l j o).length i:=by
    have e:(dj l j o).length=l.length:=by rw[bx];simp
    simp only[rn,dq,Nat.beq,cond_false,Nat.pred,len,e];simp_all
   rw[this,yD Bf.2 (λm hm=>by rw[bx];simp_all) ln];rfl
theorem wV {α:Type}{is:List Nat}{new l:List α}(h:is.length<=new.length){j:Nat}{x:α}(hx:(db is new l)[j]? = some x):(j ∉ is/\j<l.length)\/∃i,j=rn is l.length i:=by
 by_cases hj:j∈is;obtain ⟨i,hi⟩:=wD.1 hj;exact .inr ⟨i,by simp only[rn,bE,hi]⟩;by_cases hl:j<l.length;simp_all;refine .inr ⟨is.length+(j-l.length),?_⟩;have:dq is (is.length+(j-l.length))=none:=by rw[bE];simp_all
 simp only[rn,this,bp,NN,Nat.sub_eq];omega
def fM {α:Type} (l:List α):List Nat->Option (List α)
 |[]=>some []
 |i::is=>match dq l i with
  |some x=>match fM l is with
   |some r=>some (x::r)
   |none=>none
  |none=>none
theorem pU {α:Type}{l:List α}:∀{is:List Nat} {r:List α},fM l is=some r->r.length=is.length
 |[],r,h=>by simp[fM]at h;subst h;rfl
 |i::is,r,h=>by
  simp only[fM]at h;split at h
  case h_2=>cases h
  split at h
  case h_2=>cases h
  rename_i r' Ei;cases h;simp[pU Ei]
theorem kg {α:Type}{l:List α}:∀{is:List Nat} {r:List α} {i:Nat} {x:α},fM l is=some r->r[i]? = some x->∃j,is[i]? = some j/\l[j]? = some x
 |[],r,i,x,h,hx=>by simp[fM]at h;simp_all
 |k::is,r,i,x,h,hx=>by
  simp only[fM]at h;split at h
  case h_2=>cases h
  rename_i y hy;split at h
  case h_2=>cases h
  rename_i r' Ei;cases h;cases i with
  |zero=>simp at hx;subst hx;rw[bE]at hy;simp_all
  |succ i=>simp at hx;obtain⟨j,h1,h2⟩:=kg Ei hx;simp_all
theorem KY {α:Type}{l:List α}:∀{is:List Nat},(∀i∈is,i<l.length)->∃r,fM l is=some r
 |[],_=>⟨[],rfl⟩
 |i::is,h=>by
  obtain⟨r,hr⟩:=KY (is:=is) (λj hj=>h j (by simp[hj]));have:dq l i=some (l[i]'(h i aD)):=by rw[bE];simp_all
  exact⟨l[i]'(h i aD)::r,by simp only[fM,this,hr]⟩
theorem BU {α:Type}{l:List α}:∀{is:List Nat} {r:List α} {i j:Nat},fM l is=some r->is[i]? = some j->r[i]? = l[j]?
 |[],r,i,j,h,hx=>by simp at hx
 |k::is,r,i,j,h,hx=>by
  simp only[fM]at h;split at h
  case h_2=>cases h
  rename_i y hy;split at h
  case h_2=>cases h
  rename_i r' Ei;cases h;cases i with
  |zero=>simp at hx;subst hx;rw[bE]at hy;simp[hy]
  |succ i=>simp at hx;simpa using BU Ei hx
end ax
namespace ax
open Go Go.RowKit
variable{gd:Option (Nat×Bool)}{args:Array Operand}{objs b7 bc:List Ob}{after:Array Edge}{dW:List AV}{dst:Option Nat}{ts:Array Nat}{pos:String}{x:Operand}{Y:YP}{E:bq}{r:AV}{ty f:Nat}
def l5 (P:Program)(F:Fence)(d:Nat)(Y:YP)(l:Nat)(I:Nat->(Nat->Prop)->(Nat->Prop)->World->Prop)(S:Nat->Prop):Prop :=
 ∀ (n:Nat) (B:Nat->Prop) (w:World) (R:Nat->Prop) (x:List AV) (bS:List Value),I n B R w->(∀b,R b->S b/\¬ B b)->gI P R w->(∀b,w.heap.size<=b->R b)->Y.ys[n]? = some x->(n=0\/Y.go n=true)->aW R w [] x bS->lh x=true ->
  YieldAt F d P l bS.toArray w λe w'=>e=.returned (.bool (Y.go (n+1)))/\∃B',I (n+1) B' (λb=>R b/\¬ B' b) w'/\w.heap.size<=w'.heap.size/\w'.os=w.os/\w'.tape=w.tape/\w'.output=w.output /\
   (∀b,b<w.heap.size->¬ B b->w'.heap[b]? = w.heap[b]?)/\(∀b,B' b->B b\/(w.heap.size<=b/\b<w'.heap.size))
theorem l5.sub{P:Program}{F:Fence}{d:Nat}{l:Nat}{I:Nat->(Nat->Prop)->(Nat->Prop)->World->Prop}{S S':Nat->Prop}(h:l5 P F d Y l I S)(hs:∀b,S' b->S b):l5 P F d Y l I S' :=λn B w R x bS h1 h2 ha h3 h4 h5 h6 h7=>h n B w R x bS h1 (λb hb=>⟨hs b (h2 b hb).1,(h2 b hb).2⟩) ha h3 h4 h5 h6 h7
structure aU (P:Program) (Y:YP) (f:Nat) (args:List AV) (objs:List Ob) (r:AV) (bc:List Ob):Prop where
 call:sC P f
 run:∀(S:Nat->Prop) (φ:List bI) (w:World) (bS:List Value),gI P (SS S φ) w->HS S φ objs w->(∀b,eH φ b->S b)->(∀(i l:Nat) (I:Nat->(Nat->Prop)->(Nat->Prop)->World->Prop) (B:Nat->Prop),φ[i]? = some (bI.ext l I B)->l5 P Fence.wide 0 Y l I S)->aW (SS S φ) w φ args bS ->
  Calls P f bS.toArray w λe w'=>∃v φ',e=.returned v/\RV (SS S φ') w' φ' r v/\j8 S φ w φ' bc w'
 len:objs.length<=bc.length
section
variable {g:G} {pf:Nat->cI} {ad:Array Oper} {Fin:Exit->Act->World->Prop}
theorem KZ{φ φ0:List bI}{is:List Nat}(h:fM φ is=some φ0){b:Nat}(hb:eH φ0 b):∃i∈is,∃p,φ[i]? = some p/\p.bl b:=by obtain⟨i,p,h1,h2⟩:=hb;obtain⟨j,h3,h4⟩:=kg h h1;grind
theorem BV{φ:List bI}{w:World}(hA:gI g.P (SS g.S0 φ) w)(hu:JC g)(hY:∀(i l:Nat) (I:Nat->(Nat->Prop)->(Nat->Prop)->World->Prop) (B:Nat->Prop),g.φ0[i]? = some (bI.ext l I B)->l5 g.P Fence.wide 0 g.Y l I g.S0)(is:List Nat)(dK:b7.length<=bc.length)(vj:(∃(i l:Nat) (I:Nat->(Nat->Prop)->(Nat->Prop)->World->Prop) (B:Nat->Prop),g.φ0[i]? = some (bI.ext l I B))->Y=g.Y){o₁:List Ob}{bS:List Value}
  (dA:isOk (len o₁) is=true) (jS:fM o₁ is=some (b7.map (bG (rn is (len o₁))))) (h1:HS g.S0 φ o₁ w) (h2:∀b,eH φ b->g.w0.heap.size<=b\/g.X0 b) (h6:Fr0 g φ w) (ez:aW (SS g.S0 φ) w φ (iH (rn is (len o₁)) dW) bS) :
  ∃(S:Nat->Prop) (φ0:List bI),gI g.P (SS S φ0) w/\HS S φ0 b7 w/\(∀b,eH φ0 b->S b)/\(∀(i l:Nat) (I:Nat->(Nat->Prop)->(Nat->Prop)->World->Prop) (B:Nat->Prop),φ0[i]? = some (bI.ext l I B)->l5 g.P Fence.wide 0 Y l I S)/\aW (SS S φ0) w φ0 dW bS /\
   ∀(w':World) (φ1:List bI) (v:Value),RV (SS S φ1) w' φ1 r v->j8 S φ0 w φ1 bc w'->∃φ',j8 g.S0 φ w φ' (db is (bc.map (bG (rn is (len o₁)))) o₁) w'/\RV (SS g.S0 φ') w' φ' (dh (rn is (len o₁)) r) v:=by
 have KU:∀b,eH φ b->g.S0 b:=λb hb=>(h2 b hb).elim (hu.up b) (hu.x b)
 obtain⟨rO,fE⟩:=tF dA;rw[bp,<-h1.len]at fE;obtain⟨φ0,Nl⟩:=KY fE;have RF:φ0.length=b7.length:=by rw[pU Nl,<-pU jS];simp
 have apJ:is.length=φ0.length:=(pU Nl).symm
 have FL:∀i p,φ[rn is (len o₁) i]? = some p->φ0[i]? = some p:=λi p hp=>by
  simp only[rn,bE]at hp;cases hi:is[i]? with
  |some j=>rw[hi]at hp;simp only at hp;rw[BU Nl hi];exact hp
  |none=>rw[hi]at hp;simp only[NN]at hp;have:=(fu.1 hp).1;rw[h1.len,<-bp]at this;omega
 have BW:∀b,eH φ0 b->eH φ b:=λb hb=>by obtain⟨i,_,p,h7,h8⟩:=KZ Nl hb;exact⟨i,p,h7,h8⟩
 have hK0:dL (SS g.S0 φ) w (SS (λb=>SS g.S0 φ b\/eH φ0 b) φ0) w:=λb hb _=>⟨⟨.inl hb,λhc=>hb.2 (BW b hc)⟩,rfl⟩
 have apL:HS (λb=>SS g.S0 φ b\/eH φ0 b) φ0 b7 w:=by refine⟨RF,λi ph ob hi ho=>?_,λi j p q b hi hj hp hq=>?_,λb hb=>h1.lt b (BW b hb),λb hb=>.inl ⟨h1.up b hb,λhc=>by have:=h1.lt b hc;omega⟩⟩;obtain ⟨j,hj,amH⟩:=kg Nl hi;obtain⟨j',hj',hoj⟩:=kg jS (i:=i) (x:=bG (rn is (len o₁)) ob) (by rw[fP,ho];rfl);rw[hj]at hj';cases hj';exact(h1.ok j ph _ amH hoj).oM hK0 FL;obtain ⟨i',EG,as6⟩:=kg Nl hi;obtain⟨j',hj',amH⟩:=kg Nl hj;have:=h1.jO i' j' p q b as6 amH hp hq;subst this;have h7:=(List.getElem?_inj (fu.1 EG).1 rO).1 (EG.trans hj'.symm);exact h7
 have aif:∀(i l:Nat) (I:Nat->(Nat->Prop)->(Nat->Prop)->World->Prop) (B:Nat->Prop),φ0[i]? = some (bI.ext l I B)->l5 g.P Fence.wide 0 Y l I (λb=>SS g.S0 φ b\/eH φ0 b):=λi l I B hi=>by obtain⟨j,_,amH⟩:=kg Nl hi;obtain⟨B0,h7⟩:=h6.gen j l I B amH;rw[vj ⟨j,l,I,B0,h7⟩];exact(hY j l I B0 h7).sub λb hb=>hb.elim (λh=>h.1) (λh=>KU b (BW b h))
 refine⟨_,φ0,hA.jj hK0,apL,λb hb=>.inr hb,aif,ez.oM hK0 FL,λw' φ1 v hv cY=>?_⟩;have Eh:φ1.length=bc.length:=cY.hs.len;have Yk:is.length<=φ1.length:=by rw[Eh,apJ,RF];exact dK
 have a8:len o₁=φ.length:=by rw[bp,h1.len]
 rw[a8]at FL ⊢;have hrn:∀i,(db is φ1 φ)[rn is φ.length i]? = φ1[i]? := λi=>yD rO fE Yk
 have BX:∀{j:Nat} {p:bI},(db is φ1 φ)[j]? = some p->(j ∉ is/\φ[j]? = some p)\/∃i,j=rn is φ.length i/\φ1[i]? = some p:=λ{j p} hj=>by
  rcases wV Yk hj with ⟨h7,h8⟩|⟨i,rfl⟩
  rw[jt h7 h8]at hj;exact .inl ⟨h7,hj⟩;rw[hrn]at hj;exact .inr ⟨i,rfl,hj⟩
 have BZ:∀{b:Nat},eH (db is φ1 φ) b->(∃j p,j ∉ is/\φ[j]? = some p/\p.bl b)\/eH φ1 b:=λ{b} hb=>by
  obtain⟨j,p,h7,h8⟩:=hb;rcases BX h7 with ⟨h9,mH⟩|⟨i,_,mH⟩
  exact .inl ⟨j,p,h9,mH,h8⟩;exact .inr ⟨i,p,mH,h8⟩
 have jb:∀{j:Nat} {p:bI} {b:Nat},j ∉ is->φ[j]? = some p->p.bl b->¬ eH φ0 b:=λ{j p b} h7 h8 h9 mH=>by obtain⟨i,hi,q,Yl,h12⟩:=KZ Nl mH;have:=h1.jO i j q p b Yl h8 h12 h9;subst this;exact h7 hi
 have sd:∀{j:Nat} {p:bI} {b:Nat},j ∉ is->φ[j]? = some p->p.bl b->w'.heap[b]? = w.heap[b]? := λ{j p b} h7 h8 h9=>cY.fr b (h1.lt b ⟨j,p,h8,h9⟩) (jb h7 h8 h9)
 have hK:dL (SS g.S0 φ) w (SS g.S0 (db is φ1 φ)) w':=.of λb hb HG=>by
  have qI:¬ eH φ0 b:=λhc=>hb.2 (BW b hc)
  refine⟨⟨hb.1,λhc=>?_⟩,cY.fr b HG qI⟩;rcases BZ hc with ⟨j,p,h7,h8,h9⟩|h7
  exact hb.2 ⟨j,p,h8,h9⟩;rcases cY.own b h7 with h8| h8
  exact qI h8;omega
 have hK1:dL (SS (λb=>SS g.S0 φ b\/eH φ0 b) φ1) w' (SS g.S0 (db is φ1 φ)) w':=λb hb _=>by
  refine⟨⟨hb.1.elim (λh=>h.1) (λh=>KU b (BW b h)),λhc=>?_⟩,rfl⟩;rcases BZ hc with ⟨j,p,h7,h8,h9⟩|h7
  rcases hb.1 with mH| mH
  exact mH.2 ⟨j,p,h8,h9⟩;exact jb h7 h8 h9 mH;exact hb.2 h7
 have hle:kc φ (db is φ1 φ):=λj p hj=>by
  by_cases uw:j∈is;obtain ⟨i,hi⟩:=wD.1 uw;obtain⟨p',h7,h8⟩:=cY.le i p (by rw[BU Nl hi];exact hj);have:j=rn is φ.length i:=by simp only[rn,bE,hi]
  exact⟨p',by rw[this,hrn];exact h7,h8⟩;exact⟨p,by rw[jt uw (fu.1 hj).1];exact hj,.inl rfl⟩
 have amJ:∀i p,φ1[i]? = some p->(db is φ1 φ)[rn is φ.length i]? = some p:=λi p hp=>by rw[hrn];exact hp
 have Rx:o₁.length=φ.length:=h1.len.symm
 have Ym:∀{j:Nat} {ob:Ob},(db is (bc.map (bG (rn is φ.length))) o₁)[j]? = some ob->(j ∉ is/\o₁[j]? = some ob)\/∃i,j=rn is φ.length i/\∃TM,bc[i]? = some TM/\ob=bG (rn is φ.length) TM:=λ{j ob} hj=>by
  have hlO:is.length<=(bc.map (bG (rn is φ.length))).length:=by rw[fQ,<-Eh];exact Yk
  rcases wV hlO hj with ⟨h7,h8⟩|⟨i,rfl⟩
  rw[jt h7 h8]at hj;exact .inl ⟨h7,hj⟩;rw [yD rO (by rw [Rx]; exact fE) hlO,fP]at hj;rw[Rx];cases ho:bc[i]? with
  |none=>rw[ho]at hj;cases hj
  |some TM=>rw[ho]at hj;simp at hj;exact .inr ⟨i,rfl,TM,ho,hj.symm⟩
 have aih:∀{i i':Nat},rn is φ.length i=rn is φ.length i'->i<φ1.length->i'<φ1.length->i=i':=λ{i i'} h7 h8 h9=>by
  simp only[rn,bE,bp,NN,Nat.sub_eq]at h7;cases hi:is[i]?<;>cases EG:is[i']?<;>rw[hi,EG]at h7<;>simp only at h7
  have:=List.getElem?_eq_none_iff.1 hi;have:=List.getElem?_eq_none_iff.1 EG;omega;have:=fE _ (sq EG);omega;have:=fE _ (sq hi);omega;subst h7;exact(List.getElem?_inj (fu.1 hi).1 rO).1 (hi.trans EG.symm)
 have l6:j8 g.S0 φ w (db is φ1 φ) (db is (bc.map (bG (rn is φ.length))) o₁) w':=by
  refine⟨⟨?_,?_,?_,?_,λb hb=>h1.up b (vd cY.size hb)⟩,hK,hle,cY.size,cY.os,cY.tape,cY.out,λb hb hn=>cY.fr b hb λhc=>hn (BW b hc),?_,?_⟩;rw[lQ Yk,lQ (by rw[fQ,<-Eh];exact Yk),fQ,Eh,h1.len]
  ·intro j ph ob hj wM;rcases BX hj with ⟨h7,h8⟩|⟨i,rfl,h8⟩
   rcases Ym wM with ⟨_,h9⟩| ⟨i,uw,TM,h9,_⟩
   exact(h1.ok j ph ob h8 h9).mono hK hle cY.size λb hb=>sd h7 h8 hb
   exfalso;simp only[rn,bE]at uw;cases hi:is[i]? with
   |some m=>rw[hi]at uw;simp only at uw;subst uw;exact h7 (sq hi)
   |none=>rw[hi]at uw;simp only[NN]at uw;have:=(fu.1 h8).1;omega
   ·rcases Ym wM with ⟨h7,h9⟩| ⟨i',uw,TM,h9,rfl⟩
    exfalso;have BP:=(fu.1 h9).1;rw[Rx]at BP;simp only[rn,bE]at h7 BP;cases hi:is[i]? with
    |some m=>rw[hi]at h7;exact h7 (sq hi)
    |none=>rw[hi]at BP;simp only[NN]at BP;omega
    have:=aih uw (fu.1 h8).1 (by rw [Eh]; exact (fu.1 h9).1);subst this;exact(cY.hs.ok i ph TM h8 h9).RE hK1 amJ
  intro i j p q b hi hj hp hq;rcases BX hi with ⟨h7,h8⟩|⟨i',rfl,h8⟩<;>rcases BX hj with ⟨h9,mH⟩|⟨j',rfl,mH⟩
  exact h1.jO i j p q b h8 mH hp hq;exfalso;rcases cY.own b ⟨j',q,mH,hq⟩with Yl|Yl
  exact jb h7 h8 hp Yl;have:=h1.lt b ⟨i,p,h8,hp⟩;omega;exfalso;rcases cY.own b ⟨i',p,h8,hp⟩with Yl|Yl
  exact jb h9 mH hq Yl;have:=h1.lt b ⟨j,q,mH,hq⟩;omega;rw[cY.hs.jO i' j' p q b h8 mH hp hq];intro b hb;rcases BZ hb with ⟨j,p,h7,h8,h9⟩|h7
  exact Kc (h1.lt b ⟨j,p,h8,h9⟩) cY.size;exact cY.hs.lt b h7;intro b hb;rcases BZ hb with ⟨j,p,h7,h8,h9⟩|h7
  exact .inl ⟨j,p,h8,h9⟩;exact(cY.own b h7).imp (BW b) id;intro j l I B hj;rcases BX hj with ⟨h7,h8⟩|⟨i,rfl,h8⟩
  exact⟨B,h8⟩;obtain ⟨B0,h9⟩:=cY.ext i l I B h8;obtain⟨m,mH,Yl⟩:=kg Nl h9;refine⟨B0,?_⟩;have:rn is φ.length i=m:=by simp only[rn,bE,mH]
  rw[this];exact Yl
 exact⟨_,l6,hv.RE hK1 amJ⟩
theorem nk(hg:di g)(hu:JC g)(hF:g.F=Fence.wide/\g.dep=0)(hY:∀(i l:Nat) (I:Nat->(Nat->Prop)->(Nat->Prop)->World->Prop) (B:Nat->Prop),g.φ0[i]? = some (bI.ext l I B)->l5 g.P Fence.wide 0 g.Y l I g.S0)(is:List Nat)(hc:aU g.P Y f dW b7 r bc)(vj:(∃(i l:Nat) (I:Nat->(Nat->Prop)->(Nat->Prop)->World->Prop) (B:Nat->Prop),g.φ0[i]? = some (bI.ext l I B))->Y=g.Y)
    {fs cs:List AV}
  (bt:aH ad.toList E gd=some true) (hd:aQ ⟨g.ty,g.N⟩ dst=true) (hx:ev E x=.b9 f fs cs) (dA:isOk (len objs) is=true) (jS:fM objs is=some (b7.map (bG (rn is (len objs)))))
  (has:(fs++args.toList.map (ev E)++cs).map lO=iH (rn is (len objs)) dW) :
  aK g ad ⟨dst,.call {callee:=.value x,args:=args,argTypes:=ts},ty,pos,after,gd⟩ E objs .jz (dh (rn is (len objs)) r) (db is (bc.map (bG (rn is (len objs)))) objs):=by
 refine⟨λh=>absurd rfl (h _),(λb h hb=>by cases h;omega),λE₁ o₁ jF a w he ho hs Q=>?_⟩;rcases ho with ⟨h,_⟩|⟨_,h,_⟩|⟨ov,uN⟩
 cases h;cases h;subst ov;subst uN;obtain⟨φ,h1,h2,h3,h4,h5,h6⟩:=hs;rw[nj (cT bt) he h3];simp only[if_true];refine⟨pS hg _ w a,?_⟩;have hρ:=ly (o:=⟨dst,.call {callee:=.value x,args:=args,argTypes:=ts},ty,pos,after,gd⟩) he h3;simp only[Op.operands,Call.operands]at hρ;have aP:=hρ x aD;rw[hx]at aP;simp only[RV]at aP;obtain⟨va,vc,aP,X6,rC⟩:=aP;have mK:aW (SS g.S0 φ) w φ (args.toList.map (ev E)) (args.toList.map a.eval):=aW.map _ _ _ λy hy=>hρ y iS
 have ez:=((X6.append mK).append rC).qK lO bJ.lO;rw[has]at ez;rw[Oper.semAt_eq _ _ _ aD,yz rfl aP hc.call];refine⟨λh=>by rw[hg.depth]at h;simp at h,?_⟩;obtain⟨S,φ0,gA,g1,g2,g3,g4,g5⟩:=BV (hg.Fv h2 h6) hu hY is hc.len vj dA jS h1 h2 h6 ez;have fC:=hc.run S φ0 w _ gA g1 g2 g3 g4;refine(qL hg fC).mono ?_;rintro e w' ⟨v,φ1,rfl,hv,cY⟩;obtain⟨φ',l6,rY⟩:=g5 w' φ1 v hv cY;exact fi.Rc h2 h3 h4 h5 h6 l6 (dI hd) λ_=>rY
theorem wW(hg:di g)(hu:JC g)(hF:g.F=Fence.wide/\g.dep=0)(hY:∀(i l:Nat) (I:Nat->(Nat->Prop)->(Nat->Prop)->World->Prop) (B:Nat->Prop),g.φ0[i]? = some (bI.ext l I B)->l5 g.P Fence.wide 0 g.Y l I g.S0)(is:List Nat)(hc:aU g.P Y f dW b7 r bc)(vj:(∃(i l:Nat) (I:Nat->(Nat->Prop)->(Nat->Prop)->World->Prop) (B:Nat->Prop),g.φ0[i]? = some (bI.ext l I B))->Y=g.Y)
  {az:List Oper} {k:List It}   {fs cs:List AV}
  (bt:aH ad.toList E gd=some true) (hd:aQ ⟨g.ty,g.N⟩ dst=true) (dK:bQ pf (.call {callee:=.value x,args:=args,argTypes:=ts})=.jz) (hx:ev E x=.b9 f fs cs) (dA:isOk (len objs) is=true) (jS:fM objs is=some (b7.map (bG (rn is (len objs)))))
  (has:(fs++args.toList.map (ev E)++cs).map lO=iH (rn is (len objs)) dW)
  (hr:R g pf Fin (.dr ad az::k) (bh E dst (dh (rn is (len objs)) r)) (db is (bc.map (bG (rn is (len objs)))) objs)) :
  R g pf Fin (.dr ad (⟨dst,.call {callee:=.value x,args:=args,argTypes:=ts},ty,pos,after,gd⟩::az)::k) E objs:=by
 refine cU ?_ hr;show aK g ad _ E objs (bQ pf (.call {callee:=.value x,args:=args,argTypes:=ts})) _ _
 rw[dK];exact nk hg hu hF hY is hc vj bt hd hx dA jS has
theorem aK.as{o:Oper}{v:AV}{c:cI}(hc:oL c=false)(h:aK g ad o E objs .jz v objs):aK g ad o E objs c v objs :=
 ⟨λ_=>rfl,λ_ _ _=>.refl _,λE₁ o₁ jF a w h1 h2 h3=>h.step E₁ o₁ jF a w h1 (by
  rcases h2 with ⟨h2,_⟩|⟨m,h2,_⟩|h2
  subst h2;simp[oL]at hc;subst h2;have:Nat.blt 0 (m+1)=true:=by rw[Nat.blt_eq];omega
  simp only[oL]at hc;rw[this]at hc;cases hc;simp_all) h3⟩
theorem jk(hg:di g)(hu:JC g)(hF:g.F=Fence.wide/\g.dep=0)(hY:∀(i l:Nat) (I:Nat->(Nat->Prop)->(Nat->Prop)->World->Prop) (B:Nat->Prop),g.φ0[i]? = some (bI.ext l I B)->l5 g.P Fence.wide 0 g.Y l I g.S0)(is:List Nat)(hc:aU g.P Y f dW b7 r bc)(vj:(∃(i l:Nat) (I:Nat->(Nat->Prop)->(Nat->Prop)->World->Prop) (B:Nat->Prop),g.φ0[i]? = some (bI.ext l I B))->Y=g.Y)
  {az:List Oper} {k:List It}   {fs cs:List AV}
  (bt:aH ad.toList E gd=some true) (hd:aQ ⟨g.ty,g.N⟩ dst=true) (dK:oL (bQ pf (.call {callee:=.value x,args:=args,argTypes:=ts}))=false) (hx:ev E x=.b9 f fs cs) (dA:isOk (len objs) is=true) (jS:fM objs is=some (b7.map (bG (rn is (len objs)))))
  (has:(fs++args.toList.map (ev E)++cs).map lO=iH (rn is (len objs)) dW)
  (kq:db is (bc.map (bG (rn is (len objs)))) objs=objs)
  (hr:R g pf Fin (.dr ad az::k) (bh E dst (dh (rn is (len objs)) r)) objs) :
  R g pf Fin (.dr ad (⟨dst,.call {callee:=.value x,args:=args,argTypes:=ts},ty,pos,after,gd⟩::az)::k) E objs:=by
 refine cU (aK.as dK ?_) hr;have h:=nk (ad:=ad) (after:=after) (pos:=pos) (ty:=ty) (ts:=ts) (dst:=dst) hg hu hF hY is hc vj bt hd hx dA jS has;simp_all
end
end ax
namespace ax
open Go Go.RowKit
variable{b7 objs:List Ob}{fn:Func}{E:bq}
def Ko (P:Program)(ty:Nat->Option Ty)(N:Nat)(w:World)(S:Nat->Prop)(φ:List bI)(Y:YP):G :={P:=P,F:=Fence.wide,dep:=0,ty:=ty,N:=N,w0:=w,S0:=S,X0:=eH φ,φ0:=φ,Y:=Y,XN:=true}
structure GS (g:G) (b7:List Ob):Prop where
 ok:di g
 wide:g.F=Fence.wide/\g.dep=0
 kh:HS g.S0 g.φ0 b7 g.w0
 x:∀b,g.X0 b->eH g.φ0 b
 bl:∀b,eH g.φ0 b->g.S0 b
 Y:∀(i l:Nat) (I:Nat->(Nat->Prop)->(Nat->Prop)->World->Prop) (B:Nat->Prop),g.φ0[i]? = some (bI.ext l I B)->l5 g.P Fence.wide 0 g.Y l I g.S0
theorem GS.cm{g:G}(h:GS g b7):JC g:=⟨h.kh.up,λb hb=>h.bl b (h.x b hb)⟩
def bZ (nz:Bool) (n0:Nat) (objs:List Ob):Nat->AV->AV
 |0,_=>.any
 |n+1,x=>match x with
  | .agg l=>.agg (l.map (bZ nz n0 objs n))
  | .cP l=>.cP (l.map (bZ nz n0 objs n))
  | .b9 f a c=>.b9 f (a.map (bZ nz n0 objs n)) (c.map (bZ nz n0 objs n))
  | .ow i s=>bif Nat.ble (Nat.succ i) n0 then .ow i s else(match dq objs i with
   |some (.arr _ s' aa)=>bif Nat.beq s s' then .d (.sl aa)else .any
   |_=>.any)
  | .lo i off=>bif Nat.ble (Nat.succ i) n0 then .lo i off else(match dq objs i with
   |some (.box l)=>(match yt (l.map (bZ true n0 objs n))with
    |some ds=>.d (.bL (ds.drop off))
    |none=>.any)
   |_=>.any)
  | .mp i=>bif Nat.ble (Nat.succ i) n0 then .mp i else .any
  | .yl i=>bif Nat.ble (Nat.succ i) n0 then .yl i else .any
  | .el i s r j=>bif Nat.ble (Nat.succ i) n0 then .el i s r j else .any
  | .vw i s r=>bif Nat.ble (Nat.succ i) n0 then .vw i s r else .any
  | .tt=>.d (.v (.bool true))
  | .ff=>.d (.v (.bool false))
  | .fs aa=>.d (.sl aa)
  | .d (.v (.slice none 0 0))=>bif nz then .d (.sl [])else .d (.v (.slice none 0 0))
  | .d y=>.d y
  | .any=>.any
section
variable {S0:Nat->Prop} {φ:List bI} {objs:List Ob} {w:World}
theorem acD{S:Nat->Prop}{n0 i s sz s':Nat}{aa:List (List D)}{v:Value}(hs:HS S0 φ objs w)(hv:RV S w φ (.ow i s) v)(ho:dq objs i=some (.arr sz s' aa))(Rk:s=s'){φ':List bI}
  (Ah:∀b p,φ[i]? = some p->p.bl b->SS S0 φ' b) (hk:dL (SS S0 φ) w (SS S0 φ') w) :
  Rd (SS S0 φ') w (.sl aa) v:=by
 simp only[RV]at hv;obtain⟨_,ph,fj,hx⟩:=hv;have aI:=cO hs fj ho;cases ph<;>try (simp only[bj]at aI;done)
 rename_i Jy s2 v2 Hp;simp only[bj]at aI;obtain⟨rfl,he,a8,aI⟩:=aI;obtain⟨_,hx⟩:=hx _ _ _ _ rfl;have hx:=hx aq;subst hx;rcases aI with ⟨a2,rfl,rfl,_⟩|⟨b,o,cap,cs,T,rfl,rfl,bg,hn,su,hle,uK⟩
 exact .nil _ _;refine Rd.sl (sz:=sz) (λi j=>(cs[o+i*sz+j]?).getD undef) (Ah b _ fj rfl) bg hn su (λi r hi=>a8 r (sq hi)) (λi r j x hi hj=>?_) (λi r j x hi hj=>?_);grind;obtain ⟨y,h1,h2⟩:=uK i r j x hi hj;rw[h1];exact h2.mono hk
theorem K0(hJ:∀b,eH φ b->S0 b)(hs:HS S0 φ objs w)(n0:Nat):∀(n:Nat) (nz:Bool) (x:AV) (v:Value),RV (SS S0 φ) w φ x v->RV (SS S0 (φ.take n0)) w (φ.take n0) (bZ nz n0 objs n x) v:=by
 have hp:∀i,i<n0->(φ.take n0)[i]? = φ[i]? := λi hi=>rP hi
 have Yn:∀b,eH (φ.take n0) b->∃j p,j<n0/\φ[j]? = some p/\p.bl b:=by rintro b ⟨i,p,g1,g2⟩;grind
 have bF:dL (SS S0 φ) w (SS S0 (φ.take n0)) w:=λb hb _=>⟨⟨hb.1,λhc=>by obtain⟨j,p,_,h1,h2⟩:=Yn b hc;exact hb.2 ⟨j,p,h1,h2⟩⟩,rfl⟩
 have Ah:∀{i:Nat},¬ i<n0->∀b p,φ[i]? = some p->p.bl b->SS S0 (φ.take n0) b:=λ{i} hi b p h1 h2=>⟨hJ b ⟨i,p,h1,h2⟩,λhc=>by obtain⟨j,q,h3,h4,h5⟩:=Yn b hc;have:=hs.jO i j p q b h1 h4 h2 h5;omega⟩
 have amK:∀{i:Nat},Nat.ble (Nat.succ i) n0=false->¬ i<n0:=λ{i} h hc=>by have:Nat.ble (Nat.succ i) n0=true:=Xh hc;simp_all
 intro n;induction n with
 |zero=>intro nz x v _;simp[bZ,RV]
 |succ n ih=>
  intro nz x v hx;simp only[bZ];split
  case h_1 l=>simp only[RV]at hx ⊢;exact al7
  case h_2 l=>simp only[RV]at hx ⊢;exact al7
  case h_3 f a c=>simp only[RV]at hx ⊢;obtain⟨va,vc,h1,h2,h3⟩:=hx;exact⟨va,vc,h1,h2.map' _ λx v h=>ih nz x v h,h3.map' _ λx v h=>ih nz x v h⟩
  case h_4 i s=>cases hi:Nat.ble (Nat.succ i) n0;simp only [cond_false];split;rename_i sz s' aa ho;cases Rk:Nat.beq s s';simp[RV];simp only [cond_true,RV];exact acD (n0:=n0) hs hx ho (cB Rk) (Ah (amK hi)) bF;simp[RV];simp only [cond_true,RV]at hx ⊢;rw[hp i (ko hi)];exact hx
  case h_5 i off=>
   cases hi:Nat.ble (Nat.succ i) n0;simp only [cond_false];split;rename_i l ho;split;rename_i ds kx;simp only[RV]at hx;obtain⟨b,hb,rfl⟩:=hx;have hk:=cO hs hb ho;simp only[bj]at hk;obtain⟨cs,T,bg,lM⟩:=hk;have h1:=lM.map' (bZ true n0 objs n) λx v h=>ih true x v h
   have h2:=pP h1 kx;simp only[RV];refine Rd.bL (λj=>(cs[off+j]?).getD undef) (Ah (amK hi) b _ hb rfl) bg (λj x hj=>?_) (λj x hj=>?_);obtain ⟨u,h3,_⟩:=h2.get (off+j) (x:=.d x) ir;simp[h3];obtain ⟨u,h3,h4⟩:=h2.get (off+j) (x:=.d x) ir;rw[h3];simpa[RV]using h4;simp[RV];simp[RV];simp only [cond_true,RV]at hx ⊢;rw[hp i (ko hi)];exact hx
  case h_6 i=>cases hi:Nat.ble (Nat.succ i) n0;simp[RV];simp only [cond_true,RV]at hx ⊢;rw[hp i (ko hi)];exact hx
  case h_7 i=>cases hi:Nat.ble (Nat.succ i) n0;simp[RV];simp only [cond_true,RV]at hx ⊢;rw[hp i (ko hi)];exact hx
  case h_8 i s r j=>cases hi:Nat.ble (Nat.succ i) n0;simp[RV];simp only [cond_true,RV]at hx ⊢;rw[hp i (ko hi)];exact hx
  case h_9 i s r=>cases hi:Nat.ble (Nat.succ i) n0;simp[RV];simp only [cond_true,RV]at hx ⊢;rw[hp i (ko hi)];exact hx
  case h_10=>simp only[RV]at hx ⊢;subst hx;exact .v _
  case h_11=>simp only[RV]at hx ⊢;subst hx;exact .v _
  case h_12=>simp only[RV]at hx ⊢;exact hx.1.mono bF
  case h_13=>cases nz;simp only[cond_false,RV]at hx ⊢;exact hx.mono bF;simp only[cond_true,RV]at hx ⊢;cases hx;exact .nil _ _
  case h_14=>simp only[RV]at hx ⊢;exact hx.mono bF
  case h_15=>simp[RV]
end
section
variable {g:G} {pf:Nat->cI}
def Ac (g:G)(fn:Func)(r:AV)(bc:List Ob):Exit->Act->World->Prop :=bodyPostM g.F g.dep g.P fn λe w'=>∃v φ',e=.returned v/\RV (SS g.S0 φ') w' φ' r v/\j8 g.S0 g.φ0 g.w0 φ' bc w'
theorem AL(hg:GS g b7)(jP:g.rZ=[]){av:AV}(n0 n:Nat)(qI:b7.length<=n0)(nK:oK g.ty E objs fn.results.toList=some av){a:Act}{w:World}(hs:fi g E objs a w) :
  Ac g fn (bZ true n0 objs n av) ((objs.take n0).map (aR (bZ false n0 objs n))) .ret a w/\Ac g fn (bZ true n0 objs n av) ((objs.take n0).map (aR (bZ false n0 objs n))) .normal a w:=by
 suffices hl:LeavesInM g.F g.dep g.P fn a.tmps (λe w'=>∃v φ',e=.returned v/\RV (SS g.S0 φ') w' φ' (bZ true n0 objs n av) v/\j8 g.S0 g.φ0 g.w0 φ' ((objs.take n0).map (aR (bZ false n0 objs n))) w') a.defers .returning w from⟨hl,hl⟩
 refine FC jP (E:=E) (objs:=objs) (λtmps w fk=>?_) a w hs;clear hs;have hs:=fk;obtain⟨φ,h1,h2,h3,h4,h5,h6⟩:=hs;obtain⟨vv,h7,h8⟩:=KL hg.ok.ty h1 h3 nK;have hJ:∀b,eH φ b->g.S0 b:=λb hb=>(h2 b hb).elim (hg.cm.up b) (hg.cm.x b)
 have h9:=K0 hJ h1 n0 n true av vv h8;have hp:∀i,i<n0->(φ.take n0)[i]? = φ[i]? := λi hi=>rP hi
 have Yn:∀b,eH (φ.take n0) b->eH φ b:=by
  rintro b ⟨i,p,g1,g2⟩;have hi:i<n0:=by have:=(fu.1 g1).1;simp at this;omega
  exact⟨i,p,by rw[<-hp i hi];exact g1,g2⟩
 have cY:j8 g.S0 g.φ0 g.w0 (φ.take n0) ((objs.take n0).map (aR (bZ false n0 objs n))) w:=by
  refine⟨h1.KS (bZ false n0 objs n) (by simp[h1.len]) (λi p b hi hb=>⟨p,?_,hb⟩) (λi pO hi=>.inr (.inl ?_)) (K0 hJ h1 n0 n false),.of λb hb HG=>?_,λi p hi=>?_,h6.size,h6.os,h6.tape,h6.out,λb hb hn=>h6.fr b hb λhc=>hn (hg.x b hc),λb hb=>?_,λi l I B hi=>?_⟩;have Ah:i<n0:=by have:=(fu.1 hi).1;simp at this;omega
  rw[<-hp i Ah];exact hi;have Ah:i<n0:=by have:=(fu.1 hi).1;simp at this;omega
  rw[fP,rP Ah]at hi;cases ho:objs[i]? with
  |none=>rw[ho]at hi;cases hi
  |some ob=>rw[ho]at hi;exact⟨ob,rfl,hp i Ah,by simpa using hi.symm⟩
  refine ⟨⟨hb.1,λhc=>?_⟩,h6.fr b HG λhc=>hb.2 (hg.x b hc)⟩;rcases h2 b (Yn b hc)with h|h
  omega;exact hb.2 (hg.x b h);obtain ⟨p',mH,Yl⟩:=h6.le i p hi;exact⟨p',by rw[hp i (Kc (fu.1 hi).1 (by rw[hg.kh.len];exact qI))];exact mH,Yl⟩;exact(h2 b (Yn b hb)).symm.imp (hg.x b) id;have Ah:i<n0:=by have:=(fu.1 hi).1;simp at this;omega
  rw[hp i Ah]at hi;exact h6.gen i l I B hi
 grind
theorem aL(hg:GS g b7){k:List It}{objs bc:List Ob}{av r:AV}(n0 n:Nat)(qI:b7.length<=n0)(nK:oK g.ty E objs fn.results.toList=some av)(hr:bZ true n0 objs n av=r)(ho:(objs.take n0).map (aR (bZ false n0 objs n))=bc)(jP:g.rZ=[]:=by rfl):R g pf (Ac g fn r bc) (.code .ret::k) E objs:=by subst hr;subst ho;intro _ a w hs;exact wpIn_ret (qM k (AL hg jP n0 n qI nK hs).1)
theorem mq(hg:GS g b7){objs bc:List Ob}{av r:AV}(n0 n:Nat)(qI:b7.length<=n0)(nK:oK g.ty E objs fn.results.toList=some av)(hr:bZ true n0 objs n av=r)(ho:(objs.take n0).map (aR (bZ false n0 objs n))=bc)(jP:g.rZ=[]:=by rfl):R g pf (Ac g fn r bc) [] E objs:=by subst hr;subst ho;intro _ a w hs;exact(AL hg jP n0 n qI nK hs).2
theorem aU.ej{P:Program}{ty:Nat->Option Ty}{Y:YP}{f:Nat}{fn:Func}{cd:Code}{args:List AV}{objs bc:List Ob}{r:AV}(gv:jE P ty)(hm:P.follows .mixedOrders=true)(hf:P.funcs[f]? = some fn)(hb:fn.body=some cd)
  (hn:(fn.name == "runtime.NumGoroutine")=false) (dA:fI pf cd=true) (hN:args.length≤fn.ntmps) (a8:objs.length≤bc.length)
  (h:∀(w:World) (S:Nat->Prop) (φ:List bI),GS (Ko P ty fn.ntmps w S φ Y) objs->R (Ko P ty fn.ntmps w S φ Y) pf (Ac (Ko P ty fn.ntmps w S φ Y) fn r bc) [.code cd] (l3 args 0) objs):aU P Y f args objs r bc:=by
 refine⟨jc hf hb hn,λS φ w bS ha V0 hJ hY hv=>?_,a8⟩;have hg:GS (Ko P ty fn.ntmps w S φ Y) objs:=⟨⟨λ_=>trivial,(ha.at0 λ_ h=>h.2).jj λ_ h _=>⟨⟨h.1.1,h.2⟩,rfl⟩,rfl,rfl,gv,hm⟩,⟨rfl,rfl⟩,V0,λ_ h=>h,hJ,hY⟩;have a8:=hv.length;refine callsIn_wide.1 (callsIn_of_wp_marks (F:=Fence.wide) (n:=0) hf hb trivial ?_)
 have hs:fi (Ko P ty fn.ntmps w S φ Y) (l3 args 0) objs {tmps:=bS.toArray++Array.replicate (fn.ntmps-bS.toArray.size) undef,defers:=[]} w:=by
  refine⟨φ,V0,λb hb=>.inr hb,λt=>?_,by simp[Ko];omega,.none rfl ⟨λ_=>rfl,.nil,by simp⟩,⟨eT _,rfl,rfl,rfl,λ_ _ _=>rfl,λi l I B h=>⟨B,h⟩,.refl _⟩⟩;rw[wJ];simp only[Xa,if_false,TE];cases ha:args[t]? with
  |none=>simp[RV]
  |some x=>exact mB8
 have hR:=RK.ej (pf:=pf) (k:=[.code cd]) ⟨dA,trivial⟩ (h w S φ hg) aD _ _ hs;refine wpIn_mono hR ?_;intro e a' w' hk;cases e<;>exact hk
end
end ax
namespace ax
open Go Go.RowKit
variable{objs b7 bc:List Ob}{fn:Func}{E:bq}{r:AV}
structure EH (P:Program) (Y:YP) (f:Nat) (args:List AV) (objs:List Ob) (r:AV) (bc:List Ob):Prop where
 call:sC P f
 run:∀(S:Nat->Prop) (φ:List bI) (w:World) (bS:List Value) (u:FrameMode),gI P (SS S φ) w->HS S φ objs w->(∀b,eH φ b->S b)->(∀(i l:Nat) (I:Nat->(Nat->Prop)->(Nat->Prop)->World->Prop) (B:Nat->Prop),φ[i]? = some (bI.ext l I B)->l5 P Fence.wide 0 Y l I S)->aW (SS S φ) w φ args bS ->
  CallsDIn Fence.wide 0 P f bS.toArray u w λe u' w'=>u'=u/\∃v φ',e=.returned v/\RV (SS S φ') w' φ' r v/\j8 S φ w φ' bc w'
 len:objs.length<=bc.length
section
variable {g:G} {pf:Nat->cI}
def B4 (g:G)(fn:Func)(r:AV)(bc:List Ob):Exit->Act->World->Prop:=λe a w=>Ac g fn r bc e a w/\a.defers=[]
theorem RG(hg:GS g b7)(jP:g.rZ=[])(hm:g.XN=false){av:AV}(n0 n:Nat)(qI:b7.length<=n0)(nK:oK g.ty E objs fn.results.toList=some av){a:Act}{w:World}(hs:fi g E objs a w) :
  B4 g fn (bZ true n0 objs n av) ((objs.take n0).map (aR (bZ false n0 objs n))) .ret a w/\B4 g fn (bZ true n0 objs n av) ((objs.take n0).map (aR (bZ false n0 objs n))) .normal a w:=by
 have h:=AL hg jP n0 n qI nK hs;have hd:a.defers=[]:=by obtain⟨φ,h1,h2,h3,h4,h5,h6⟩:=hs;exact(h5.only jP).1 hm
 exact⟨⟨h.1,hd⟩,⟨h.2,hd⟩⟩
theorem aii(hg:GS g b7){k:List It}{av r:AV}(n0 n:Nat)(qI:b7.length<=n0)(nK:oK g.ty E objs fn.results.toList=some av)(hr:bZ true n0 objs n av=r)(ho:(objs.take n0).map (aR (bZ false n0 objs n))=bc)(jP:g.rZ=[]:=by rfl)(hm:g.XN=false:=by rfl):R g pf (B4 g fn r bc) (.code .ret::k) E objs:=by subst hr;subst ho;intro _ a w hs;exact wpIn_ret (qM k (RG hg jP hm n0 n qI nK hs).1)
theorem N7(hg:GS g b7){av r:AV}(n0 n:Nat)(qI:b7.length<=n0)(nK:oK g.ty E objs fn.results.toList=some av)(hr:bZ true n0 objs n av=r)(ho:(objs.take n0).map (aR (bZ false n0 objs n))=bc)(jP:g.rZ=[]:=by rfl)(hm:g.XN=false:=by rfl):R g pf (B4 g fn r bc) [] E objs:=by subst hr;subst ho;intro _ a w hs;exact(RG hg jP hm n0 n qI nK hs).2
def Bw (P:Program)(ty:Nat->Option Ty)(N:Nat)(w:World)(S:Nat->Prop)(φ:List bI)(Y:YP):G:={Ko P ty N w S φ Y with XN:=false}
theorem EH.ej{P:Program}{ty:Nat->Option Ty}{Y:YP}{f:Nat}{fn:Func}{cd:Code}{args:List AV}{objs bc:List Ob}{r:AV}(gv:jE P ty)(hm:P.follows .mixedOrders=true)(hf:P.funcs[f]? = some fn)(hb:fn.body=some cd)
  (hn:(fn.name == "runtime.NumGoroutine")=false) (dA:fI pf cd=true) (hN:args.length≤fn.ntmps) (a8:objs.length≤bc.length)
  (h:∀(w:World) (S:Nat->Prop) (φ:List bI),GS (Bw P ty fn.ntmps w S φ Y) objs->R (Bw P ty fn.ntmps w S φ Y) pf (B4 (Bw P ty fn.ntmps w S φ Y) fn r bc) [.code cd] (l3 args 0) objs):EH P Y f args objs r bc:=by
 refine⟨jc hf hb hn,λS φ w bS u ha V0 hJ hY hv=>?_,a8⟩;have hg:GS (Bw P ty fn.ntmps w S φ Y) objs:=⟨⟨λ_=>trivial,(ha.at0 λ_ h=>h.2).jj λ_ h _=>⟨⟨h.1.1,h.2⟩,rfl⟩,rfl,rfl,gv,hm⟩,⟨rfl,rfl⟩,V0,λ_ h=>h,hJ,hY⟩;have a8:=hv.length;refine callsDIn_of_wp (F:=Fence.wide) (n:=0) hf hb trivial ?_;have hs:fi (Bw P ty fn.ntmps w S φ Y) (l3 args 0) objs {tmps:=bS.toArray++Array.replicate (fn.ntmps-bS.toArray.size) undef,defers:=[]} w:=by exact al9
 have hR:=RK.ej (pf:=pf) (k:=[.code cd]) ⟨dA,trivial⟩ (h w S φ hg) aD _ _ hs;refine wpIn_mono hR ?_;intro e a' w' hk;cases e with
 |normal=>have hk:B4 _ fn r bc .normal a' w':=hk;exact al2
 |ret=>have hk:B4 _ fn r bc .ret a' w':=hk;exact al2
 |panic chain=>have hk:B4 _ fn r bc (.panic chain) a' w':=hk;obtain⟨h1,h2⟩:=hk;simp only[Ac,bodyPostM,h2,LeavesInM,LeavesIn]at h1;simp_all
 |exit i=>exact(hk:B4 _ fn r bc (.exit i) a' w').1.elim
 |goto l=>exact(hk:B4 _ fn r bc (.goto l) a' w').1.elim
 |outgrown=>have hk:B4 _ fn r bc .outgrown a' w':=hk;obtain⟨v,φ',h,_⟩:=hk.1;cases h
theorem aU.agd{P:Program}{ty:Nat->Option Ty}{Y:YP}{f:Nat}{cd:Code}{args:List AV}(gv:jE P ty)(hm:P.follows .mixedOrders=true)(hf:P.funcs[f]? = some fn)(hb:fn.body=some cd)
  (hn:(fn.name == "runtime.NumGoroutine")=false) (dA:fI pf cd=true) (hN:args.length≤fn.ntmps) (a8:objs.length≤bc.length)
  (h:∀(w:World) (S:Nat->Prop) (φ:List bI),GS (Bw P ty fn.ntmps w S φ Y) objs->R (Bw P ty fn.ntmps w S φ Y) pf (Ac (Bw P ty fn.ntmps w S φ Y) fn r bc) [.code cd] (l3 args 0) objs):aU P Y f args objs r bc:=by
 refine⟨jc hf hb hn,λS φ w bS ha V0 hJ hY hv=>?_,a8⟩;have hg:GS (Bw P ty fn.ntmps w S φ Y) objs:=⟨⟨λ_=>trivial,(ha.at0 λ_ h=>h.2).jj λ_ h _=>⟨⟨h.1.1,h.2⟩,rfl⟩,rfl,rfl,gv,hm⟩,⟨rfl,rfl⟩,V0,λ_ h=>h,hJ,hY⟩;have a8:=hv.length;refine callsIn_wide.1 (callsIn_of_wp_marks (F:=Fence.wide) (n:=0) hf hb trivial ?_);have hs:fi (Bw P ty fn.ntmps w S φ Y) (l3 args 0) objs {tmps:=bS.toArray++Array.replicate (fn.ntmps-bS.toArray.size) undef,defers:=[]} w:=by exact al9
 have hR:=RK.ej (pf:=pf) (k:=[.code cd]) ⟨dA,trivial⟩ (h w S φ hg) aD _ _ hs;refine wpIn_mono hR ?_;intro e a' w' hk;cases e<;>exact hk
def FM (g:G)(l:List (Nat×List AV×List AV)):G:={g with rZ:=l}
theorem GS.sw(h:GS g b7)(l:List (Nat×List AV×List AV)):GS (FM g l) b7:=⟨⟨h.ok.fn,h.ok.amb,h.ok.depth,h.ok.alive,h.ok.ty,h.ok.mixed⟩,h.wide,h.kh,h.x,h.bl,h.Y⟩
def Lv (g:G)(fn:Func)(r:AV)(bc:List Ob)(l:List (Nat×List AV×List AV))(E:bq)(objs:List Ob):Prop :=∀(ds:List Deferred) (tmps:Array Value) (w:World),N3 (FM g l) E objs tmps [] ds w->LeavesInM g.F g.dep g.P fn tmps (λe w'=>∃v φ',e=.returned v/\RV (SS g.S0 φ') w' φ' r v/\j8 g.S0 g.φ0 g.w0 φ' bc w') ds .returning w
theorem Lv.nil{b7:List Ob}(hg:GS g b7){fn:Func}{E:bq}{objs bc:List Ob}{av r:AV}(n0 n:Nat)(qI:b7.length<=n0)(nK:oK g.ty E objs fn.results.toList=some av)(hr:bZ true n0 objs n av=r)(ho:(objs.take n0).map (aR (bZ false n0 objs n))=bc):Lv g fn r bc [] E objs:=by subst hr;subst ho;intro ds tmps w hs;obtain⟨φ,h1,h2,h3,h4,h5,h6,h7⟩:=hs;have:=h7.nil;subst this;exact(AL (g:=FM g []) (hg.sw []) rfl n0 n qI nK (a:={tmps:=tmps,defers:=[]}) ⟨φ,h1,h2,h3,h4,.none rfl h5,⟨h6.size,h6.os,h6.tape,h6.out,h6.fr,h6.gen,h6.le⟩⟩).1
theorem Lv.cons{b7:List Ob}(hg:GS g b7){fn:Func}{E:bq}{objs bc objs':List Ob}{r:AV}{l:List (Nat×List AV×List AV)}{f:Nat}{fs cs:List AV}(is:List Nat){Y:YP}{dW:List AV}{o0 o1:List Ob}{q:AV}(hc:EH g.P Y f dW o0 q o1)(vj:(∃(i l:Nat) (I:Nat->(Nat->Prop)->(Nat->Prop)->World->Prop) (B:Nat->Prop),g.φ0[i]? = some (bI.ext l I B))->Y=g.Y)
  (dA:isOk (len objs) is=true) (jS:fM objs is=some (o0.map (bG (rn is (len objs))))) (has:(fs++cs).map lO=iH (rn is (len objs)) dW) (ho:db is (o1.map (bG (rn is (len objs)))) objs=objs')
  (hr:Lv g fn r bc l E objs'):Lv g fn r bc ((f,fs,cs)::l) E objs:=by
 subst ho;intro ds tmps w hs;obtain⟨φ,h1,h2,h3,h4,h5,h6,h7⟩:=hs;cases ds with
 |nil=>simp[FM,wL]at h7
 |cons d ds=>
  have h7:wL (SS g.S0 φ) w φ ((f,fs,cs)::l) (d::ds):=h7;simp only[wL]at h7;obtain⟨⟨va,vc,rfl,hva,hvc⟩,h8⟩:=h7;have ez:=(hva.append hvc).qK lO bJ.lO;rw[has]at ez;have hu:=hg.cm;obtain⟨S,φ0,gA,g1,g2,g3,g4,g5⟩:=BV (hg.ok.Fv h2 ⟨h6.size,h6.os,h6.tape,h6.out,h6.fr,h6.gen,h6.le⟩) hu hg.Y is hc.len vj dA jS h1 h2 ⟨h6.size,h6.os,h6.tape,h6.out,h6.fr,h6.gen,h6.le⟩ ez;have fC:=hc.run S φ0 w _ .returning gA g1 g2 g3 g4;simp only[LeavesInM];have hF:=hg.wide.1;have hd:=hg.wide.2;refine⟨by simp,.inr ⟨λh=>(by rw[hF]at h;cases h),.func f,vc.toArray,f,(va++vc).toArray,rfl,?_,λ_ _=>hg.ok.fn _,?_⟩⟩;simp only [invoke];rw[show va.toArray++vc.toArray=(va++vc).toArray by simp];exact hc.call _ _;rw [hF,hd];refine fC.mono ?_;rintro e u' w' ⟨rfl,v,φ1,rfl,hv,cY⟩;obtain⟨φ',l6,_⟩:=g5 w' φ1 v hv cY;simp only[settle];have:=hr ds tmps w' ⟨φ',l6.hs,λb hb=>?_,λt=>(h3 t).mono l6.jj l6.le,h4,h5.Rc l6,⟨vd h6.size l6.size,l6.os.trans h6.os,l6.tape.trans h6.tape,l6.out.trans h6.out,λb hb hx=>?_,λi l I B hi=>?_,h6.le.trans l6.le⟩,h8.mono l6.jj l6.le⟩;simp_all;rcases l6.own b hb with h| h
  exact h2 b h;left;have:=h6.size;simp only[FM]at this ⊢;omega;rw [l6.fr b (Kc hb h6.size) λhc=>?_];exact h6.fr b hb hx;rcases h2 b hc with h| h
  have:b<g.w0.heap.size:=hb;simp only[FM]at h;omega;exact hx h;obtain ⟨B0,h⟩:=l6.ext i l I B hi;exact h6.gen i l I B0 h
theorem aij{k:List It}(hl:Lv g fn r bc g.rZ E objs):R g pf (Ac g fn r bc) (.code .ret::k) E objs:=by intro _ a w hs;refine wpIn_ret (qM k ?_);exact alN
theorem Yo(hl:Lv g fn r bc g.rZ E objs):R g pf (Ac g fn r bc) [] E objs:=by intro _ a w hs;exact alN
end
end ax
namespace ax
open Go Go.RowKit
section
variable {g:G} {pf:Nat->cI} {ad:Array Oper} {Fin:Exit->Act->World->Prop}
theorem acE {b7:List Ob}(hgs:GS g b7){dst:Option Nat}{x:Operand}{args:Array Operand}{ts:Array Nat}{ty:Nat}{pos:String}{after:Array Edge}{gd:Option (Nat×Bool)}
  {az:List Oper} {k:List It} {E:bq} {objs:List Ob} {i n:Nat} {avs:List AV}
  (bt:aH ad.toList E gd=some true) (hd:aQ ⟨g.ty,g.N⟩ dst=true) (dK:bQ pf (.call {callee:=.value x,args:=args,argTypes:=ts})=.jz) (hx:ev E x=.yl i) (ho:dq objs i=some (.Ju n))
  (has:(args.toList.map (ev E)).map lO=avs) (hp:lh avs=true) (hy:g.Y.ys[n]? = some avs) (yb:n=0\/g.Y.go n=true)
  (hr:R g pf Fin (.dr ad az::k) (bh E dst (bV (g.Y.go (n+1)))) (dj objs i (.Ju (n+1)))) :
  R g pf Fin (.dr ad (⟨dst,.call {callee:=.value x,args:=args,argTypes:=ts},ty,pos,after,gd⟩::az)::k) E objs:=by
 refine cU ?_ hr;show aK g ad _ E objs (bQ pf (.call {callee:=.value x,args:=args,argTypes:=ts})) _ _
 rw[dK];have hg:=hgs.ok;refine⟨λh=>absurd rfl (h _),(λb h hb=>by cases h;omega),λE₁ o₁ jF a w he hoo hs Q=>?_⟩;rcases hoo with ⟨h,_⟩|⟨_,h,_⟩|⟨ov,uN⟩
 cases h;cases h;subst ov;subst uN;obtain⟨φ,h1,h2,h3,h4,h5,h6⟩:=hs;rw[nj (cT bt) he h3];simp only[if_true];refine⟨pS hg _ w a,?_⟩;have hρ:=ly (o:=⟨dst,.call {callee:=.value x,args:=args,argTypes:=ts},ty,pos,after,gd⟩) he h3;simp only[Op.operands,Call.operands]at hρ;have aP:=hρ x aD;rw[hx]at aP;simp only[RV]at aP;obtain⟨l,I,B,hφ,aP⟩:=aP;have mK:aW (SS g.S0 φ) w φ (args.toList.map (ev E)) (args.toList.map a.eval):=aW.map _ _ _ λy hy=>hρ y iS
 have ez:=mK.qK lO bJ.lO;rw[has]at ez;have amN:=aW.pure (φ':=[]) (dL.refl _ _) hp ez;have hk:=cO h1 hφ ho;simp only[bj]at hk;obtain⟨B0,hg0⟩:=h6.gen i l I B hφ;have hbB:∀b,B b->eH φ b:=λb hb=>⟨i,_,hφ,hb⟩
 obtain ⟨fn,tmps,assign,body,hyr,N5⟩:=hgs.Y i l I B0 hg0 n B w (SS g.S0 φ) avs _ hk.2 (λb hb=>⟨hb.1,λhc=>hb.2 (hbB b hc)⟩) (hg.Fv h2 h6)
  (λb hb=>⟨h1.up b hb,λhc=>by have:=h1.lt b hc;omega⟩) hy yb amN hp
 have fo:(execOp a.eval ⟨dst,.call {callee:=.value x,args:=args,argTypes:=ts},ty,pos,after,gd⟩).run g.P w=.ok (.round l fn tmps assign body) w:=by
  have h7:(resolve a.eval {callee:=.value x,args:=args,argTypes:=ts} ty).run g.P w=.ok {target:=.fn (.yield l) #[],args:=(args.toList.map a.eval).toArray} w:=by simp only[resolve,aP,Deferred.ofValue,Sem.run_bind,Sem.run_pure,Result.andThen_ok];congr 2;apply NM.1;simp
  simp only[execOp,Sem.run_bind,h7,Result.andThen_ok,invoke];exact hyr
 rw[Oper.semAt_eq _ _ _ aD,fo];refine⟨λh=>by rw[hg.depth]at h;simp at h,?_⟩;obtain⟨hF,hd0⟩:=hgs.wide;rw[hF,hd0];refine N5.mono ?_;rintro e w' ⟨rfl,B',hI,hsz,hos,KN,jb,hfr,hB'⟩;have fE:i<φ.length:=(fu.1 hφ).1
 have cY:j8 g.S0 φ w (φ.set i (.ext l I B')) (o₁.set i (.Ju (n+1))) w':=by
  refine j8.swap h1 hφ (.inr (.inr (.inr (.inl ⟨_,_,_,_,rfl,rfl⟩)))) hsz (λc hc hn=>hfr c hc hn) (λb hb=>hB' b hb) hos KN jb (λbF _=>?_) (λl' I' B'' he=>by simp_all);simp only[bj];refine⟨hk.1,hk.1 _ _ _ _ _ _ cZ (λ_ _=>rfl) (λb hb _=>⟨?_,rfl⟩) hI⟩;refine⟨hb.1.1,λhc=>?_⟩;rcases lP hc with ⟨j,q,hj,g1,g2⟩|g1
  exact hb.1.2 ⟨j,q,g1,g2⟩;exact hb.2 g1
 have acB:=fi.Rc (v:=bV (g.Y.go (n+1))) (vv:=.bool (g.Y.go (n+1))) h2 h3 h4 h5 h6 cY (dI hd) λ_=>by simp only[RV,bV];exact .v _
 rw[bx];exact acB
end
end ax
namespace ax
open Go Go.RowKit
variable{objs:List Ob}{E:bq}{φ:List bI}{w:World}{k:List It}{g:G}
structure HC (R:Nat->Prop) (φ:List bI) (objs:List Ob) (w:World):Prop where
 len:φ.length=objs.length
 ok:∀(i:Nat) (ph:bI) (ob:Ob),φ[i]? = some ph->objs[i]? = some ob->bj R w φ ph ob
 jO:aco φ
 lt:∀b,eH φ b->b<w.heap.size
theorem HS.hc{S0:Nat->Prop}(h:HS S0 φ objs w):HC (SS S0 φ) φ objs w:=⟨h.len,h.ok,h.jO,h.lt⟩
theorem HC.mono{R R':Nat->Prop}{φ:List bI}{objs:List Ob}{w w':World}(h:HC R φ objs w)(hsz:w.heap.size<=w'.heap.size)(hk:dL R w R' w')(hb:∀b,eH φ b->w'.heap[b]? = w.heap[b]?):HC R' φ objs w' :=⟨h.len,λi ph ob h1 h2=>(h.ok i ph ob h1 h2).mono hk (.refl _) hsz λb uL=>hb b ⟨i,ph,h1,uL⟩,h.jO,λb uL=>Kc (h.lt b uL) hsz⟩
theorem HC.hs{S0:Nat->Prop}(h:HC (SS S0 φ) φ objs w)(T4:∀b,w.heap.size<=b->S0 b):HS S0 φ objs w:=⟨h.len,h.ok,h.jO,h.lt,T4⟩
def kz (g:G)(l:Nat)(w:World)(R X:Nat->Prop)(φ0:List bI):G :={P:=g.P,F:=Fence.wide.inRound l,dep:=0,ty:=g.ty,N:=g.N,w0:=w,S0:=R,X0:=X,φ0:=φ0,Y:=⟨[],λ_=>true⟩,XN:=false}
theorem th(hg:di g)(l:Nat)(w:World)(R X:Nat->Prop)(φ0:List bI)(ha:gI g.P (λb=>R b/\¬ X b/\b<w.heap.size) w):di (kz g l w R X φ0):=⟨λ_=>trivial,ha,rfl,rfl,hg.ty,hg.mixed⟩
def HJ:List AV->List AV->Prop|[],[]=>True|x::l,y::m=>bJ x y/\HJ l m|_,_=>False
def jB:Ob->Ob->Prop| .box l,.box m=>HJ l m|_,.dead=>True|a,b=>a=b
def wX:List Ob->List Ob->Prop|[],[]=>True|a::l,b::m=>jB a b/\wX l m|_,_=>False
theorem HJ.rvs{S:Nat->Prop}{w:World}{φ:List bI}:∀{l m:List AV} {vs:List Value},HJ l m->aW S w φ l vs->aW S w φ m vs|[],[],_,_,h=>h|[],_::_,_,h,_=>by simp[HJ]at h|_::_,[],_,h,_=>by simp[HJ]at h|x::l,y::m,[],_,h=>by simp[aW]at h|x::l,y::m,v::vs,h,hv=>by simp only[HJ]at h;simp only[aW]at hv ⊢;exact⟨h.1 _ _ _ _ hv.1,h.2.rvs hv.2⟩
theorem jB.ok{S:Nat->Prop}{ph:bI}{a b:Ob}(h:jB a b)(ho:bj S w φ ph a):bj S w φ ph b:=by
 unfold jB at h;split at h;cases ph <;> simp only [bj]at ho ⊢
 obtain⟨cs,T,h1,h2⟩:=ho;exact⟨cs,T,h1,h.rvs h2⟩;simp only[bj];simp_all
theorem wX.get:∀{l m:List Ob},wX l m->l.length=m.length/\∀(i:Nat) (b:Ob),m[i]? = some b->∃a,l[i]? = some a/\jB a b|[],[],_=>⟨rfl,by simp⟩|[],_::_,h=>by simp[wX]at h|_::_,[],h=>by simp[wX]at h|x::l,y::m,h=>by simp only[wX]at h;obtain⟨h1,h2⟩:=h.2.get;grind
theorem fi.obs{objs objs':List Ob}{a:Act}(h:wX objs objs')(hs:fi g E objs a w):fi g E objs' a w:=by obtain⟨φ,h1,h2⟩:=hs;obtain⟨h3,h4⟩:=h.get;exact⟨φ,⟨h1.len.trans h3,λi ph b hi hb=>by obtain⟨a,h5,h6⟩:=h4 i b hb;exact h6.ok (h1.ok i ph a hi h5),h1.jO,h1.lt,h1.up⟩,h2⟩
theorem jB.refl(a:Ob):jB a a:=by
 cases a<;>simp only[jB]
 rename_i l;induction l with
 |nil=>simp[HJ]
 |cons x l ih=>exact⟨.refl x,ih⟩
theorem uI{pf:Nat->cI}{Fin:Exit->Act->World->Prop}(objs':List Ob)(h:wX objs objs')(ht:gM k=true)(hr:R g pf Fin k E objs'):R g pf Fin k E objs :=mT ht (λ_ _ hs=>hs.obs h) hr
def amP (g:G) (E:bq) (objs:List Ob):Exit->Act->World->Prop| .normal,a,w=>fi g E objs a w|_,_,_=>False
def ail (g:G) (objs:List Ob) (go:Bool) (jmp:Code):Exit->Act->World->Prop| .normal,a,w=>go=true/\∃E,fi g E objs a w| .ret,a,w=>go=false/\jmp=.ret/\∃E,fi g E objs a w| .exit id,a,w=>go=false/\jmp=.exit id/\∃E,fi g E objs a w|_,_,_=>False
section
variable {g:G} {pf:Nat->cI} {Fin:Exit->Act->World->Prop}
theorem N8{E E1:bq}{objs bc:List Ob}(hE:oJ E E1)(ho:objs=bc):R g pf (amP g E1 bc) [] E objs:=by subst ho;exact λ_ a w hs=>hs.Ag hE.T3
theorem yj{objs bc:List Ob}{go:Bool}{jmp:Code}(yb:go=true)(ho:objs=bc):R g pf (ail g bc go jmp) [] E objs:=by subst ho;exact λ_ a w hs=>⟨yb,E,hs⟩
theorem N9{objs bc:List Ob}{go:Bool}{jmp:Code}(yb:go=false)(hj:jmp=.ret)(ho:objs=bc):R g pf (ail g bc go jmp) (.code .ret::k) E objs:=by subst ho;intro _ a w hs;exact wpIn_ret (qM k ⟨yb,hj,E,hs⟩)
def FN (E:bq):List Nat->List AV->bq|p::ps,x::xs=>FN (put E p x) ps xs|_,_=>E
theorem K3{S:Nat->Prop}{w:World}{φ:List bI}:∀(ps:List Nat) (xs:List AV) (vs:List Value) (E:bq) (tmps:Array Value),lg S w φ E {tmps:=tmps,defers:=[]}->(∀p∈ps,p<tmps.size)->ps.length=xs.length->aW S w φ xs vs ->
  lg S w φ (FN E ps xs) {tmps:=(ps.zip vs).foldl (λt (p:Nat×Value)=>t.setIfInBounds p.1 p.2) tmps,defers:=[]}/\((ps.zip vs).foldl (λt (p:Nat×Value)=>t.setIfInBounds p.1 p.2) tmps).size=tmps.size
 |[],xs,vs,E,tmps,h,_,_,_=>by simpa[FN]using h
 |p::ps,[],vs,E,tmps,h,_,hl,_=>by simp at hl
 |p::ps,x::xs,[],E,tmps,h,_,_,hv=>by simp[aW]at hv
 |p::ps,x::xs,v::vs,E,tmps,h,hp,hl,hv=>by
  simp only[aW]at hv;have h1:lg S w φ (put E p x) {tmps:=tmps.setIfInBounds p v,defers:=[]}:=by have:=Rs (d:=some p) (v:=x) (vv:=v) h rfl (λt ht=>by cases ht;exact hp p aD) (λ_=>hv.1);simpa[bh,Act.put]using this
  obtain⟨h2,h3⟩:=K3 ps xs vs (put E p x) (tmps.setIfInBounds p v) h1 (λq hq=>by simpa using hp q Fk) Q3 hv.2;refine⟨by simpa[FN]using h2,?_⟩;simp_all
theorem Ua{ps:Array Nat}{vs:List Value}{tmps:Array Value}:(ps.zip vs.toArray).foldl (λt (p,v)=>t.setIfInBounds p v) tmps=(ps.toList.zip vs).foldl (λt (p:Nat×Value)=>t.setIfInBounds p.1 p.2) tmps:=by rw[<-Array.foldl_toList];simp_all
def RH:List Nat->Nat->Bool|[],_=>true|x::l,n=>bif Nat.ble (Nat.succ x) n then RH l n else false
theorem K4:∀{l:List Nat} {n:Nat},RH l n=true->∀p∈l,p<n
 |[],_,_=>by simp
 |x::l,n,h=>by
  simp only[RH]at h;obtain⟨h1,h2⟩:=Yb h;intro p hp;rcases cE.1 hp with rfl|hp
  exact ko h1;exact K4 h2 p hp
theorem HK(hg:di g)(hu:JC g)(hw:g.F=Fence.wide/\g.dep=0)(hm:g.XN=true){gop:Operand}{ps:Array Nat}{assign body:Code}
  {α:Type} (gX:List α) (enc:α->List AV) (Y:YP) (hys:Y.ys=gX.map enc) (ob:Nat->List Ob) (E1:Nat->α->bq) (TM:Nat->α->List Ob) (m:Nat) (jmp:Code) {f:Nat} {cs V4:List AV} {r:AV} (hx:ev E gop=.b9 f [] cs) (rC:cs.map lO=V4) (hcp:lh V4=true)
  (hc:aU g.P Y f (.yl 0::V4) [.Ju 0] r [.Ju m]) (h0:objs=ob 0) (hps:∀x∈gX,(enc x).length=ps.size) (hN':RH ps.toList g.N=true)
  (acF:∀(n:Nat) (x:α),gX[n]? = some x->(n=0\/Y.go n=true)->∀(l:Nat) (w:World) (R0 X:Nat->Prop) (φ0:List bI),φ0.length=(ob n).length->gI g.P (λb=>R0 b/\¬ X b/\b<w.heap.size) w ->
   R (kz g l w R0 X φ0) pf (amP (kz g l w R0 X φ0) (E1 n x) (TM n x)) [.code assign] (FN E ps.toList (enc x)) (ob n))
  (amR:∀(n:Nat) (x:α),gX[n]? = some x->(n=0\/Y.go n=true)->∀(l:Nat) (w:World) (R0 X:Nat->Prop) (φ0:List bI),φ0.length=(ob n).length->gI g.P (λb=>R0 b/\¬ X b/\b<w.heap.size) w ->
   R (kz g l w R0 X φ0) pf (ail (kz g l w R0 X φ0) (ob (n+1)) (Y.go (n+1)) jmp) [.code body] (E1 n x) (TM n x))
  (hk:(m=0\/Y.go m=true)->R g pf Fin k E (ob m)) (rO:mR k=true) (hjc:fI pf jmp=true) (hj:m≠0->Y.go m=false->R g pf Fin (.code jmp::k) E (ob m)) (jP:g.rZ=[]:=by rfl) :
  R g pf Fin (.code (.rangeFunc gop ps assign body)::k) E objs:=by
 have hN:=K4 hN';rintro⟨dA,amS⟩ a w hs;simp only[fI,aV]at dA;subst h0;simp only[KP];obtain⟨φ,h1,h2,h3,h4,h5,h6⟩:=hs;obtain⟨hF,hd0⟩:=hw;have aP:=afJ h3 gop;rw[hx]at aP;simp only[RV]at aP;obtain⟨va,vc,aP,hva,hvc⟩:=aP
 have hva:va=[]:=by
  cases va with
  |nil=>rfl
  |cons _ _=>simp[aW]at hva
 subst hva;have amT:=hvc.qK lO bJ.lO;rw[rC]at amT;refine wpIn_rangeFunc λfn hfn=>?_
 rw[hF,hd0];obtain⟨rec,aim⟩:∃rec:LoopState->Option Code->Loop,rec=λst pe=>{state:=st,pending:=pe,fn,tmps:=a.tmps,params:=ps,assign,body,defers:=w.heap.size}:=⟨_,rfl⟩
 obtain⟨W1,hW1⟩:∃W1,(w.alloc (.deferred (some []))).alloc (.loop (rec .ready none))=W1:=⟨_,rfl⟩;have apR:W1.heap.size=w.heap.size+2:=by rw[<-hW1];simp
 have hL1:W1.heap[w.heap.size+1]? = some (.loop (rec .ready none)):=by rw[<-hW1];have:=World.alloc_heap_new (w.alloc (.deferred (some []))) (.loop (rec .ready none));simp_all
 have hD1:W1.heap[w.heap.size]? = some (.deferred (some [])):=by rw[<-hW1];exact(Below.heap_alloc _ _ _ aD).trans (World.alloc_heap_new w _)
 have hold:∀b,b<w.heap.size->W1.heap[b]? = w.heap[b]? := λb hb=>by rw[<-hW1];exact(Below.heap_alloc _ _ _ Eu).trans (Below.heap_alloc _ _ _ hb)
 have amU:∀{b},eH φ b->b<w.heap.size:=λ{b} hb=>h1.lt b hb
 refine⟨w.heap.size+1,[{target:=.collected w.heap.size,args:=#[]}],W1,{target:=.fn (.func f) vc.toArray,args:=#[.func (.yield (w.heap.size+1)) #[] #[]]},W1,f,
  #[.func (.yield (w.heap.size+1)) #[] #[]]++vc.toArray,W1,?_,?_,?_,?_,λh=>by simp[Fence.wide]at h,?_⟩
 rw[<-hW1,aim];exact run_enterLoop_outer _ _ _ _ _;simp only [resolve,aP];simp[go_sem];intro f' _;exact trivial;simp only[invoke];exact hc.call _ _;obtain⟨st,cY⟩:∃st:Nat->LoopState×Option Code,st=λn=>if n=0\/Y.go n=true then(.ready,none)else(.done,some jmp):=⟨_,rfl⟩
 let I:Nat->(Nat->Prop)->(Nat->Prop)->World->Prop:=λn B Rr W=>∃φ',HC Rr φ' (ob n) W/\lg Rr W φ' E a/\(∀b,B b↔eH φ' b\/b=w.heap.size+1\/b=w.heap.size) /\
  W.heap[w.heap.size]? = some (.deferred (some []))/\W.heap[w.heap.size+1]? = some (.loop (rec (st n).1 (st n).2))/\(∀b,eH φ' b->b≠w.heap.size/\b≠w.heap.size+1) /\
  (∀b,eH φ' b->eH φ b\/w.heap.size<=b)/\kc g.φ0 φ'/\(∀(i l:Nat) (J:Nat->(Nat->Prop)->(Nat->Prop)->World->Prop) (B:Nat->Prop),φ'[i]? = some (.ext l J B)->∃B0,g.φ0[i]? = some (.ext l J B0))
 have amV:ame I:=by rintro n B Rr Rr' W W' hsz hB hkp ⟨φ',e1,e2,e3,e4,e5,e6,e7,e8,e9⟩;exact⟨φ',e1.mono hsz hkp λb hb=>hB b ((e3 b).2 (.inl hb)),λt=>(e2 t).mono hkp (.refl _),e3,(hB _ ((e3 _).2 (.inr (.inr rfl)))).trans e4,(hB _ ((e3 _).2 (.inr (.inl rfl)))).trans e5,e6,e7,e8,e9⟩
 obtain⟨B1,hB1⟩:∃B1:Nat->Prop,B1=λb=>eH φ b\/b=w.heap.size+1\/b=w.heap.size:=⟨_,rfl⟩
 have BZ:∀{B:Nat->Prop} {b:Nat},eH [bI.ext (w.heap.size+1) I B] b↔B b:=λ{B b}=>by
  constructor;rintro ⟨i,p,h7,h8⟩;cases i with
  |zero=>simp at h7;subst h7;exact h8
  |succ i=>simp at h7
  exact λh=>⟨0,_,rfl,h⟩
 have apT:∀b,B1 b->g.S0 b:=λb hb=>by
  rw[hB1]at hb;rcases hb with hb|hb|hb
  exact(h2 b hb).elim (hu.up b) (hu.x b);exact h1.up b aq;exact h1.up b aq
 have acG:dL (SS g.S0 φ) w (SS g.S0 [bI.ext (w.heap.size+1) I B1]) W1:=.of λb hb HG=>⟨⟨hb.1,λhc=>by
  rw[BZ,hB1]at hc;rcases hc with hc|hc|hc
  exact hb.2 hc;omega;omega⟩,hold b HG⟩
 have hI1:I 0 B1 (SS g.S0 [bI.ext (w.heap.size+1) I B1]) W1:=by refine⟨φ,h1.hc.mono aq acG λb hb=>hold b (amU hb),λt=>(h3 t).mono acG (.refl _),λb=>by rw[hB1],hD1,?_,λb hb=>by have:=amU hb;omega,λb hb=>.inl hb,h6.le,h6.gen⟩;simp_all
 have apU:HS g.S0 [bI.ext (w.heap.size+1) I B1] [.Ju 0] W1:=by
  refine⟨rfl,λi ph pO hi ho=>?_,λi j p q b hi hj _ _=>?_,λb hb=>?_,λb hb=>h1.up b aq⟩;cases i with
  |zero=>simp at hi ho;subst hi;subst ho;simp only[bj];exact⟨amV,hI1⟩
  |succ i=>simp at hi
  have:=(fu.1 hi).1;have:=(fu.1 hj).1;simp at *;omega;grind
 have hY:∀(i l:Nat) (J:Nat->(Nat->Prop)->(Nat->Prop)->World->Prop) (B:Nat->Prop),[bI.ext (w.heap.size+1) I B1][i]? = some (bI.ext l J B)->l5 g.P Fence.wide 0 Y l J g.S0:=by
  intro i l J B hi;cases i with
  |succ i=>simp at hi
  |zero=>
  simp at hi;obtain⟨rfl,rfl,rfl⟩:=hi;rintro n B W Rr x0 bS ⟨φ',e1,e2,e3,e4,e5,e6,e7,e8,e9⟩ hRS yi T4 hy yb hv hp;rw[hys,fP]at hy;obtain⟨x,hy2,rfl⟩:=ahB.1 hy
  replace hy:=hy2;have apV:st n=(.ready,none):=by simp_all
  rw[apV]at e5;have JB:∀{b},Rr b->¬ eH φ' b:=λ{b} hb hc=>(hRS b hb).2 ((e3 b).2 (.inl hc))
  have amW:w.heap.size+1<W.heap.size:=(Ab.1 e5).1;have Oa:bS.length=ps.size:=by rw[<-hv.length];grind
  have hyr:=run_yield (P:=g.P) (args:=bS.toArray) e5 ir;rw[aim]at hyr;refine⟨fn,_,assign,body,hyr,roundIn_of_wpIn trivial ?_⟩;clear hyr;have ain:dL Rr W (SS Rr φ') W:=λb hb _=>⟨⟨hb,JB hb⟩,rfl⟩
  have Nr:aW (SS Rr φ') W φ' (enc x) bS:=aW.pure ain hp hv;have amX:fi (kz g (w.heap.size+1) W Rr (eH φ') φ') (FN E ps.toList (enc x)) (ob n) {tmps:=(ps.zip bS.toArray).foldl (λt (p,v)=>t.setIfInBounds p v) a.tmps,defers:=[]} W:=by have:=K3 ps.toList (enc x) bS E a.tmps (λt=>(e2 t).mono ain (.refl _)) (λp Ns=>by simp_all) jD Nr;rw[Ua];refine⟨φ',(e1.mono cZ ain λ_ _=>rfl).hs T4,λb hb=>.inr hb,this.1,this.2.trans h4,.none rfl ⟨λ_=>rfl,.nil,by simp⟩,⟨eT _,rfl,rfl,rfl,λ_ _ _=>rfl,λi l I B h=>⟨B,h⟩,.refl _⟩⟩
  have agi:gI g.P (λb=>Rr b/\¬ eH φ' b/\b<W.heap.size) W:=yi.at0 λb hb=>JB hb
  have hRA:=RK.ej (pf:=pf) (k:=[.code assign]) ⟨dA.1,trivial⟩ (acF n x hy yb (w.heap.size+1) W Rr (eH φ') φ' e1.len agi) aD _ _ amX;simp only[KP]at hRA;refine wpIn_mono hRA λe a1 w1 hq=>?_
  cases e<;>try exact hq.elim
  obtain⟨φa,f1,f2,f3,f4,f5,f6⟩:fi (kz g (w.heap.size+1) W Rr (eH φ') φ') (E1 n x) (TM n x) a1 w1:=hq;have Yp:∀b,b<W.heap.size->¬ eH φ' b->w1.heap[b]? = W.heap[b]? := f6.fr;have arK:W.heap.size<=w1.heap.size:=f6.size;have Eh:=(Yp _ amW λhc=>(e6 _ hc).2 rfl).trans e5;have apW:=(Yp _ aq λhc=>(e6 _ hc).1 rfl).trans e4;have hba:∀b,eH φa b->eH φ' b\/W.heap.size<=b:=λb hb=>(f2 b hb).symm
  have aio:∀b,eH φa b->b≠w.heap.size/\b≠w.heap.size+1:=λb hb=>(hba b hb).elim (e6 b) λh=>by omega
  refine⟨_,run_beginRound Eh (by rw[aim]),?_⟩;obtain⟨w2,hw2⟩:∃w2,w2=w1.putObj (w.heap.size+1) (.loop {rec .ready none with state:=.busy}):=⟨_,rfl⟩;rw[<-hw2];have EF:w2.heap.size=w1.heap.size:=by rw[hw2];simp
  have ky:w2.heap[w.heap.size+1]? = some (.loop {rec .ready none with state:=.busy}):=by rw[hw2];exact World.putObj_heap_same aq
  have amZ:∀b,b≠w.heap.size+1->w2.heap[b]? = w1.heap[b]? := λb hb=>by rw[hw2];exact World.putObj_heap_other hb
  have kx:a1.defers=[]:=(f5.only rfl).1 rfl
  have am0:fi (kz g (w.heap.size+1) w2 Rr (eH φa) φ') (E1 n x) (TM n x) a1 w2:=by
   refine⟨φa,?_,λb hb=>.inr hb,λt=>?_,f4,.none rfl ⟨λ_=>kx,by simp_all,by rw[kx];simp⟩,⟨eT _,rfl,rfl,rfl,λ_ _ _=>rfl,f6.gen,f6.le⟩⟩;rw[hw2];exact HS.shut f1 Eh (λh=>h) λhc=>(aio _ hc).2 rfl
   rw[hw2];exact(f3 t).mono (yB Eh (λh=>h)) (.refl _)
  have am1:gI g.P (λb=>Rr b/\¬ eH φa b/\b<w2.heap.size) w2:=agi.jj λb hb _=>by grind
  have hRB:=RK.ej (pf:=pf) (k:=[.code body]) ⟨dA.2,trivial⟩ (amR n x hy yb (w.heap.size+1) w2 Rr (eH φa) φ' e1.len am1) aD _ _ am0;simp only[KP]at hRB;refine wpIn_mono hRB λe a3 w3 hq=>?_
  have fin:∀(jump:Option Code),(st (n+1))=(if jump.isNone then .ready else .done,jump)->(Y.go (n+1)=jump.isNone)->(∃E',fi (kz g (w.heap.size+1) w2 Rr (eH φa) φ') E' (ob (n+1)) a3 w3) ->
    ∃v w',(Instr.endRound (w.heap.size+1) jump).run g.P w3=.ok v w'/\(Ending.returned v=.returned (.bool (Y.go (n+1)))/\∃B',I (n+1) B' (λb=>Rr b/\¬ B' b) w'/\W.heap.size<=w'.heap.size/\w'.os=W.os/\w'.tape=W.tape/\w'.output=W.output /\
     (∀b,b<W.heap.size->¬ B b->w'.heap[b]? = W.heap[b]?)/\(∀b,B' b->B b\/(W.heap.size<=b/\b<w'.heap.size))):=by
   rintro jump ati apX ⟨E',φ3,g1,g2,g3,g4,g5,g6⟩;have apY:w2.heap.size<=w3.heap.size:=g6.size
   have hb3:∀b,eH φ3 b->eH φ' b\/W.heap.size<=b:=λb hb=>by
    rcases g2 b hb with h|h
    have:w2.heap.size<=b:=h;right;omega;exact hba b h
   have am2:∀b,eH φ3 b->b≠w.heap.size/\b≠w.heap.size+1:=λb hb=>(hb3 b hb).elim (e6 b) λh=>by omega
   have Yq:∀b,b<w2.heap.size->¬ eH φa b->w3.heap[b]? = w2.heap[b]? := g6.fr;have hl3:=(Yq _ aq λhc=>(aio _ hc).2 rfl).trans ky;have hD3:w3.heap[w.heap.size]? = some (.deferred (some [])):=((Yq _ aq λhc=>(aio _ hc).1 rfl).trans (amZ _ aq)).trans apW;obtain⟨w4,hw4⟩:∃w4,w4=w3.putObj (w.heap.size+1) (.loop (rec (st (n+1)).1 (st (n+1)).2)):=⟨_,rfl⟩;have Yr:∀b,b≠w.heap.size+1->w4.heap[b]? = w3.heap[b]? := λb hb=>by rw[hw4];exact World.putObj_heap_other hb
   have atl:w4.heap.size=w3.heap.size:=by rw[hw4];simp
   have yE:=run_endRound (P:=g.P) jump hl3;refine⟨_,w4,?_,by rw[apX],λb=>eH φ3 b\/b=w.heap.size+1\/b=w.heap.size,?_,by omega,?_,?_,?_,λb hb hB=>?_,λb hb=>?_⟩;simp_all;have apZ:∀b,b<W.heap.size->¬ eH φ' b->b≠w.heap.size+1->w4.heap[b]? = W.heap[b]? := λb hb h7 h8=>by grind
   have hkR:dL Rr W (λb=>Rr b/\¬ (eH φ3 b\/b=w.heap.size+1\/b=w.heap.size)) w4:=.of λb hb HG=>by grind
   have hkS:dL (SS Rr φ3) w3 (λb=>Rr b/\¬ (eH φ3 b\/b=w.heap.size+1\/b=w.heap.size)) w4:=λb hb _=>by
    have hnB:¬ B b:=(hRS b hb.1).2;have h8:b≠w.heap.size+1:=λe=>hnB ((e3 b).2 (.inr (.inl e)))
    have h9:b≠w.heap.size:=λe=>hnB ((e3 b).2 (.inr (.inr e)))
    exact⟨⟨hb.1,λhc=>by
     rcases hc with hc|hc|hc
     exact hb.2 hc;exact h8 hc;exact h9 hc⟩,Yr b h8⟩
   refine⟨φ3,g1.hc.mono aq hkS λb hb=>Yr b (am2 b hb).2,λt=>(e2 t).mono hkR g6.le,λb=>Iff.rfl,(Yr _ aq).trans hD3,by rw[hw4];exact World.putObj_heap_same aq,am2,λb hb=>?_,e8.trans g6.le,λi l J B' hi=>?_⟩;grind;obtain ⟨B0,h7⟩:=g6.gen i l J B' hi;exact e9 i l J B0 h7;rw[hw4];exact((g6.os).trans (by rw[show(kz g (w.heap.size+1) w2 Rr (eH φa) φ').w0=w2 from rfl,hw2];exact f6.os));rw[hw4];exact((g6.tape).trans (by rw[show(kz g (w.heap.size+1) w2 Rr (eH φa) φ').w0=w2 from rfl,hw2];exact f6.tape));rw[hw4];exact((g6.out).trans (by rw[show(kz g (w.heap.size+1) w2 Rr (eH φa) φ').w0=w2 from rfl,hw2];exact f6.out));grind;rcases hb with hb| hb| hb
   rcases hb3 b hb with h7| h7
   exact .inl ((e3 b).2 (.inl h7));exact .inr ⟨h7,by have:=g1.lt b hb;omega⟩;exact .inl ((e3 b).2 (.inr (.inl hb)));simp_all
  cases e with
  |normal=>obtain⟨Ys,K5⟩:Y.go (n+1)=true/\_:=hq;exact fin none jD (by rw[Ys];rfl) K5
  |ret=>obtain⟨Ys,hj,K5⟩:Y.go (n+1)=false/\_:=hq;exact fin (some .ret) ir (by rw[Ys];rfl) K5
  |exit id=>obtain⟨Ys,hj,K5⟩:Y.go (n+1)=false/\_:=hq;exact fin (some (.exit id)) ir (by rw[Ys];rfl) K5
  |goto t=>exact hq.elim
  |panic ch=>exact hq.elim
  |outgrown=>exact hq.elim
 have mK:aW (SS g.S0 [bI.ext (w.heap.size+1) I B1]) W1 [bI.ext (w.heap.size+1) I B1] (.yl 0::V4) (.func (.yield (w.heap.size+1)) #[] #[]::vc):=by simp only[aW];exact⟨by simp only[RV];simp_all,aW.pure acG hcp amT⟩
 have fC:=hc.run g.S0 [bI.ext (w.heap.size+1) I B1] W1 _ ((hg.Fv h2 h6).jj acG) apU (λb hb=>apT b (BZ.1 hb)) hY mK;rw[show(#[Value.func (.yield (w.heap.size+1)) #[] #[]]++vc.toArray)=(Value.func (.yield (w.heap.size+1)) #[] #[]::vc).toArray from by simp];refine(callsIn_wide.2 fC).mono ?_;rintro e W2 ⟨v,φ1,rfl,_,l6⟩;obtain⟨p',yF,hp2⟩:=l6.le 0 _ rfl
 obtain⟨B2,yF⟩:∃B2,φ1[0]? = some (.ext (w.heap.size+1) I B2):=by
  rcases hp2 with rfl|⟨_,_,_,_,_,_,_,_,e,_⟩|⟨_,_,_,_,e,_⟩|⟨l',I',B',B'',e,rfl⟩|⟨_,_,e,_⟩
  simp_all;cases e;cases e;simp_all;cases e
 have mn:=l6.hs.ok 0 _ _ yF rfl;simp only[bj]at mn;obtain⟨_,φ',e1,e2,e3,e4,e5,e6,e7,e8,e9⟩:=mn;have amW:w.heap.size+1<W2.heap.size:=(Ab.1 e5).1;have ap0:∀b,B2 b->eH φ1 b:=λb hb=>⟨0,_,yF,hb⟩
 have yE:=run_endLoop (P:=g.P) e5 jD;obtain⟨W3,hW3⟩:∃W3,W3=W2.putObj (w.heap.size+1) (.loop {rec (st m).1 (st m).2 with state:=.exhausted}):=⟨_,rfl⟩;have acJ:∀b,b≠w.heap.size+1->W3.heap[b]? = W2.heap[b]? := λb hb=>by rw[hW3];exact World.putObj_heap_other hb
 have apY:W3.heap.size=W2.heap.size:=by rw[hW3];simp
 have atn:W1.heap.size<=W2.heap.size:=l6.size
 have hkF:dL (SS g.S0 φ1) W2 (SS g.S0 φ') W3:=λb hb _=>by
  have hnB:¬ B2 b:=λhc=>hb.2 (ap0 b hc)
  exact⟨⟨hb.1,λhc=>hnB ((e3 b).2 (.inl hc))⟩,acJ b λe=>hnB ((e3 b).2 (.inr (.inl e)))⟩
 have aip:∀b,b<w.heap.size->¬ eH φ b->W3.heap[b]? = w.heap[b]? := λb hb hn=>by refine((acJ b aq).trans (l6.fr b aq λhc=>?_)).trans (hold b hb);grind
 have h5:=h5.only jP
 have K5:fi g E (ob m) {a with defers:={target:=.collected w.heap.size,args:=#[]}::a.defers} W3:=by
  refine⟨φ',(e1.mono aq hkF λb hb=>acJ b (e6 b hb).2).hs λb hb=>h1.up b aq,λb hb=>?_,λt=>?_,h4,.none jP ⟨λh=>ir,?_,λd hd=>?_⟩,⟨?_,?_,?_,?_,λb hb hx=>?_,e9,e8⟩⟩;rcases e7 b hb with h| h
  exact h2 b h;left;have:=h6.size;omega;have:=(e2 t).mono hkF (.refl φ');exact this;refine Bo.2 ⟨λhc=>?_,h5.2.1⟩;obtain⟨D',h7,_,_,h8⟩:=h5.2.2 _ hc;simp_all;rcases cE.1 hd with rfl| hd
  exact⟨_,rfl,h6.size,λhc=>(e6 _ hc).1 rfl,(acJ _ aq).trans e4⟩;obtain ⟨D',h7,h8,h9,mH⟩:=h5.2.2 d hd;grind;have:=h6.size;omega;rw[hW3];exact(l6.os.trans (by rw[<-hW1];rfl)).trans h6.os;rw[hW3];exact(l6.tape.trans (by rw[<-hW1];rfl)).trans h6.tape;rw[hW3];exact(l6.out.trans (by rw[<-hW1];rfl)).trans h6.out;have hbw:b<w.heap.size:=Kc hb h6.size;rw[aip b hbw λhc=>(h2 b hc).elim (λh=>by omega) hx];exact h6.fr b hb hx
 refine⟨(st m).2,W3,by simp_all,?_⟩;by_cases yb:m=0\/Y.go m=true;have:(st m).2=none:=by simp_all
 rw[this];exact RK.ej (pf:=pf) (k:=k) amS (hk yb) (iD rO) _ _ K5;have:(st m).2=some jmp:=by simp_all
 rw[this];have hm0:m≠0:=λe=>yb (.inl e)
 have hgf:Y.go m=false:=by simp_all
 have hR:=RK.ej (pf:=pf) (k:=.code jmp::k) ⟨hjc,amS⟩ (hj hm0 hgf) aD _ _ K5;simp only[KP,hF,hd0]at hR;exact hR
end
end ax
namespace ax
open Go Go.RowKit Go.MapKept
variable{gd:Option (Nat×Bool)}{es:List (Value×AV)}{objs:List Ob}{after:Array Edge}{dst:Option Nat}{az:List Oper}{pos:String}{k:List It}{ty T:Nat}{E:bq}
def l7 (kd:TypeDesc) (k:Value):List (Value×AV)->Nat->Option (Option (Nat×AV))
 |[],_=>some none
 |e::es,i=>match Instr.sameNow kd k e.1 with
  |some true=>some (some (i,e.2))
  |some false=>l7 kd k es (i+1)
  |none=>none
theorem kI{S:Nat->Prop}{w:World}{φ:List bI}{kd:TypeDesc}{k:Value}:∀{es:List (Value×AV)} {ents:List MapEntry} {i:Nat} {r:Option (Nat×AV)},nC S w φ es ents->l7 kd k es i=some r ->
  match r with
  |none=>Instr.findNow kd k ents i=some none
  |some (j,x)=>∃v,Instr.findNow kd k ents i=some (some (j,v))/\RV S w φ x v/\i<=j/\j<i+es.length/\(∃e,ents[j-i]? = some e/\Instr.sameNow kd k e.key=some true)
 |[],ents,i,r,h,hf=>by
  simp only[l7,Option.some.injEq]at hf;subst hf;cases ents with
  |nil=>rfl
  |cons _ _=>have:=h.1;simp at this
 |(k',x)::es,ents,i,r,h,hf=>by
  cases ents with
  |nil=>have:=h.1;simp at this
  |cons e ents=>
   obtain⟨h1,h2⟩:=h;simp only[bM,List.cons.injEq]at h1;obtain⟨rfl,h1⟩:=h1;simp only[bM,aW]at h2;simp only[l7]at hf;split at hf;rename_i hs;simp only[Option.some.injEq]at hf;subst hf;exact⟨e.val,by simp only[Instr.findNow,hs],h2.1,eT _,by simp,e,by simp,hs⟩;rename_i hs;have:=kI (i:=i+1) ⟨h1,h2.2⟩ hf;cases r with
   |none=>simp only[Instr.findNow,hs];exact this
   |some p=>obtain⟨j,y⟩:=p;obtain⟨v,g1,g2,g3,g4,e',g5,g6⟩:=this;refine⟨v,by simp only[Instr.findNow,hs];exact g1,g2,by omega,by simp;omega,e',?_,g6⟩;grind
   cases hf
section
variable {g:G} {pf:Nat->cI} {ad:Array Oper} {Fin:Exit->Act->World->Prop}
theorem Fa(hg:di g)
  (bt:aH ad.toList E gd=some true) (hd:aQ ⟨g.ty,g.N⟩ dst=true)
  (hr:R g pf Fin (.dr ad az::k) (bh E dst (.mp (len objs))) (objs++[.map []])):R g pf Fin (.dr ad (⟨dst,.makeMap T none,ty,pos,after,gd⟩::az)::k) E objs:=by
 refine cU (aK.eU hg (.add _ _) bt hd aD λφ a w hρ hs=>?_) hr;refine⟨.value (.map (some w.heap.size)),.map (some w.heap.size),w.alloc (.map #[] 0),φ++[.jK w.heap.size],?_,.inl rfl,?_,?_⟩;simp[execOp,Instr.makeMap,run_newObj];simp only[RV];exact⟨w.heap.size,by rw[bp,<-hs.len];simp,rfl⟩;refine j8.new hs (λb hb=>by simp only [bI.bl]at hb; exact hb.symm) ?_;simp only[bj];exact⟨#[],0,heap_alloc_new _ _,by simp[nC],by simp[aW]⟩
def pV (ok:Bool) (z:AV):Option (Nat×AV)->AV|some (_,v)=>if ok then .cP [v,bV true]else v|none=>if ok then .cP [z,bV false]else z
theorem K6(hg:di g){x y:Operand}{ok:Bool}
  {i q cq kt et:Nat} {z:List Value}  {kv zv:Value} {kd:TypeDesc} {r:Option (Nat×AV)}
  (bt:aH ad.toList E gd=some true) (hd:aQ ⟨g.ty,g.N⟩ dst=true) (hx:ev E x=.mp i) (ho:dq objs i=some (.map es)) (hy:ev E y=.d (.v kv)) (hT:g.ty T=some ⟨q,cq,z,.map kt et⟩)
  (o7:g.P.underlying kt=some kd) (Bu:IsKey kd kv) (hf:l7 kd kv es 0=some r) (hz:(g.P.info? et).bind (·.zero)=some zv)
  (hr:R g pf Fin (.dr ad az::k) (bh E dst (pV ok (lZ zv) r)) objs):R g pf Fin (.dr ad (⟨dst,.lookup T x y ok,ty,pos,after,gd⟩::az)::k) E objs:=by
 refine cU (aK.fW hg 1 bt hd aD λφ a w bW hgr hρ hs=>?_) hr;simp only[Op.operands]at hρ;have aP:=hρ x aD;rw[hx]at aP;have eC:=hρ y aD;rw[hy]at eC;simp only[RV]at aP eC;obtain⟨b,hb,aP⟩:=aP;generalize o6:a.eval y=vy at eC;cases eC;have ho:dq bW i=some (.map es):=by rw[bE]at ho ⊢;exact Gr.same hgr ho u6 Bl
 have hk:=cO hs hb ho;simp only[bj]at hk;obtain⟨ents,jr,bg,dH⟩:=hk;have lf:g.P.underlying T=some (.map kt et):=by have:=(hg.ty _ _ hT).sh;simpa only[bH]using this
 have hzero:(zeroValue et).run g.P w=.ok zv w:=by exact Xu
 have hzR:RV (SS g.S0 φ) w φ (lZ zv) zv:=ix (l:=[]) (E:=[]) (E₁:=[]) (a:={tmps:=#[],defers:=[]}) aD (λt=>by simp[lk,RV]) (.const zv);have c0:=kI dH hf;cases r with
 |none=>simp only at c0;refine aZ hs (vv:=if ok then .tuple #[zv,.bool false]else zv) ?_ ?_;simp[execOp,Instr.lookup,run_underlying lf,aP,run_getObj_map bg,o6,run_checkKey o7 Bu,run_findKey o7 c0,hzero];simp only [pV];cases ok;simpa using hzR;simp only [if_true,RV];exact Xt
 |some p=>obtain⟨j,v⟩:=p;obtain⟨vv,h1,h2,_⟩:=c0;refine aZ hs (vv:=if ok then .tuple #[vv,.bool true]else vv) ?_ ?_;simp[execOp,Instr.lookup,run_underlying lf,aP,run_getObj_map bg,o6,run_checkKey o7 Bu,run_findKey o7 h1];simp only [pV];cases ok;simpa using h2;simp only [if_true,RV];exact Xv
theorem pW{n0:Nat}{i:Nat}{es Eg:List (Value×AV)}(ho:dq objs i=some (.map es)):Gr n0 2 objs (dj objs i (.map Eg)):=λj x hj=>by rw[bE]at ho;rw[bx];by_cases e:j=i;subst e;rw[ho]at hj;cases hj;exact alO;grind
theorem K7(hg:di g){x y v:Operand}
  {i q cq kt et:Nat} {z:List Value}  {kv:Value} {kd:TypeDesc}
  (bt:aH ad.toList E gd=some true) (hd:aQ ⟨g.ty,g.N⟩ dst=true) (hx:ev E x=.mp i) (ho:dq objs i=some (.map es)) (hy:ev E y=.d (.v kv)) (hT:g.ty T=some ⟨q,cq,z,.map kt et⟩)
  (o7:g.P.underlying kt=some kd) (Bu:IsKey kd kv) (hf:l7 kd kv es 0=some none)
  (hr:R g pf Fin (.dr ad az::k) (bh E dst .any) (dj objs i (.map (es++[(kv,ev E v)])))):R g pf Fin (.dr ad (⟨dst,.mapUpdate T x y v,ty,pos,after,gd⟩::az)::k) E objs:=by
 refine cU (aK.eU hg (pW ho) bt hd aD λφ a w hρ hs=>?_) hr;simp only[Op.operands]at hρ;have aP:=hρ x aD;rw[hx]at aP;have eC:=hρ y aD;rw[hy]at eC;have hvv:=hρ v aD;simp only[RV]at aP eC;exact mB6
end
def ct (l:List (Int×AV)):List (Value×AV):=l.map λp=>(.int .i64 p.1,p.2)
end ax
namespace ax
open Go Go.RowKit Go.MapKept
variable{objs:List Ob}{gd:Option (Nat×Bool)}{aa:List (List D)}{after:Array Edge}{dst:Option Nat}{az:List Oper}{k:List It}{pos:String}{E:bq}{ty i:Nat}
def iT:List (Int×AV)->Int->Option AV|[],_=>none|p::r,n=>if p.1=n then some p.2 else iT r n
theorem nO{k':IntKind}{n:Int}:∀{l:List (Int×AV)} {i:Nat},∃r,l7 (.int k') (.int .i64 n) (ct l) i=some r/\r.map (·.2)=iT l n
 |[],i=>⟨none,rfl,rfl⟩
 |p::l,i=>by
  simp only[iT];by_cases h:p.1=n;have h1:(n==p.1)=true:=by simp [h]
  refine⟨some (i,p.2),?_,by simp[h]⟩;simp only[ct,bM,l7,Instr.sameNow,if_true,h1];have h1:(n==p.1)=false:=by grind
  obtain⟨r,h2,h3⟩:=nO (k':=k') (n:=n) (l:=l) (i:=i+1);refine⟨r,?_,by simp_all⟩;simp only[ct,bM,l7,Instr.sameNow,if_true,h1];exact h2
def arP (ok:Bool) (z:AV):Option AV->AV|some v=>if ok then .cP [v,.tt]else v|none=>if ok then .cP [z,.ff]else z
def jG (ok:Bool) (z:AV):Option AV->AV|some v=>if ok then .cP [v,bV true]else v|none=>if ok then .cP [z,bV false]else z
section
variable {g:G} {pf:Nat->cI} {ad:Array Oper} {Fin:Exit->Act->World->Prop}
theorem gN(hg:di g){T:Nat}{x y:Operand}{ok:Bool}
  {i q cq q' pA kt et:Nat} {z z':List Value} {n:Int} {zv:Value} (l:List (Int×AV))
  (bt:aH ad.toList E gd=some true) (hd:aQ ⟨g.ty,g.N⟩ dst=true) (hx:ev E x=.mp i) (ho:dq objs i=some (.map (ct l))) (hy:ev E y=.d (.v (.int .i64 n))) (hT:g.ty T=some ⟨q,cq,z,.map kt et⟩)
  (o7:g.ty kt=some ⟨q',pA,z',.int .i64⟩) (hz:(g.P.info? et).bind (·.zero)=some zv) {v:AV} (hv:jG ok (lZ zv) (iT l n)=v)
  (hr:R g pf Fin (.dr ad az::k) (bh E dst v) objs):R g pf Fin (.dr ad (⟨dst,.lookup T x y ok,ty,pos,after,gd⟩::az)::k) E objs:=by
 subst hv;have hu:=(hg.ty _ _ o7).sh;simp only[bH]at hu;obtain⟨r,h1,h2⟩:=nO (k':=.i64) (n:=n) (l:=l) (i:=0);refine K6 hg bt hd hx ho hy hT hu NJ h1 hz ?_;have:pV ok (lZ zv) r=jG ok (lZ zv) (iT l n):=by rw[<-h2];cases r<;>rfl
 simp_all
theorem tG(hg:di g){T:Nat}{x y v:Operand}
  {i q cq q' pA kt et:Nat} {z z':List Value} {n:Int} (l:List (Int×AV))
  (bt:aH ad.toList E gd=some true) (hd:aQ ⟨g.ty,g.N⟩ dst=true) (hx:ev E x=.mp i) (ho:dq objs i=some (.map (ct l))) (hy:ev E y=.d (.v (.int .i64 n))) (hT:g.ty T=some ⟨q,cq,z,.map kt et⟩)
  (o7:g.ty kt=some ⟨q',pA,z',.int .i64⟩) (hf:iT l n=none)
  (hr:R g pf Fin (.dr ad az::k) (bh E dst .any) (dj objs i (.map (ct (l++[(n,ev E v)]))))):R g pf Fin (.dr ad (⟨dst,.mapUpdate T x y v,ty,pos,after,gd⟩::az)::k) E objs:=by
 have hu:=(hg.ty _ _ o7).sh;simp only[bH]at hu;obtain⟨r,h1,h2⟩:=nO (k':=.i64) (n:=n) (l:=l) (i:=0);have:r=none:=by rw[hf]at h2;cases r with|none=>rfl|some _=>simp at h2
 subst this;refine K7 hg bt hd hx ho hy hT hu NJ h1 ?_;have e:ct l++[(Value.int .i64 n,ev E v)]=ct (l++[(n,ev E v)]):=by simp[ct]
 simp_all
end
theorem bf{g:G}{pf:Nat->cI}{Fin:Exit->Act->World->Prop}(n:Nat)(objs':List Ob)(hn:g.φ0.length<=n)(ht:gM k=true)(ho:(objs.take n).map (aR (dD n))=objs')
  (hr:R g pf Fin k (qP (dD n) E) objs') (jP:g.rZ=[]:=by rfl):R g pf Fin k E objs:=by
 subst ho;exact u5 n hn ht hr jP
theorem r9{n i s sz:Nat}(h:dq objs i=some (.arr sz s aa)):iP objs (n+1) (.ow i s)=some (.d (.sl aa)):=by simp[iP,h]
def sj (l:List Int):List (Int×AV):=l.map λn=>(n,AV.tt)
theorem Ub{f:AV->AV}(h:f .tt=.tt)(l:List Int):aR f (.map (ct (sj l)))=.map (ct (sj l)):=by simp[aR,ct,sj,Function.comp_def,h]
theorem so{n:Int}:∀{l:List Int},iT (sj l) n=if l.contains n then some .tt else none|[]=>rfl|x::l=>by have:=so (n:=n) (l:=l);simp only[sj,bM,iT]at this ⊢;grind
def kr:List Int->Int->List (Int×AV)|[],_=>[]|x::r,i=>(x,iV i)::kr r (i+1)
theorem FO:∀(l:List Int) (i x:Int),kr l i++[(x,iV (i+l.length))]=kr (l++[x]) i|[],i,x=>by simp[kr]|y::l,i,x=>by have:=FO l (i+1) x;simp only[kr,jo,dx]at this ⊢;grind
theorem K8:∀(l:List Int) (i:Int),(kr l i).length=l.length|[],_=>rfl|x::l,i=>by simp[kr,K8 l]
theorem ni{f:AV->AV}(h:∀n,f (iV n)=iV n)(l:List Int)(i:Int):aR f (.map (ct (kr l i)))=.map (ct (kr l i)):=by
 have key:∀(l:List Int) (i:Int),(ct (kr l i)).map (λx=>(x.1,f x.2))=ct (kr l i):=by
  intro l;induction l with
  |nil=>intro i;rfl
  |cons x l ih=>intro i;have:=ih (i+1);simp only[ct,kr,bM,h]at this ⊢;rw[this]
 simp only[aR,key]
theorem ki{f:Nat->Nat}(l:List Int)(i:Int):bG f (.map (ct (kr l i)))=.map (ct (kr l i)):=by have h:=ni (f:=dh f) (λn=>rfl) l i;simpa only[aR,bG]using h
theorem aj{g:G}{pf:Nat->cI}{ad:Array Oper}{Fin:Exit->Act->World->Prop}(hg:di g)(hu:JC g)(hF:g.F=Fence.wide/\g.dep=0)(hY:∀(i l:Nat) (I:Nat->(Nat->Prop)->(Nat->Prop)->World->Prop) (B:Nat->Prop),g.φ0[i]? = some (bI.ext l I B)->l5 g.P Fence.wide 0 g.Y l I g.S0)(is:List Nat)(objs':List Ob){Y:YP}{f:Nat}{dW:List AV}{b7 bc:List Ob}{r:AV}(hc:aU g.P Y f dW b7 r bc)(vj:(∃(i l:Nat) (I:Nat->(Nat->Prop)->(Nat->Prop)->World->Prop) (B:Nat->Prop),g.φ0[i]? = some (bI.ext l I B))->Y=g.Y){x:Operand}{args:Array Operand}{ts:Array Nat}
      {fs cs:List AV}
  (bt:aH ad.toList E gd=some true) (hd:aQ ⟨g.ty,g.N⟩ dst=true) (dK:bQ pf (.call {callee:=.value x,args:=args,argTypes:=ts})=.jz) (hx:ev E x=.b9 f fs cs) (dA:isOk (len objs) is=true) (jS:fM objs is=some (b7.map (bG (rn is (len objs)))))
  (has:(fs++args.toList.map (ev E)++cs).map lO=iH (rn is (len objs)) dW) (ho:db is (bc.map (bG (rn is (len objs)))) objs=objs')
  (hr:R g pf Fin (.dr ad az::k) (bh E dst (dh (rn is (len objs)) r)) objs') :
  R g pf Fin (.dr ad (⟨dst,.call {callee:=.value x,args:=args,argTypes:=ts},ty,pos,after,gd⟩::az)::k) E objs:=by
 subst ho;exact wW hg hu hF hY is hc vj bt hd dK hx dA jS has hr
theorem K9{nz:Bool}{n0:Nat}{n i s sz:Nat}(hn:Nat.ble (Nat.succ i) n0=false)(h:dq objs i=some (.arr sz s aa)):bZ nz n0 objs (n+1) (.ow i s)=.d (.sl aa):=by simp[bZ,h,hn]
theorem nP{nz:Bool}{n0:Nat}{n i s sz:Nat}{a b c:D}{a' b' c':AV}(hn:Nat.ble (Nat.succ i) n0=false)(h1:bZ nz n0 objs (n+1) (.d a)=a')(h2:bZ nz n0 objs (n+1) (.d b)=b')(h3:bZ nz n0 objs (n+1) (.d c)=c')(h:dq objs i=some (.arr sz s aa)) :
  bZ nz n0 objs (n+2) (.agg [.d a,.d b,.d c,.ow i s])=.agg [a',b',c',.d (.sl aa)]:=by
 have h4:=K9 (nz:=nz) (n:=n) hn h;rw[bZ];simp_all
end ax

namespace ax
open Go
inductive Tm where
 |mk (k:Int) (s:ByteArray) (n:Int) (l:List Tm)
namespace Tm
def k:Tm->Int|mk k _ _ _=>k
def s:Tm->ByteArray|mk _ s _ _=>s
def n:Tm->Int|mk _ _ n _=>n
def l:Tm->List Tm|mk _ _ _ l=>l
theorem ind {p:Tm->Prop}(h:∀t:Tm,(∀x∈t.l,p x)->p t)(t:Tm):p t :=Tm.rec (motive_1:=p) (motive_2:=λl=>∀x∈l,p x) (λk s n l ih=>h (.mk k s n l) ih) aD (λx r h1 h2=>by simp_all) t
mutual
def Oc:Tm->List D|mk k s n l=>[.v (.int .i64 k),.v (.string s),.v (.int .i64 n),.sl (aa l)]
def aa:List Tm->List (List D)|[]=>[]|t::r=>Oc t::aa r
end
def row (t:Tm):List D:=[.v (.int .i64 t.k),.v (.string t.s),.v (.int .i64 t.n),.sl (aa t.l)]
theorem HL (t:Tm):Oc t=row t:=by cases t;simp only[Oc,row,k,s,n,l]
theorem eo (l:List Tm):aa l=l.map row:=by
 induction l with
 |nil=>rfl
 |cons x r ih=>simp only[aa,HL,bM,ih]
theorem ao (l:List Tm):(aa l).length=l.length:=by rw[eo];simp
theorem ay {l:List Tm}{i:Nat}{x:Tm}(h:l[i]? = some x):(aa l)[i]? = some (row x):=by rw[eo,fP,h];rfl
def av (t:Tm):AV:=.agg [.d (.v (.int .i64 t.k)),.d (.v (.string t.s)),.d (.v (.int .i64 t.n)),.d (.sl (aa t.l))]
mutual
def same:Tm->Tm->Bool|mk k s n l,mk k' s' n' l'=>k==k'&&n==n'&&aX s s'&&gJ l l'
def gJ:List Tm->List Tm->Bool|[],[]=>true|x::r,y::r'=>same x y&&gJ r r'|_,_=>false
end
theorem wY (a b:Tm):same a b=(a.k==b.k&&a.n==b.n&&aX a.s b.s&&gJ a.l b.l):=by cases a;cases b;simp only[same,k,s,n,l]
theorem FP:∀(a b:List Tm),gJ a b=true↔a.length=b.length/\∀(i:Nat) (x y:Tm),a[i]? = some x->b[i]? = some y->same x y=true|[],[]=>by simp[gJ]|[],_::_=>by simp[gJ]|_::_,[]=>by simp[gJ]|x::a,y::b=>by simp only[gJ,aV,FP a b,dx,Nat.add_right_cancel_iff];constructor;grind;rintro ⟨h2,h3⟩;exact⟨h3 0 x y rfl rfl,h2,λi u v hu hv=>h3 (i+1) u v (by simpa using hu) Q2⟩
end Tm
end ax
namespace ax
open Go
namespace Tm
mutual
def gX:Tm->Int->List (Int×Tm)|mk k s n l,d=>(d,mk k s n l)::iU l (d+1)
def iU:List Tm->Int->List (Int×Tm)|[],_=>[]|t::r,d=>gX t d++iU r d
end
theorem kE (t:Tm)(d:Int):gX t d=(d,t)::iU t.l (d+1):=by cases t;rfl
mutual
def size:Tm->Nat|mk _ _ _ l=>1+aw l
def aw:List Tm->Nat|[]=>0|t::r=>size t+aw r
end
theorem size_eq (t:Tm):size t=1+aw t.l:=by cases t;simp only[size,l]
mutual
theorem lR:∀(t:Tm) (d:Int),(gX t d).length=size t|mk k s n l,d=>by simp only[gX,size,dx,wZ l];omega
theorem wZ:∀(l:List Tm) (d:Int),(iU l d).length=aw l|[],_=>rfl|t::r,d=>by simp only[iU,aw,List.length_append,lR t,wZ r]
end
theorem zr:∀(a b:List Tm) (d:Int),iU (a++b) d=iU a d++iU b d|[],b,d=>by simp[iU]|x::a,b,d=>by simp only[jo,iU,zr a b d,List.append_assoc]
theorem qR:∀(a b:List Tm),aw (a++b)=aw a+aw b|[],b=>by simp[aw]|x::a,b=>by simp only[jo,aw,qR a b,Nat.add_assoc]
theorem Ai {l:List Tm}{k:Nat}{x:Tm}(h:l[k]? = some x):aw (l.take (k+1))=aw (l.take k)+size x:=by rw[Jt,h,qR];simp[aw]
theorem b8 {l:List Tm}{x:Tm}(h:x∈l):size x<=aw l:=by
 induction l with
 |nil=>simp at h
 |cons y l ih=>simp only[aw];grind
theorem bO:∀(l:List Tm),l.length<=aw l|[]=>eT _|x::l=>by have:=bO l;have:=size_eq x;simp only[aw,dx];omega
def enc (e:Int×Tm):List AV:=[iV e.1,e.2.av]
end Tm
def oA (Y:YP):Nat->Nat->Nat×Bool|0,n=>(n,true)|k+1,n=>if Y.go (n+1)=true then oA Y k (n+1)else(n+1,false)
theorem w5 {Y:YP}:∀{k n:Nat},(oA Y k n).2=true->(oA Y k n).1=n+k/\(0<k->Y.go (n+k)=true)|0,n,_=>by simp[oA]|k+1,n,h=>by simp only[oA]at h ⊢;split at h;rename_i hg;rw[if_pos hg];obtain⟨h1,h2⟩:=w5 h;grind;cases h
theorem FQ {Y:YP}:∀{k n:Nat},(oA Y k n).2=false->Y.go (oA Y k n).1=false/\(oA Y k n).1≠0|0,n,h=>by simp[oA]at h|k+1,n,h=>by simp only[oA]at h ⊢;split at h;rename_i hg;rw[if_pos hg];exact FQ h;simp_all
theorem HM {Y:YP}:∀{a b n:Nat},oA Y (a+b) n=if(oA Y a n).2=true then oA Y b (oA Y a n).1 else oA Y a n|0,b,n=>by simp[oA]|a+1,b,n=>by rw[show a+1+b=(a+b)+1 by omega];simp only[oA];split;exact HM;simp
theorem w6 {Y:YP}{a b n:Nat}(h:oA Y a n=(n+a,true)):oA Y (a+b) n=oA Y b (n+a):=by rw[HM,h];simp
theorem aiq {Y:YP}{k n:Nat}(h:(oA Y k n).2=true):oA Y k n=(n+k,true):=Prod.ext (w5 h).1 h
end ax
namespace ax
open Go
variable{s:ByteArray}
def gG (b:UInt8):Bool:=!(decide ((b.toNat:Int)<32)||decide ((b.toNat:Int) > 126))
def vq (s:ByteArray):Bool:=s.data.toList.all gG&&(decide ((s.size:Int) ≥ 1)&&decide ((s.size:Int)<=20))
theorem sf{k:Nat}(h:k<s.size):s[k]? = some s[k]:=getElem?_pos s k h
theorem FR{p:UInt8->Bool}(h:∀k (hk:k<s.size),p s[k]=true):s.data.toList.all p=true:=by
 rw[fB];intro b hb;obtain⟨i,hi,rfl⟩:=aca.1 hb;have:i<s.size:=by simpa using hi
 exact h i this
theorem pd{p:UInt8->Bool}{k:Nat}(hk:k<s.size)(h:p s[k]=false):s.data.toList.all p=false:=by rw[List.all_eq_false];refine⟨s[k],?_,by simp[h]⟩;have:s[k]=s.data.toList[k]'(by simpa using hk):=rfl;simp_all
namespace Tm
def HN (t:Tm):Bool :=
 if t.k=1 then decide (t.n ≥ 0)&&decide (t.n<1000000)&&aX t.s ⟨#[]⟩&&((t.l.length:Int)==0)
 else if t.k=2 then aX t.s ⟨#[]⟩&&((t.l.length:Int)==0)
 else if t.k=3 then(t.n==0)&&vq t.s&&decide ((t.l.length:Int)<=8)
 else false
end Tm
end ax
namespace ax
open Go
variable{t:Tm}
theorem RI{Y:YP}:∀{k n:Nat},(oA Y k n).2=true↔∀i,i<k->Y.go (n+i+1)=true
 |0,n=>by simp[oA]
 |k+1,n=>by
  simp only[oA];split
  ·rename_i h;rw[RI];constructor;intro h1 i hi;cases i with
   |zero=>exact h
   |succ i=>have:=h1 i aq;rw[show n+(i+1)+1=n+1+i+1 by omega];exact this
   grind
  rename_i h;constructor;simp_all;intro h1;exact absurd (h1 0 aq) h
theorem bo{k n:Nat}{m:Int}(h:decide ((k:Int)<m)=true)(e:m=n):k<n:=by simp_all
theorem bw{k n:Nat}{m:Int}(h:decide ((k:Int)<m)=false)(e:m=n):n<=k:=by simp_all
theorem pX{n:Int}(h1:-9223372036854775808<=n)(h2:n<9223372036854775808):IntKind.i64.wrap n=n:=jZ h1 h2
def ji (n:Int):Prop:=-9223372036854775808<=n/\n<=9223372036854775807
def HO (n:Int):List D:=[.v (.int .i64 n)]
def cD (l:List Int):List (List D):=l.map HO
theorem bN(l:List Int):(cD l).length=l.length:=by simp[cD]
theorem iE{l:List Int}{i:Nat}{x:Int}(h:l[i]? = some x):(cD l)[i]? = some (HO x):=by simp[cD,h]
namespace Tm
mutual
def depth:Tm->Nat|mk _ _ _ l=>dV l+1
def dV:List Tm->Nat|[]=>0|t::r=>max (depth t) (dV r)
end
theorem B5(t:Tm):depth t=dV t.l+1:=by cases t;simp only[depth,l]
mutual
theorem lS:∀(t:Tm),depth t<=size t|mk k s n l=>by have:=rF l;simp only[depth,size];omega
theorem rF:∀(l:List Tm),dV l<=aw l|[]=>eT _|t::r=>by have:=lS t;have:=rF r;simp only[dV,aw];omega
end
def l8 (k:Int)(s:ByteArray)(n:Int)(m:Nat):Bool :=
 if k=1 then decide (n ≥ 0)&&decide (n<1000000)&&aX s ⟨#[]⟩&&((m:Int)==0)
 else if k=2 then aX s ⟨#[]⟩&&((m:Int)==0)
 else(k==3)&&(n==0)&&decide ((s.size:Int) ≥ 1)&&decide ((s.size:Int)<=20)&&decide ((m:Int)<=8)
mutual
def bA:Tm->Bool|mk k s n l=>s.data.toList.all gG&&cv l&&l8 k s n l.length
def cv:List Tm->Bool|[]=>true|t::r=>bA t&&cv r
end
theorem kO(t:Tm):bA t=(t.s.data.toList.all gG&&cv t.l&&l8 t.k t.s t.n t.l.length):=by cases t;simp only[bA,l,k,s,n]
theorem fz:∀{l:List Tm},cv l=true↔∀t∈l,bA t=true|[]=>by simp[cv]|t::r=>by simp[cv,fz (l:=r)]
theorem wy{l:List Tm}{x:Tm}{d:Int}{e:Int×Tm}(h:x∈l)(he:e∈gX x d):e∈iU l d:=by
 induction l with
 |nil=>simp at h
 |cons y l ih=>simp only[iU,cu];grind
theorem w7{l:List Tm}{d:Int}{e:Int×Tm}(h:e∈iU l d):∃x∈l,e∈gX x d:=by
 induction l with
 |nil=>simp[iU]at h
 |cons y l ih=>simp only[iU,cu]at h;grind
def Ok (t:Tm):Prop:=∀d e,e∈gX t d->e.2.l.length<=140737488355328/\e.2.s.size<=140737488355328
theorem Ok.len(h:t.Ok):t.l.length<=140737488355328:=(h 0 (0,t) (by rw[kE];simp)).1
theorem Ok.sub{t x:Tm}(h:t.Ok)(hx:x∈t.l):x.Ok:=λd e he=>h (d-1) e alj
def qS (s:ByteArray)(EI ak:Int):Bool:=decide (IntKind.i64.wrap (EI-1)<0)||decide (ak<1)||decide ((s.size:Int) > 100)
mutual
def pB:Tm->Int->Int->Int|mk _ s _ l,EI,ak=>if qS s EI ak then -1 else Aj l (IntKind.i64.wrap (EI-1)) (IntKind.i64.wrap (ak-1))
def Aj:List Tm->Int->Int->Int|[],EI,_=>EI|t::r,EI,ak=>if EI ≥ 0 then Aj r (pB t EI ak) ak else EI
end
theorem Od(t:Tm)(m d:Int):pB t m d=if qS t.s m d then -1 else Aj t.l (IntKind.i64.wrap (m-1)) (IntKind.i64.wrap (d-1)):=by cases t;simp only[pB];rfl
mutual
theorem Yt:∀(t:Tm) (m d:Int),0<=m->m<9223372036854775808->d<=1000->pB t m d=-1\/(pB t m d+size t<=m/\depth t<=d/\t.s.size<=100/\0<=pB t m d/\∀x e,e∈gX t x->e.2.s.size<=100)
 |mk k s n l,m,d,h0,h1,h2=>by
  simp only[pB];split;exact .inl rfl;rename_i hs;simp only[qS,oy,decide_eq_true_eq,not_or]at hs;have e1:IntKind.i64.wrap (m-1)=m-1:=pX aq aq;rw[e1]at hs ⊢;have e2:IntKind.i64.wrap (d-1)=d-1:=pX aq aq;rw[e2];rcases RJ l (m-1) (d-1) aq aq aq with h|⟨h3,h4,h5,h6⟩
  exact .inl h;refine .inr ⟨by simp only [size]; omega,by simp only [depth]; omega,?_,h5,λx e he=>?_⟩;show s.size<=100;omega
  simp only [gX,cE]at he;rcases he with rfl|he
  show s.size<=100;omega
  grind
theorem RJ:∀(l:List Tm) (m d:Int),0<=m->m<9223372036854775808->0<=d/\d<=1000->Aj l m d=-1\/(Aj l m d+aw l<=m/\dV l<=d/\0<=Aj l m d/\∀x e,e∈iU l x->e.2.s.size<=100)
 |[],m,d,h0,h1,h2=>by simp only[Aj,aw,dV,iU];simp_all
 |t::r,m,d,h0,h1,h2=>by
  simp only[Aj];rw[if_pos h0];rcases Yt t m d h0 h1 h2.2 with h|⟨h3,h4,_,h5,h6⟩
  rw [h];cases r with
  |nil=>exact .inl rfl
  |cons u r=>simp only[Aj];omega
  rcases RJ r (pB t m d) d h5 aq h2 with h| ⟨h7,h8,h9,mH⟩
  exact .inl h;refine .inr ⟨by simp only [aw]; omega,by simp only [dV]; omega,h9,λx e he=>?_⟩;simp only[iU,cu]at he;grind
end
def bB (t:Tm):Bool:=bA t&&decide (t.size<=3000)&&decide (t.depth<=100)
theorem toList_data(s:ByteArray):s.toList=s.data.toList:=ByteArray.toList_eq s
theorem bn{a b:ByteArray}:aX a b=true↔a=b:=by simp only[aX,beq_iff_eq];constructor;intro h;rw[toList_data,toList_data]at h;cases a;cases b;simpa using h;simp_all
theorem HP(t:Tm):t.HN=(t.s.data.toList.all gG&&l8 t.k t.s t.n t.l.length):=by
 unfold HN l8;split;by_cases h:aX t.s ⟨#[]⟩=true;have:=bn.1 h;rw[this];simp;simp[h];split;by_cases h:aX t.s ⟨#[]⟩=true;have:=bn.1 h;rw[this];simp;simp[h];split;rename_i h; simp only [h,vq];cases t.s.data.toList.all gG<;>simp[Bool.and_assoc]
 simp_all
mutual
theorem w8:∀(t:Tm) (d:Int),(∀e∈gX t d,e.2.HN=true)↔bA t=true|mk k s n l,d=>by have h:=FT l (d+1);have h2:(mk k s n l).HN=(s.data.toList.all gG&&l8 k s n l.length):=HP _;simp only[gX,cE,forall_eq_or_imp,h,h2,bA,aV];grind
theorem FT:∀(l:List Tm) (d:Int),(∀e∈iU l d,e.2.HN=true)↔cv l=true|[],d=>by simp[iU,cv]|t::r,d=>by simp only[iU,cu,cv,aV,<-w8 t d,<-FT r d];grind
end
mutual
theorem La:∀(t:Tm) (d m:Int),(∀e∈gX t d,e.1<=m)↔d+t.depth-1<=m
 |mk k s n l,d,m=>by
  simp only[gX,cE,forall_eq_or_imp,FU l (d+1) m,depth];cases hl:l with
  |nil=>simp[dV]
  |cons x r=>grind
theorem FU:∀(l:List Tm) (d m:Int),(∀e∈iU l d,e.1<=m)↔l=[]\/d+dV l-1<=m
 |[],d,m=>by simp[iU]
 |t::r,d,m=>by
  have h1:=La t d m;have h2:=FU r d m;simp only[iU,cu,dV,List.cons_ne_nil,false_or];have h3:=B5 t;constructor;intro h;have h4:=h1.1 λe he=>h e (.inl he)
  have h5:=h2.1 λe he=>h e (.inr he)
  rcases h5 with rfl|h5
  simp only[dV];omega;omega;grind
end
mutual
theorem Yu:∀(a b:Tm),same a b=true↔a=b|mk k s n l,mk k' s' n' l'=>by simp only[same,aV,beq_iff_eq,bn,B6 l l',mk.injEq];grind
theorem B6:∀(a b:List Tm),gJ a b=true↔a=b|[],[]=>by simp[gJ]|[],_::_=>by simp[gJ]|_::_,[]=>by simp[gJ]|x::a,y::b=>by simp only[gJ,aV,Yu x y,B6 a b,List.cons.injEq]
end
theorem Oe(a:List Tm):gJ a a=true:=(B6 a a).2 rfl
theorem yG{a b:List Tm}(h:¬ a.length=b.length):gJ a b=false:=by cases hs:gJ a b;rfl;exact absurd ((FP _ _).1 hs).1 h
end Tm
def w9 (e:Int×Tm)(n:Nat):Bool:=!(decide (e.1 > 100)||decide ((n:Int) > 3000)||!e.2.HN)
def Of (t:Tm)(n:Nat):Bool:=match n with
 |0=>true
 |m+1=>match (t.gX 1)[m]? with
  |some e=>w9 e (m+1)
  |none=>true
def de (t:Tm):Bool:=(oA ⟨(t.gX 1).map Tm.enc,Of t⟩ t.size 0).2
theorem acK{g:Nat->Bool}:(oA ⟨(t.gX 1).map Tm.enc,g⟩ t.size 0).2=true↔∀i,i<t.size->g (i+1)=true:=by rw[RI];simp
theorem cV(t:Tm):de t=t.bB:=by
 rw[o5];unfold de;rw[acK];unfold Tm.bB;simp only[aV,decide_eq_true_eq,<-Tm.w8 t 1];have hd:=Tm.La t 1 100;have hl:=Tm.lR t 1;have hs:=Tm.size_eq t;constructor;intro h;have h1:∀e∈t.gX 1,e.1<=100/\e.2.HN=true:=λe he=>by obtain⟨i,hi,rfl⟩:=aca.1 he;have:=h i aq;simp only[Of,dG hi,w9,wE,Ez,decide_eq_false_iff_not,J9]at this;exact⟨by omega,this.2⟩
 refine⟨⟨λe he=>(h1 e he).2,?_⟩,?_⟩;have hi:t.size-1<(t.gX 1).length:=by omega
 have:=h (t.size-1) aq;simp only[Of,dG hi,w9,wE,Ez,decide_eq_false_iff_not,J9]at this;omega;grind;rintro ⟨⟨h1,h2⟩,h3⟩ i hi;have EG:i<(t.gX 1).length:=by omega
 have h4:=hd.2 aq _ (dy EG);simp only[Of,dG EG,w9,wE,Ez,decide_eq_false_iff_not,J9];grind
namespace Tm
mutual
def gi (g:Int->Int):Tm->Tm|mk k s n l=>mk k s (if k=1 then g n else n) (dp g l)
def dp (g:Int->Int):List Tm->List Tm|[]=>[]|t::r=>gi g t::dp g r
end
theorem xe(g:Int->Int)(t:Tm):gi g t=mk t.k t.s (if t.k=1 then g t.n else t.n) (dp g t.l):=by cases t;simp only[gi];rfl
theorem j5(g:Int->Int):∀l,dp g l=l.map (gi g)|[]=>rfl|t::r=>by simp only[dp,bM,j5 g r]
end Tm
def ux:List Int->Int->Int->Int|[],_,_=>-1|x::r,n,i=>if x=n then i else ux r n (i+1)
def jC (l:List Int)(x:Int):List Int:=if l.contains x then l else l++[x]
def fT (l:List Int)(e:Int×Tm):List Int:=if e.2.k=1 then jC l e.2.n else l
def bP (l:List Tm):List Int:=l.foldl (λa t=>(t.gX 1).foldl fT a) []
namespace Tm
mutual
def oN:List Int->Tm->List Int|a,mk k _ n l=>if k=1 then jC a n else fA a l
def fA:List Int->List Tm->List Int|a,[]=>a|a,t::r=>fA (oN a t) r
end
mutual
def plain:Tm->Bool|mk k _ _ l=>!((k==1)&&!l.isEmpty)&&nQ l
def nQ:List Tm->Bool|[]=>true|t::r=>plain t&&nQ r
end
theorem B7(a:List Int)(t:Tm):oN a t=if t.k=1 then jC a t.n else fA a t.l:=by cases t;simp only[oN];rfl
theorem FV(l:List Int)(x:Int):(jC l x).length<=l.length+1:=by unfold jC;split<;>simp
mutual
theorem yH:∀(t:Tm) (a:List Int),(oN a t).length<=a.length+size t|mk k s n l,a=>by simp only[oN,size];split;have:=FV a n;omega;have:=qT l a;omega
theorem qT:∀(l:List Tm) (a:List Int),(fA a l).length<=a.length+aw l|[],a=>by simp[fA]|t::r,a=>by have h1:=yH t a;have h2:=qT r (oN a t);simp only[fA,aw];omega
end
mutual
theorem Lb:∀(t:Tm) (d:Int) (a:List Int),plain t=true->(gX t d).foldl fT a=oN a t
 |mk k s n l,d,a,h=>by
  simp only[plain,aV,wE,ahC]at h;simp only[gX,wC,oN];by_cases hk:k=1;have hl:l=[]:=by simp_all
  subst hl;simp only[iU,List.foldl_nil,hk,if_true];rfl;rw [if_neg hk,FW l (d+1) _ h.2];simp only[fT,Tm.k,hk,if_false]
theorem FW:∀(l:List Tm) (d:Int) (a:List Int),nQ l=true->(iU l d).foldl fT a=fA a l|[],d,a,h=>rfl|t::r,d,a,h=>by simp only[nQ,aV]at h;simp only[iU,acb,fA,Lb t d a h.1,FW r d _ h.2]
end
end Tm
theorem vr:∀(l:List Tm),Tm.nQ l=true->bP l=Tm.fA [] l:=by
 have key:∀(l:List Tm) (a:List Int),Tm.nQ l=true->l.foldl (λa t=>(t.gX 1).foldl fT a) a=Tm.fA a l:=by
  intro l;induction l with
  |nil=>intro a _;rfl
  |cons t r ih=>intro a h;simp only[Tm.nQ,aV]at h;simp only[wC,Tm.fA,Tm.Lb t 1 a h.1,ih _ h.2]
 exact λl h=>key l [] h
end ax
namespace ax
open Go Go.RowKit
def vLe:Value->Value->Bool| .int k a,.int k' b=>kEq k k'&&a==b| .bool a,.bool b=>a==b| .string a,.string b=>aX a b| .slice none 0 0,.slice none 0 0=>true|_,_=>false
theorem air {a b:Value}(h:vLe a b=true):a=b:=by unfold vLe at h;split at h;simp only[aV,beq_iff_eq]at h;rw[BA h.1,h.2];simp_all;rename_i x y;simp only[aX,beq_iff_eq,ByteArray.toList_eq]at h;cases x;simp_all;rfl;cases h
mutual
def Ej:D->D->Bool
 | .v a,y=>match y with
  | .v b=>vLe a b
  | .sl []=>match a with
   | .slice none 0 0=>true
   |_=>false
  |_=>false
 | .sl r,y=>match y with
  | .sl r'=>pg r r'
  |_=>false
 | .bL l,y=>match y with
  | .bL l'=>rG l l'
  |_=>false
 | .map _,_=>false
def rG:List D->List D->Bool|[],[]=>true|x::l,y::m=>Ej x y&&rG l m|_,_=>false
def pg:List (List D)->List (List D)->Bool|[],[]=>true|x::l,y::m=>rG x y&&pg l m|_,_=>false
end
theorem FX:∀{l m:List D},rG l m=true->l.length=m.length|[],[],_=>rfl|[],_::_,h=>by simp[rG]at h|_::_,[],h=>by simp[rG]at h|x::l,y::m,h=>by simp only[rG,aV]at h;simp[FX h.2]
theorem pY:∀{l m:List D} {j:Nat} {y:D},rG l m=true->m[j]? = some y->∃x,l[j]? = some x/\Ej x y=true|[],[],_,_,_,h=>by simp at h|[],_::_,_,_,h,_=>by simp[rG]at h|_::_,[],_,_,h,_=>by simp_all|x::l,y::m,0,z,h,hz=>by simp only[rG,aV]at h;simp_all|x::l,y::m,j+1,z,h,hz=>by simp only[rG,aV]at h;simpa using pY h.2 (by simpa using hz)
theorem vu:∀{l m:List (List D)},pg l m=true->l.length=m.length|[],[],_=>rfl|[],_::_,h=>by simp[pg]at h|_::_,[],h=>by simp[pg]at h|x::l,y::m,h=>by simp only[pg,aV]at h;simp[vu h.2]
theorem qU:∀{l m:List (List D)} {j:Nat} {y:List D},pg l m=true->m[j]? = some y->∃x,l[j]? = some x/\rG x y=true|[],[],_,_,_,h=>by simp at h|[],_::_,_,_,h,_=>by simp[pg]at h|_::_,[],_,_,h,_=>by simp_all|x::l,y::m,0,z,h,hz=>by simp only[pg,aV]at h;simp_all|x::l,y::m,j+1,z,h,hz=>by simp only[pg,aV]at h;simpa using qU h.2 (by simpa using hz)
theorem ais {S:Nat->Prop}{w:World}{x:D}{v:Value}(hr:Rd S w x v):∀{y:D},Ej x y=true->Rd S w y v:=by
 induction hr with
 |v x=>
  intro y h;cases y with
  |v b=>simp only[Ej]at h;rw[air h];exact .v _
  |sl r=>
   cases r with
   |nil=>simp only[Ej]at h;split at h;exact .nil _ _;cases h
   |cons _ _=>simp[Ej]at h
  |bL _=>simp[Ej]at h
  |map _=>simp[Ej]at h
 |nil a c=>
  intro y h;cases y with
  |v b=>simp[Ej]at h
  |sl r=>simp only[Ej]at h;have:=vu h;have:r=[]:=kG.1 this.symm;subst this;exact .nil _ _
  |bL _=>simp[Ej]at h
  |map _=>simp[Ej]at h
 |@sl aa b o cap sz cs T fr g hS hb hl hc hsz hg _ ih=>
  intro y h;cases y with
  |v b=>simp[Ej]at h
  |bL _=>simp[Ej]at h
  |map _=>simp[Ej]at h
  |sl r=>simp only[Ej]at h;have a8:=vu h;rw[a8];refine .sl (sz:=sz) g hS hb aq hc (λi row hi=>?_) (λi row j x hi hj=>?_) (λi row j x hi hj=>?_);obtain ⟨row',h1,h2⟩:=qU h hi;rw[<-FX h2];grind;obtain ⟨row',h1,h2⟩:=qU h hi;obtain⟨x',h3,_⟩:=pY h2 hj;simp_all;obtain ⟨row',h1,h2⟩:=qU h hi;obtain⟨x',h3,h4⟩:=pY h2 hj;simp_all
 |@bL l b o cs T fr g hS hb hg _ ih=>
  intro y h;cases y with
  |v b=>simp[Ej]at h
  |sl r=>simp[Ej]at h
  |map _=>simp[Ej]at h
  |bL m=>simp only[Ej]at h;refine .bL g hS hb (λj x hj=>?_) (λj x hj=>?_);obtain ⟨x',h3,_⟩:=pY h hj;simp_all;obtain ⟨x',h3,h4⟩:=pY h hj;simp_all
 |map g hS hb hk hg _ ih=>intro y h;simp[Ej]at h
mutual
def JD:AV->AV->Bool
 | .d x,y=>match y with
  | .d y=>Ej x y
  |_=>false
 | .agg l,y=>match y with
  | .agg m=>EJ l m
  |_=>false
 | .cP l,y=>match y with
  | .cP m=>EJ l m
  |_=>false
 |_,_=>false
def EJ:List AV->List AV->Bool|[],[]=>true|x::l,y::m=>JD x y&&EJ l m|_,_=>false
end
mutual
theorem Yv {S:Nat->Prop}{w:World}{φ:List bI}:∀{x y:AV} {v:Value},JD x y=true->RV S w φ x v->RV S w φ y v
 | .d x,y,v,h,hr=>by
  cases y<;>simp only[JD]at h<;>try (cases h;done)
  simp only[RV]at hr ⊢;exact ais hr h
 | .agg l,y,v,h,hr=>by
  cases y<;>simp only[JD]at h<;>try (cases h;done)
  simp only[RV]at hr ⊢;obtain⟨cs,h1,h2⟩:=hr;exact⟨cs,h1,AM h h2⟩
 | .cP l,y,v,h,hr=>by
  cases y<;>simp only[JD]at h<;>try (cases h;done)
  simp only[RV]at hr ⊢;obtain⟨cs,h1,h2⟩:=hr;exact⟨cs,h1,AM h h2⟩
 | .any,_,_,h,_=>by simp[JD]at h
 | .tt,_,_,h,_=>by simp[JD]at h
 | .ff,_,_,h,_=>by simp[JD]at h
 | .fs _,_,_,h,_=>by simp[JD]at h
 | .lo _ _,_,_,h,_=>by simp[JD]at h
 | .el _ _ _ _,_,_,h,_=>by simp[JD]at h
 | .vw _ _ _,_,_,h,_=>by simp[JD]at h
 | .ow _ _,_,_,h,_=>by simp[JD]at h
 | .mp _,_,_,h,_=>by simp[JD]at h
 | .yl _,_,_,h,_=>by simp[JD]at h
 | .b9 _ _ _,_,_,h,_=>by simp[JD]at h
theorem AM {S:Nat->Prop}{w:World}{φ:List bI}:∀{l m:List AV} {vs:List Value},EJ l m=true->aW S w φ l vs->aW S w φ m vs|[],[],_,_,h=>h|[],_::_,_,h,_=>by simp[EJ]at h|_::_,[],_,h,_=>by simp[EJ]at h|x::l,y::m,[],_,h=>by simp[aW]at h|x::l,y::m,v::vs,h,hr=>by simp only[EJ,aV]at h;simp only[aW]at hr ⊢;exact⟨Yv h.1 hr.1,AM h.2 hr.2⟩
end
theorem br.le {P:Program}{f:Nat}{dW as':List AV}{r:AV}(h:br P f dW r)(hl:EJ as' dW=true):br P f as' r :=⟨h.call,λS w bS ha hS hv=>h.run S w bS ha hS (AM hl hv)⟩
end ax
namespace ax
open Go Go.RowKit Go.MapKept
variable{Fin:Exit->Act->World->Prop}{gd:Option (Nat×Bool)}{objs:List Ob}{after:Array Edge}{ad:Array Oper}{dst:Option Nat}{az:List Oper}{pf:Nat->cI}{pos:String}{k:List It}{α:Type}{ty T:Nat}{E:bq}{g:G}
def pfB:Nat->cI:=λf=>bif Nat.beq f 4000000007 then .Fw else .still
def ap3:Nat->cI:=λf=>bif Nat.beq f 4000000007 then .Fw else .jz
theorem agj{a c:α}{l:List α}(h:a=c):a::l=c::l:=by rw[h]
theorem Fh{a b c:α}{l:List α}(h:b=c):a::b::l=a::c::l:=by rw[h]
theorem RL{a b c:α}(h:c=b):some [a,b]=some [a,c]:=by rw[h]
theorem cR(hg:di g){T T':Nat}{x y:Operand}
  {i s sz q q' cq pA e e':Nat} {z z':List Value} {τ:Ty} {aa cz:List (List D)} (rows':List (List D))
  (bt:aH ad.toList E gd=some true) (hd:aQ ⟨g.ty,g.N⟩ dst=true) (hx:ev E x=.ow i s) (ho:dq objs i=some (.arr sz s aa)) (hy:lO (ev E y)=.d (.sl cz))
  (hT:g.ty T=some ⟨q,cq,z,.slice e⟩) (lf:g.ty T'=some ⟨q',pA,z',.slice e'⟩) (he:g.ty e=some τ) (hsz:τ.size=sz) (a8:∀r∈cz,r.length=sz) (X9:∀r∈cz,∀x∈r,pD (.d x)=true)
  (eE:aa++cz=rows') (qO:(aa.length+cz.length)*τ.bytes<=140737488355328) (uk:aa.length+cz.length<=140737488355328)
  (hr:R g pf Fin (.dr ad az::k) (bh E dst (.ow i (Nat.succ s))) (dj objs i (.arr sz (Nat.succ s) rows'))) :
  R g pf Fin (.dr ad (⟨dst,.call {callee:=.builtin .append,args:=#[x,y],argTypes:=#[T,T']},ty,pos,after,gd⟩::az)::k) E objs:=by
 subst eE;exact JS hg bt hd hx ho hy hT lf he hsz a8 X9 qO uk hr
theorem B8(hg:di g){x:Operand}{lo hi:Option Operand}
  {q cq e:Nat} {z:List Value} {τ:Ty} {aa:List (List D)} (rows':List (List D)) {l h:Int}
  (bt:aH ad.toList E gd=some true) (hd:aQ ⟨g.ty,g.N⟩ dst=true) (hx:lO (ev E x)=.d (.sl aa)) (hl:rR E lo 0=some l) (hh:rR E hi aa.length=some h) (hT:g.ty T=some ⟨q,cq,z,.slice e⟩) (he:g.ty e=some τ) (hsz:∀r∈aa,r.length=τ.size)
  (h0:0<=l) (h1:l<=h) (h2:h<=aa.length) (Ei:(aa.drop l.toNat).take (h.toNat-l.toNat)=rows')
  (hr:R g pf Fin (.dr ad az::k) (bh E dst (.d (.sl rows'))) objs):R g pf Fin (.dr ad (⟨dst,.slice T x lo hi none,ty,pos,after,gd⟩::az)::k) E objs:=by
 subst Ei;exact Ye hg bt hd hx hl hh hT he hsz h0 h1 h2 hr
theorem FY(hg:di g){x y v:Operand}
  {i q cq q' pA kt et:Nat} {z z':List Value} {n:Int} {v':AV} (l l':List (Int×AV))
  (bt:aH ad.toList E gd=some true) (hd:aQ ⟨g.ty,g.N⟩ dst=true) (hx:ev E x=.mp i) (ho:dq objs i=some (.map (ct l))) (hy:ev E y=.d (.v (.int .i64 n))) (hT:g.ty T=some ⟨q,cq,z,.map kt et⟩)
  (o7:g.ty kt=some ⟨q',pA,z',.int .i64⟩) (hf:iT l n=none) (hv:ev E v=v') (hl:l++[(n,v')]=l')
  (hr:R g pf Fin (.dr ad az::k) (bh E dst .any) (dj objs i (.map (ct l')))):R g pf Fin (.dr ad (⟨dst,.mapUpdate T x y v,ty,pos,after,gd⟩::az)::k) E objs:=by
 subst hl;subst hv;exact tG hg l bt hd hx ho hy hT o7 hf hr
theorem yh{f:AV->Option AV}{x y:AV}{l l':List AV}(h:f x=some y)(h2:uu f l=some l'):uu f (x::l)=some (y::l'):=by simp only[uu,h,h2]
theorem Tp{n:Nat}{l l':List AV}(h:uu (iP objs n) l=some l'):iP objs (n+1) (.cP l)=some (.cP l'):=by simp only[iP,h]
theorem Tn{n:Nat}{l l':List AV}(h:uu (iP objs n) l=some l'):iP objs (n+1) (.agg l)=some (.agg l'):=by simp only[iP,h]
theorem br.one{P:Program}{f:Nat}{t:Tm}{r:AV}(h:br P f [.d (.sl (Tm.aa [t]))] r):br P f [.d (.sl [Tm.row t])] r:=by rwa [Tm.eo]at h
end ax
namespace ax
open Go Go.RowKit
variable{k:List It}{objs:List Ob}{β:Type}{E:bq}{i:It}
section
variable {g:G} {pf:Nat->cI} {Fin:Exit->Act->World->Prop}
theorem Yw{M:bq->List Ob->Prop}(h:∀E objs,M E objs->RK g Fin k E objs):∀(e:Exit) (a:Act) (w:World),KP g Fin (.mark M::k) e a w->KP g Fin k e a w:=λe a w hk=>by
 cases e with
 |normal=>obtain⟨E,objs,h1,h2⟩:=hk;exact h E objs h1 a w h2
 |_=>exact hk
theorem nR{K1 K2:List It}(h:∀(e:Exit) (a:Act) (w:World),KP g Fin K1 e a w->KP g Fin K2 e a w)(i:It):∀(e:Exit) (a:Act) (w:World),KP g Fin (i::K1) e a w->KP g Fin (i::K2) e a w:=λe a w hk=>by
 cases i with
 |code c=>
  cases e with
  |normal=>exact wpIn_mono hk h
  |_=>exact h _ _ _ hk
 |jK id=>
  cases e with
  |exit j=>simp only[KP]at hk ⊢;grind
  |_=>exact h _ _ _ hk
 |mark M=>
  cases e with
  |normal=>exact hk
  |_=>exact h _ _ _ hk
 |dr ad r=>exact h _ _ _ hk
abbrev vz {β:Type} (st:β->bq×List Ob) (inv:β->Prop):bq->List Ob->Prop:=λE' objs'=>∃p,inv p/\oJ E' (st p).1/\objs'=(st p).2
theorem FZ{st:β->bq×List Ob}{inv:β->Prop}(ho:rE pf k)(hk:mR k=true)(h2:∀p,inv p->R g pf Fin k (st p).1 (st p).2):∀E objs,vz st inv E objs->RK g Fin k E objs:=by rintro E objs ⟨p,h1,h3,rfl⟩;exact RK.ej (pf:=pf) (k:=k) ho ((h2 p h1).Ag h3.T3) (iD hk)
theorem Og(st:β->bq×List Ob)(inv:β->Prop)(hk:mR k=true)(h1:R g pf Fin (i :: .mark (vz st inv)::k) E objs)(h2:∀p,inv p->R g pf Fin k (st p).1 (st p).2):R g pf Fin (i::k) E objs:=by
 intro ho
 have dA:rE pf k:=by
  cases i with
  |code c=>exact ho.2
  |_=>exact ho
 have hc:=Yw (FZ (g:=g) (Fin:=Fin) dA hk h2)
 have we:rE pf (i :: .mark (vz st inv)::k):=by
  cases i with
  |code c=>exact ho
  |_=>exact ho
 have h:=h1 we;cases i with
 |dr ad az=>exact Dr.XY (λE objs hr a w hs=>hc _ _ _ (hr a w hs)) h
 |code c=>exact λa w hs=>nR hc (.code c) _ _ _ (h a w hs)
 |jK id=>exact λa w hs=>nR hc (.jK id) _ _ _ (h a w hs)
 |mark M=>exact λa w hs=>nR hc (.mark M) _ _ _ (h a w hs)
theorem AN{M:bq->List Ob->Prop}:∀(pre:List It) {k:List It},rE pf (pre++k)->rE pf (pre ++ .mark M::k)/\rE pf k
 |[],_,h=>⟨h,h⟩
 |i::pre,k,h=>by
  cases i with
  |code c=>exact⟨⟨h.1,(AN pre h.2).1⟩,(AN (M:=M) pre h.2).2⟩
  |_=>exact AN (M:=M) pre h
theorem RM{M:bq->List Ob->Prop}{k:List It}(h:∀E objs,M E objs->RK g Fin k E objs):∀(pre:List It) (e:Exit) (a:Act) (w:World),KP g Fin (pre ++ .mark M::k) e a w->KP g Fin (pre++k) e a w|[]=>Yw h|i::pre=>nR (RM h pre) i
theorem ait(pre:List It)(st:β->bq×List Ob)(inv:β->Prop)(hk:mR k=true)(h1:R g pf Fin (i::(pre ++ .mark (vz st inv)::k)) E objs)(h2:∀p,inv p->R g pf Fin k (st p).1 (st p).2):R g pf Fin (i::(pre++k)) E objs:=by
 intro ho;have hi:=AN (pf:=pf) (M:=vz st inv) (i::pre) (k:=k) ho;have hc:=RM (FZ (g:=g) (Fin:=Fin) hi.2 hk h2) pre;have h:=h1 hi.1;cases i with
 |dr ad az=>exact Dr.XY (λE objs hr a w hs=>hc _ _ _ (hr a w hs)) h
 |code c=>exact λa w hs=>nR hc (.code c) _ _ _ (h a w hs)
 |jK id=>exact λa w hs=>nR hc (.jK id) _ _ _ (h a w hs)
 |mark M=>exact λa w hs=>nR hc (.mark M) _ _ _ (h a w hs)
theorem qV(st:β->bq×List Ob)(inv:β->Prop){i j:It}(hk:mR k=true)(h1:R g pf Fin (i::j :: .mark (vz st inv)::k) E objs)(h2:∀p,inv p->R g pf Fin k (st p).1 (st p).2):R g pf Fin (i::j::k) E objs:=ait [j] st inv hk h1 h2
theorem ox{st:β->bq×List Ob}{inv:β->Prop}(p:β)(h1:inv p)(h3:oJ E (st p).1)(h4:objs=(st p).2):R g pf Fin (.mark (vz st inv)::k) E objs:=yC ⟨p,h1,h3,h4⟩
theorem pZ(hu:JC g)(i:Nat)(E':bq)(objs':List Ob){sz s:Nat}{aa:List (List D)}(ho:dq objs i=some (.arr sz s aa))(ht:gM k=true)
  (hE:oJ (qP (kp i s aa) E) E') (hO:wX (dj (objs.map (aR (kp i s aa))) i .dead) objs') (hr:R g pf Fin k E' objs') (jP:g.rZ=[]:=by rfl):R g pf Fin k E objs :=
 BS hu i ho ht (X5 E' hE (uI objs' hO ht hr)) jP
theorem bJ.frz(i s:Nat)(aa:List (List D)):bJ (kp i s aa (.ow i s)) (.d (.sl aa)):=by
 have:kp i s aa (.ow i s)=.d (.sl aa):=by simp[kp]
 rw[this];exact .refl _
end
theorem F0{g:G}{pf:Nat->cI}{ad:Array Oper}{Fin:Exit->Act->World->Prop}(hg:di g){dst:Option Nat}{T:Nat}{d x:Operand}{ty:Nat}{pos:String}{after:Array Edge}{gd:Option (Nat×Bool)}{az:List Oper}
  {id s sz r j:Nat} {τ:Ty} {aa:List (List D)} {row:List D} {l:List AV} {ds:List D} (rows':List (List D))
  (bt:aH ad.toList E gd=some true) (hd:aQ ⟨g.ty,g.N⟩ dst=true) (hx:ev E d=.el id s r j) (ho:dq objs id=some (.arr sz s aa)) (hT:g.ty T=some τ) (gY:aa[r]? = some row) (hc:gn (ev E x)=some l) (kx:yt l=some ds) (hl:ds.length=τ.size) (lY:j+τ.size<=sz)
  (eE:aa.set r (qQ row j ds)=rows')
  (hr:R g pf Fin (.dr ad az::k) (bh E dst .any) (dj objs id (.arr sz s rows'))) (dK:js pf d=.jz:=by rfl):R g pf Fin (.dr ad (⟨dst,.store T d x,ty,pos,after,gd⟩::az)::k) E objs:=by
 subst eE;exact Yc hg bt hd hx ho hT gY hc kx hl lY hr dK
end ax
namespace ax
open Go Go.RowKit
variable{gd:Option (Nat×Bool)}{after:Array Edge}{dst:Option Nat}{az:List Oper}{objs:List Ob}{pos:String}{k:List It}{ty:Nat}{E:bq}
section
variable {g:G} {pf:Nat->cI} {ad:Array Oper} {Fin:Exit->Act->World->Prop}
theorem Yx(hg:di g){T T2:Nat}{x y:Operand}{q:IntKind}{m n:Int}
  (bt:aH ad.toList E gd=some true) (hd:aQ ⟨g.ty,g.N⟩ dst=true) (hx:ev E x=.d (.v (.int q m))) (hy:ev E y=.d (.v (.int q n))) (hn:n≠0)
  (hr:R g pf Fin (.dr ad az::k) (bh E dst (.d (.v (.int q (q.wrap (m.tdiv n)))))) objs):R g pf Fin (.dr ad (⟨dst,.binOp .quo T x y T2,ty,pos,after,gd⟩::az)::k) E objs:=by
 refine cU (aK.up (aK.quiet hg bt hd aD λφ objs a w hρ hs=>?_)) hr;simp only[Op.operands]at hρ;have aP:=hρ x aD;rw[hx]at aP;have eC:=hρ y aD;rw[hy]at eC;simp only[RV]at aP eC;generalize k9:a.eval x=vx at aP;generalize o6:a.eval y=vy at eC;cases aP;cases eC;refine aZ hs (vv:=.int q (q.wrap (m.tdiv n))) ?_ ym;have aiu:(eqGuard .quo T x y (.int q m) (.int q n)).run g.P w=.ok () w:=oH wA;simp only[execOp,k9,o6,Sem.run_bind,aiu,Result.andThen_ok];simp[binOp,Op.intArith,Op.intDiv,hn]
theorem agk(hg:di g){T T2:Nat}{x y:Operand}{q:IntKind}{m n:Int}
  (bt:aH ad.toList E gd=some true) (hd:aQ ⟨g.ty,g.N⟩ dst=true) (hx:ev E x=.d (.v (.int q m))) (hy:ev E y=.d (.v (.int q n))) (hn:n≠0)
  (hr:R g pf Fin (.dr ad az::k) (bh E dst (.d (.v (.int q (m.tmod n))))) objs):R g pf Fin (.dr ad (⟨dst,.binOp .rem T x y T2,ty,pos,after,gd⟩::az)::k) E objs:=by
 refine cU (aK.up (aK.quiet hg bt hd aD λφ objs a w hρ hs=>?_)) hr;simp only[Op.operands]at hρ;have aP:=hρ x aD;rw[hx]at aP;have eC:=hρ y aD;rw[hy]at eC;simp only[RV]at aP eC;generalize k9:a.eval x=vx at aP;generalize o6:a.eval y=vy at eC;cases aP;cases eC;refine aZ hs (vv:=.int q (m.tmod n)) ?_ ym;have aiu:(eqGuard .rem T x y (.int q m) (.int q n)).run g.P w=.ok () w:=oH wA;simp only[execOp,k9,o6,Sem.run_bind,aiu,Result.andThen_ok];simp[binOp,Op.intArith,Op.intDiv,hn]
theorem agl(hg:di g){x y:Operand}{ts:Array Nat}{m n:Int}
  (bt:aH ad.toList E gd=some true) (hd:aQ ⟨g.ty,g.N⟩ dst=true) (hx:ev E x=.d (.v (.int .i64 m))) (hy:ev E y=.d (.v (.int .i64 n)))
  (hr:R g pf Fin (.dr ad az::k) (bh E dst (iV (min m n))) objs):R g pf Fin (.dr ad (⟨dst,.call {callee:=.builtin .min,args:=#[x,y],argTypes:=ts},ty,pos,after,gd⟩::az)::k) E objs:=by
 refine cU (aK.effect hg bt hd aD λφ a w hρ hs=>?_) hr;simp only[Op.operands,Call.operands]at hρ;have aP:=hρ x aD;rw[hx]at aP;have eC:=hρ y aD;rw[hy]at eC;simp only[RV]at aP eC;generalize k9:a.eval x=vx at aP;generalize o6:a.eval y=vy at eC;cases aP;cases eC;refine aZ hs (vv:=.int .i64 (min m n)) ?_ JY;simp[execOp,resolve,invoke,builtin,k9,o6,Builtin.min_,Builtin.min2];omega
end
end ax
namespace ax
open Go Go.RowKit Go.MapKept
end ax

namespace ax
open Go Go.RowKit Go.ChangeShapes Go.WideShapes
def xf (H:Nat->List D->Prop) (ty:Nat->Option Ty):List (Nat×Nat)->List D->Prop|[],row=>row=[]|(_,t)::fs,row=>∃(τ:Ty) (a b:List D),ty t=some τ/\row=a++b/\a.length=τ.size/\H t a/\xf H ty fs b
def c8 (ty:Nat->Option Ty) (B:Nat):Nat->Nat->List D->Prop
 |0,_,_=>False
 |n+1,t,row=>match ty t with
  |none=>False
  |some τ=>match τ.sh with
   | .int k=>∃m,row=[.v (.int k m)]/\k.min<=m/\m<=k.max
   | .bool=>∃b,row=[.v (.bool b)]
   | .str=>∃s:ByteArray,row=[.v (.string s)]/\s.size<=B
   | .struct jN=>xf (c8 ty B n) ty jN row
   | .slice e=>∃aa:List (List D),row=[.sl aa]/\(∀τ,ty e=some τ->aa.length*τ.bytes<=B)/\∀r∈aa,c8 ty B n e r
   |_=>False
def B9 (ty:Nat->Option Ty) (size:Nat):List (Nat×Nat)->Nat->Bool
 |[],o=>o==size
 |(f,t)::fs,o=>match ty t with
  |some τ=>f==o&&B9 ty size fs (o+τ.size)
  |none=>false
def dT (ty:Nat->Option Ty)(L:List Nat)(t:Nat):Bool :=
 match ty t with
 |some τ=>match τ.sh with
  | .int _=>true
  | .bool=>true
  | .str=>true
  | .struct jN=>jN.all (λf=>L.contains f.2)&&B9 ty τ.size jN 0
  | .slice e=>L.contains e&&match ty e with|some τ'=>decide (0<τ'.size)|none=>false
  |_=>false
 |none=>false
section
variable {H:Type} {enc:TypeId×Value->H} {P:Program} {w:World} {base:Nat} {held:Bool} {ty:Nat->Option Ty}
theorem vA (gv:jE P ty){t:Nat}{τ:Ty}(h:ty t=some τ):P.cellsOf t=τ.size:=by obtain⟨i,z,h1,_,h3,_⟩:=(gv t τ h).info;simp[Program.cellsOf,h1,h3]
theorem aiv (gv:jE P ty){t:Nat}{τ:Ty}(h:ty t=some τ):bH P t τ.sh:=(gv t τ h).sh
theorem sF {P:Program}{e:TypeId}{d:DataW H}{m:Nat}:∀{l:List (DataW H)},d∈l->m∈d.weights P e->m∈DataW.weightsAll P e l
 |x::l,h,hm=>by
  simp only[DataW.weightsAll,cu];rcases cE.1 h with rfl|h
  exact .inl hm;exact .inr (sF h hm)
theorem F1 {α:Type}[Inhabited α]{n:Nat}{p:Nat->α->Prop}(h:∀i,i<n->∃x,p i x):∃f:Nat->α,∀i,i<n->p i (f i):=by
 classical
 refine⟨λi=>if hi:i<n then Classical.choose (h i hi)else default,λi hi=>?_⟩;grind
theorem HQ (gv:jE P ty){L:List Nat}(hL:∀t∈L,dT ty L t=true)(B:Nat):∀(n t:Nat) (τ:Ty) (cs:List Value) (x:DataW H×List MemPlace),t∈L->DataW.trod enc P w base (λ_=>true) held n t cs=some x->ty t=some τ->(∀m∈x.1.weights P t,m<=B) ->
  ∃row,cs.length=τ.size/\row.length=τ.size/\c8 ty B n t row/\∀(j:Nat) (d:D),row[j]? = some d->∃v,cs[j]? = some v/\Rd (λ_=>True) w d v
 |0,_,_,_,_,_,h,_,_=>by simp[DataW.trod]at h
 |n+1,t,τ,cs,x,htL,h,hτ,Yy=>by
  have hd:=hL t htL;have eI:=aiv gv hτ;have h1:=(gv t τ hτ).one;unfold dT at hd;rw[hτ]at hd;simp only at hd
  have one:∀(d:D) (v:Value),τ.size=1->cs=[v]->Rd (λ_=>True) w d v->c8 ty B (n+1) t [d]->∃row,cs.length=τ.size/\row.length=τ.size/\c8 ty B (n+1) t row/\∀(j:Nat) (d:D),row[j]? = some d->∃v,cs[j]? = some v/\Rd (λ_=>True) w d v:=by
   intro d v hs rC hr hh;refine⟨[d],by rw[rC,hs];rfl,by rw[hs];rfl,hh,λj d' hj=>?_⟩;match j,hj with
   |0,hj=>simp_all
  cases hs:τ.sh with
  |one=>simp_all
  |int k=>rw[hs]at eI;simp only[bH]at eI;obtain⟨m,rC,hx,hwf⟩:=DataW.trod_int eI h;refine one (.v (.int k m)) _ (h1 J0) rC (.v _) ?_;simp only[c8,hτ,hs];simp only[Lit.wf,aV,decide_eq_true_eq]at hwf;simp_all
  |bool=>rw[hs]at eI;simp only[bH]at eI;obtain⟨b,rC,hx⟩:=DataW.trod_bool eI h;refine one (.v (.bool b)) _ (h1 J0) rC (.v _) ?_;simp only[c8,hτ,hs];simp_all
  |str=>rw[hs]at eI;simp only[bH]at eI;obtain⟨s,rC,hx,hwf⟩:=DataW.trod_string eI h;refine one (.v (.string s)) _ (h1 J0) rC (.v _) ?_;simp only[c8,hτ,hs];subst hx;exact⟨s,rfl,by simpa using Yy s.data.toList.length (by simp[DataW.weights])⟩
  |struct jN=>
   rw[hs]at eI hd;simp only[bH]at eI;simp only[aV,fB,ahD]at hd;obtain⟨fs,hu,Ek,_⟩:=eI;obtain⟨xs,n',hn,hx,dK,hxl,ez⟩:=DataW.trod_struct hu h;cases hn;rw[vA gv hτ]at dK
   have hmem:∀f∈jN,∃x,DataW.trod enc P w base (λ_=>true) held n f.2 ((cs.drop f.1).take (P.cellsOf f.2))=some x/\∀m∈x.1.weights P f.2,m<=B:=by
    intro f hf;rw[<-Ek]at hf;obtain⟨fl,ap5,rfl⟩:=gm.1 hf;obtain⟨i,hi,hii⟩:=aca.1 ap5;have e1:fs[i]? = some fl:=by grind
    have hix:i<xs.length:=by grind
    refine⟨xs[i],by grind,λm hm=>Yy m ?_⟩;rw[hx];simp only[DataW.weights,hu];exact DataW.weights_mem_each (j:=i) ir jD m hm
   have ap6:∀(t:Nat) (τ:Ty) (l:List Value) (x:DataW H×List MemPlace),t∈L->DataW.trod enc P w base (λ_=>true) held n t l=some x->ty t=some τ->(∀m∈x.1.weights P t,m<=B)->∃row,l.length=τ.size/\row.length=τ.size/\c8 ty B n t row/\∀(j:Nat) (d:D),row[j]? = some d->∃v,l[j]? = some v/\Rd (λ_=>True) w d v :=λt τ l x ht h h' h''=>HQ gv hL B n t τ l x ht h h' h''
   obtain⟨row,g1,g2,g3⟩:∃row,0+row.length=τ.size/\xf (c8 ty B n) ty jN row/\∀(j:Nat) (d:D),row[j]? = some d->∃v,cs[0+j]? = some v/\Rd (λ_=>True) w d v:=by
    have key:∀(fs:List (Nat×Nat)) (o:Nat),(∀f∈fs,f.2∈L)->B9 ty τ.size fs o=true->(∀f∈fs,∃x,DataW.trod enc P w base (λ_=>true) held n f.2 ((cs.drop f.1).take (P.cellsOf f.2))=some x/\∀m∈x.1.weights P f.2,m<=B) ->
      ∃row,o+row.length=τ.size/\xf (c8 ty B n) ty fs row/\∀(j:Nat) (d:D),row[j]? = some d->∃v,cs[o+j]? = some v/\Rd (λ_=>True) w d v:=by
     intro fs;induction fs with
     |nil=>intro o _ hc _;simp only[B9,beq_iff_eq]at hc;exact⟨[],by simpa using hc,rfl,by simp⟩
     |cons ft fs ih=>
      obtain⟨f,t⟩:=ft;intro o hm hc hf;simp only[B9]at hc;split at hc
      case h_2=>cases hc
      rename_i τ' aku;simp only[aV,beq_iff_eq]at hc;obtain⟨rfl,hc⟩:=hc;obtain⟨am5,h1,h2,h3⟩:=ih (f+τ'.size) (λg hg=>hm g (Xi _ hg)) hc λg hg=>hf g (Xi _ hg)
      obtain⟨x,hx,hxw⟩:=hf (f,t) (Xj ..);obtain⟨Uc,g1,g2,g3,g4⟩:=ap6 t τ' _ x (hm (f,t) (Xj ..)) hx aku hxw;rw[vA gv aku]at g1 g4;refine⟨Uc++am5,by rw[List.length_append];omega,⟨τ',Uc,am5,aku,rfl,g2,g3,h2⟩,λj d hj=>?_⟩;by_cases fE:j<Uc.length;rw [mv fE]at hj;obtain⟨v,g5,g6⟩:=g4 j d hj;rw[rP aq,Hk]at g5;exact⟨v,g5,g6⟩;rw [nA aq]at hj;obtain⟨v,g5,g6⟩:=h3 _ d hj;exact⟨v,by rw[show f+j=f+τ'.size+(j-Uc.length) by omega];exact g5,g6⟩
    grind
   refine⟨row,dK,by omega,?_,λj d hj=>by simp_all⟩;simp only[c8,hτ,hs];exact g2
  |array m e=>simp_all
  |map k e=>simp_all
  |slice e=>
   rw[hs]at eI hd;simp only[bH]at eI;simp only[aV,ahD]at hd;obtain⟨heL,hd⟩:=hd;split at hd
   case h_2=>cases hd
   rename_i τe aix;have aiy:=of_decide_eq_true hd;have hsz:=h1 J0;rcases DataW.trod_slice eI h with ⟨rC,_⟩|⟨a,len,cap,elems,az,n',hn,rC,hx,hb,hl,hm,a8,hel,hsp,_⟩
   refine one (.sl []) _ hsz rC (.nil _ _) ?_;simp only[c8,hτ,hs];simp_all
   ·cases hn;rcases ab5 len with h0|h0
    subst h0;refine one (.sl []) _ hsz rC (.nil _ _) ?_;simp only[c8,hτ,hs];simp_all;have hce:=vA gv aix
    have gY:∀i,i<len->∃row:List D,∃l:List Value,w.cells? base (a.add (i*τe.size)) τe.size=some l/\l.length=τe.size/\row.length=τe.size/\c8 ty B n e row/\∀(j:Nat) (d:D),row[j]? = some d->∃v,l[j]? = some v/\Rd (λ_=>True) w d v:=by
     intro i hi;have h2:=hel i hi;rw[hce]at h2;have h3:elems[i]? = some elems[i]:=dG aq;rw[h3]at h2;obtain⟨l,h4,h5⟩:=Option.bind_eq_some_iff.1 h2;obtain⟨row,g1,g2,g3,g4⟩:=HQ gv hL B n e τe l _ heL h5 aix λm hm=>Yy m (by rw[hx];simp only[DataW.weights,eI,cE,cu];exact .inr (.inl (sF (gm.2 ⟨elems[i],dy _,rfl⟩) hm)))
     grind
    obtain⟨R,hR⟩:=F1 gY;obtain⟨V,hV⟩:=F1 (λi hi=>hR i hi);obtain⟨b,o,sp⟩:=a;have FG:∀i,i<len->∀j,j<τe.size->w.cell? ((⟨b,o,sp⟩:Addr).add (i*τe.size) |>.add j)=(V i)[j]? := λi hi j hj=>(World.cells?_some (hV i hi).1).2.2 j hj
    have Yz:=FG 0 h0 0 aiy;simp only[Nat.zero_mul,Addr.add,if_true]at Yz;have hv0:(V 0)[0]? = some ((V 0)[0]' ir):=dG _;rw[hv0]at Yz;simp only[World.cell?]at Yz;split at Yz
    case h_2=>cases Yz
    rename_i c T fr bg;split at Yz;cases Yz;rename_i att;have:sp=none:=by simp_all
    subst this;have aiz:∀i,i<len->∀j,j<τe.size->c[o+i*τe.size+j]? = (V i)[j]? := λi hi j hj=>by have h2:=FG i hi j hj;rw[fU,fU]at h2;simp only[World.cell?,bg]at h2;simpa using h2
    refine one (.sl ((List.range len).map R)) _ hsz rC ?_ ?_
    have key:=Rd.sl (S:=λ_=>True) (w:=w) (aa:=(List.range len).map R) (b:=b) (o:=o) (cap:=cap) (sz:=τe.size) (cs:=c) (T:=T) (fr:=fr) (λi j=>((V i)[j]?).getD undef) trivial bg Q3 hm
     (λi r hi=>?_) (λi r j x hi hj=>?_) (λi r j x hi hj=>?_)
    simpa using key;have fE:=(fu.1 hi).1;simp at fE;rw[fP,Xg fE]at hi;simp at hi;subst hi;exact(hV i fE).2.2.1;have fE:=(fu.1 hi).1;simp at fE;rw[fP,Xg fE]at hi;simp at hi;subst hi;obtain⟨v,g1,_⟩:=(hV i fE).2.2.2.2 j x hj;have BP:=(fu.1 hj).1;rw[(hV i fE).2.2.1]at BP;rw[aiz i fE j BP,g1];rfl;grind;simp only [c8,hτ,hs];refine⟨_,rfl,λτ' aku=>?_,λr hr=>?_⟩;rw [aix]at aku; cases aku;have h2:=Yy ((elems.length+az.length)*P.bytesOf e) (by rw[hx];simp[DataW.weights,eI]);have h3:P.bytesOf e=τe.bytes:=by obtain⟨i,z,h1,_,_,h4,_⟩:=(gv e τe aix).info;simp[Program.bytesOf,h1,h4]
    rw[h3,a8,Nat.add_mul]at h2;simp;omega;grind
end
end ax
namespace ax
open Go Go.RowKit Go.ChangeShapes Go.WideShapes Go.ChangeAt
variable{W:World}
def vB (τ:Ty)(row:List D):AV :=
 match τ.agg with
 |true=>.agg (row.map .d)
 |false=>match row with
  |[x]=>.d x
  |_=>.any
def lT (ty:Nat->Option Ty) (B:Nat):List Nat->List AV->Prop|[],[]=>True|t::ts,a::dW=>(∃(n:Nat) (τ:Ty) (row:List D),ty t=some τ/\c8 ty B n t row/\row.length=τ.size/\a=vB τ row)/\lT ty B ts dW|_,_=>False
section
variable {H:Type} {enc:TypeId×Value->H} {P:Program} {ty:Nat->Option Ty}
theorem aiA{S:Nat->Prop}{w:World}{φ:List bI}{row:List D}{cs:List Value}(hl:row.length=cs.length)(h:∀(j:Nat) (d:D),row[j]? = some d->∃v,cs[j]? = some v/\Rd S w d v):aW S w φ (row.map .d) cs :=
 aW.sv Q3 λi x v hx hv=>by
  rw[fP]at hx;cases hr:row[i]? with
  |none=>simp_all
  |some d=>rw[hr]at hx;simp at hx;subst hx;obtain⟨v',h1,h2⟩:=h i d hr;rw[hv]at h1;cases h1;simpa only[RV]using h2
theorem YA(gv:jE P ty){L:List Nat}(hL:∀t∈L,dT ty L t=true){B:Nat}{base t:Nat}{τ:Ty}{v:Value}{d:DataW H}{ps:List MemPlace}(ht:t∈L)(hτ:ty t=some τ)
  (dA:Value.okWide P W .any base t v) (h:DataW.Trod enc P W 0 (λ_=>true) true t v d ps) (hw:∀m∈d.weights P t,m<=B) :
  ∃(n:Nat) (row:List D),c8 ty B n t row/\row.length=τ.size/\RV (λ_=>True) W [] (vB τ row) v:=by
 obtain⟨n,hn⟩:=h;obtain⟨row,h1,h2,h3,h4⟩:=HQ gv hL B n t τ _ _ ht hn hτ hw;refine⟨n,row,h3,h2,?_⟩;have hd:=hL t ht;have eI:=(gv t τ hτ).sh;have X9:=(gv t τ hτ).one;unfold dT at hd;rw[hτ]at hd;simp only at hd
 have single:(∃c,v.cells.toList=[c]/\v=c)->τ.agg=false->RV (λ_=>True) W [] (vB τ row) v:=by
  rintro⟨c,hc,rfl⟩ ha;unfold vB;rw[ha];have hs:=X9 ha;match row,h2 with
  |[x],_=>simp only;obtain⟨v',h5,h6⟩:=h4 0 x rfl;rw[hc]at h5;simp at h5;subst h5;simpa only[RV]using h6
  |[],h=>simp_all
  |_::_::_,h=>simp_all
 cases hs:τ.sh with
 |one=>simp_all
 |array m e=>simp_all
 |map k e=>simp_all
 |int k=>rw[hs]at eI;simp only[bH]at eI;obtain⟨m,rfl⟩:=okWide_int eI dA;exact single ⟨_,rfl,rfl⟩ J0
 |bool=>rw[hs]at eI;simp only[bH]at eI;obtain⟨m,rfl⟩:=okWide_bool eI dA;exact single ⟨_,rfl,rfl⟩ J0
 |str=>rw[hs]at eI;simp only[bH]at eI;obtain⟨m,rfl⟩:=okWide_string eI dA;exact single ⟨_,rfl,rfl⟩ J0
 |slice e=>rw[hs]at eI;simp only[bH]at eI;obtain⟨a,l,c,rfl⟩:=okWide_slice eI dA;exact single ⟨_,rfl,rfl⟩ J0
 |struct jN=>
  rw[hs]at eI;simp only[bH]at eI;obtain⟨fs,hu,_⟩:=eI;obtain⟨cs,rfl,_⟩:=okWide_struct hu dA;have ha:τ.agg=true:=by unfold Ty.agg;rw[hs]
  unfold vB;rw[ha];simp only[Value.cells]at h1 h4;simp only[RV];exact⟨cs.toList,by simp,aiA (by rw[h1,h2]) h4⟩
theorem F2(gv:jE P ty){L:List Nat}(hL:∀t∈L,dT ty L t=true){B:Nat}{W:World}{base:Nat}:∀(ts:List Nat) (vs:List Value) (ds:List (DataW H)) (ps:List MemPlace),(∀t∈ts,t∈L/\(ty t).isSome=true)->DataW.TrodAll enc P W 0 (λ_=>true) true ts vs ds ps ->
  (∀(j:Nat) (t:Nat) (v:Value),ts[j]? = some t->vs[j]? = some v->Value.okWide P W .any base t v)->(∀m∈DataW.weightsEach P ts ds,m<=B)->∃dW,aW (λ_=>True) W [] dW vs/\lT ty B ts dW/\ds.length=ts.length
 |[],[],[],_,_,_,_,_=>⟨[],by simp[aW],trivial,rfl⟩
 |[],_::_,_,_,_,h,_,_=>by simp[DataW.TrodAll]at h
 |[],[],_::_,_,_,h,_,_=>by simp[DataW.TrodAll]at h
 |_::_,[],_,_,_,h,_,_=>by simp[DataW.TrodAll]at h
 |_::_,_::_,[],_,_,h,_,_=>by simp[DataW.TrodAll]at h
 |t::ts,v::vs,d::ds,ps,hl,h,dA,hw=>by
  simp only[DataW.TrodAll]at h;obtain⟨p,q,h1,h2,rfl⟩:=h;obtain⟨htL,htS⟩:=hl t aD;obtain⟨τ,hτ⟩:=acd.1 htS;simp only[DataW.weightsEach,cu]at hw;obtain⟨n,row,h3,h4,h5⟩:=YA gv hL htL hτ (dA 0 t v rfl rfl) h1 λm hm=>hw m (.inl hm)
  obtain⟨dW,h6,h7,h8⟩:=F2 gv hL ts vs ds q (λt ht=>hl t Fl) h2 (λj t v ht hv=>dA (j+1) t v (by simpa using ht) Q2) λm hm=>hw m (.inr hm)
  exact⟨vB τ row::dW,by simp only[aW];simp_all,⟨⟨n,τ,row,hτ,h3,h4,rfl⟩,h7⟩,by simp[h8]⟩
theorem uO(hl:laidOutB P=true){W W':World}(hb:Below W.heap.size W W'){sp:Nat->Bool}:∀(ts:List Nat) (vs:List Value) (ds:List (DataW H)) (ps:List MemPlace),(∀t∈ts,P.readableRec t=true/\t<P.types.size)->DataW.TrodAll enc P W 0 (λ_=>true) true ts vs ds ps ->
  (∀p∈ps,p.block<W.heap.size/\sp p.block=true)->DataW.TrodAll enc P W' 0 sp true ts vs ds ps
 |[],[],[],_,_,h,_=>h
 |[],_::_,_,_,_,h,_=>by simp[DataW.TrodAll]at h
 |[],[],_::_,_,_,h,_=>by simp[DataW.TrodAll]at h
 |_::_,[],_,_,_,h,_=>by simp[DataW.TrodAll]at h
 |_::_,_::_,[],_,_,h,_=>by simp[DataW.TrodAll]at h
 |t::ts,v::vs,d::ds,ps,hr,h,hp=>by
  simp only[DataW.TrodAll]at h ⊢;obtain⟨p,q,h1,h2,rfl⟩:=h;obtain⟨hr1,RN⟩:=hr t aD
  exact⟨p,q,WideElems.Trod_stays hl hr1 RN h1 (λx hx=>hb.same (hp x oZ).1) (λx hx=>(hp x oZ).2),
   uO hl hb ts vs ds q (λt ht=>hr t Fl) h2 (λx hx=>hp x oZ),rfl⟩
theorem YB{f:Func}{s:ChangeSpec}{apart aB handsOn again:Bool}{W W':World}{args:Array Value}{v:Value}{ds gs:List (DataW H)}{before pa pv:List MemPlace}
  (hW:DataW.Whole enc P f.params.toList s.vars apart W args.toList ds gs before)
  (nK:∀(b:Nat) (sp:Nat->Bool) (hd:Bool),DataW.TrodAll enc P W' b sp hd f.resultTypes.toList (v.resultList f.resultTypes.size) (s.fn H (ds++gs)).results [])
  (mK:∀sp:Nat->Bool,(∀p∈before,sp p.block=true)->DataW.TrodAll enc P W' 0 sp true f.params.toList args.toList (s.fn H (ds++gs)).args pa)
  (agm:∀sp:Nat->Bool,(∀p∈before,sp p.block=true)->DataW.TrodVars enc P W' sp s.vars (s.fn H (ds++gs)).vars pv)
  (hps:before=pa++pv) (hb:Below W.heap.size W W')
  (dA:∀(j:Nat) (t:TypeId) (r:Value),f.resultTypes[j]? = some t->(v.resultList f.resultTypes.size)[j]? = some r->Value.okWide P W' .any 0 t r) :
  s.post enc P f apart aB handsOn again W args v W':=by
 have fE:∀p∈before,p.block<W.heap.size:=λp hp=>hW.lt p hp
 have hold:∀p∈before,(λb=>decide (b<W.heap.size)) p.block=true:=λp hp=>by simp_all
 refine⟨ds,gs,before,[],pa,pv,hW,nK _ _ _,mK _ hold,agm _ hold,World.keptBut_mono (λp hp=>⟨hp,?_⟩) (hb.frame (· ∈ before)),λ_=>?_⟩;simp_all;obtain ⟨_,_,_,_,_,hz,hn⟩:=hW;refine⟨dA,_,_,([]++pa)++pv,⟨[]++pa,pv,trodAll_append (mK _ (λ_ _=>rfl)) (nK _ _ _),agm _ (λ_ _=>rfl),rfl,?_,?_⟩,?_⟩;intro b off hp;have Ah:MemPlace.cell b off∈before:=by rw[hps];simpa using hp
 rw[hb.frozen (fE _ Ah)];exact hz b off Ah;intro ha;have:=hn ha;rw[hps]at this;simpa using this;simp_all
structure acM (s:ChangeSpec) (n:Nat):Prop where
 vars:s.vars=[]
 fn:∀(H:Type) (ds:List (DataW H)),ds.length=n->s.fn H ds={results:=[.lit (.bool true)],args:=ds}
theorem Ud(gv:jE P ty){L:List Nat}(hL:∀t∈L,dT ty L t=true)(hl:laidOutB P=true){f:Nat}{fn:Func}{s:ChangeSpec}{apart aB handsOn again:Bool}{tb:Nat}(hs:acM s fn.params.size)(hr:fn.resultTypes=#[tb])(htb:P.underlying tb=some .bool)
  (ap8:∀t∈fn.params.toList,t∈L/\(ty t).isSome=true) (uK:∀t∈fn.params.toList,P.readableRec t=true/\t<P.types.size)
  (ap9:∀dW,lT ty reachBytes fn.params.toList dW->br P f dW (bV true))  (yi:gI P (λ_=>True) W) {base:Nat} {args:Array Value} {ds gs:List (DataW H)} {before:List MemPlace} {vt:List Nat}
  (dA:∀(j:Nat) t v,fn.params[j]? = some t->args[j]? = some v->Value.okWide P W .any base t v) (hW:DataW.Whole enc P fn.params.toList s.vars apart W args.toList ds gs before)
  (Yy:(DataW.weightsEach P (fn.params.toList++vt) (ds++gs)).all (· ≤ reachBytes)=true) :
  Calls P f args W λe W'=>∃v,e=.returned v/\s.post enc P fn apart aB handsOn again W args v W':=by
 have hW':=hW;obtain⟨p,q,hA,hV,rfl,_,_⟩:=hW;rw[hs.vars]at hV;obtain⟨rfl,rfl⟩:=trodVars_none hV
 have RO:∀{ts:List Nat} {vs:List Value} {ds:List (DataW H)} {ps:List MemPlace},DataW.TrodAll enc P W 0 (λ_=>true) true ts vs ds ps->ds.length=ts.length:=by
  intro ts;induction ts with
  |nil=>intro vs ds ps h;cases vs<;>cases ds<;>simp[DataW.TrodAll]at h ⊢
  |cons t ts ih=>intro vs ds ps h;cases vs<;>cases ds<;>simp[DataW.TrodAll]at h ⊢;obtain⟨_,_,_,h,_⟩:=h;exact ih h
 have a8:=RO hA
 have hw:∀m∈DataW.weightsEach P fn.params.toList ds,m<=reachBytes:=λm hm=>by
  have key:∀(ts vt:List Nat) (ds:List (DataW H)),ds.length=ts.length->DataW.weightsEach P (ts++vt) (ds++[])=DataW.weightsEach P ts ds:=by
   intro ts;induction ts with
   |nil=>intro vt ds h;have:ds=[]:=kG.1 ln;subst this;cases vt<;>simp[DataW.weightsEach]
   |cons t ts ih=>intro vt ds h;cases ds with
    |nil=>simp at h
    |cons d ds=>simp only[jo,DataW.weightsEach];rw[ih vt ds ln]
  rw[key _ _ _ a8,fB]at Yy;simpa using Yy m hm
 obtain⟨dW,h1,h2,_⟩:=F2 gv hL fn.params.toList args.toList ds p ap8 hA (λj t v ht hv=>dA j t v (by simpa using ht) Q2) hw;have hc:=(ap9 dW h2).run (λ_=>True) W args.toList yi (λ_ _=>trivial) h1;rw[show args.toList.toArray=args from by simp]at hc;refine hc.mono ?_;rintro e W' ⟨v,rfl,hv,hb⟩;simp only[bV,RV]at hv;cases hv;have kx:ds.length=fn.params.size:=by rw[a8];simp
 have hfn:s.fn H (ds++[])={results:=[.lit (.bool true)],args:=ds}:=by rw[yq];exact hs.fn H ds kx
 refine⟨_,rfl,YB (pa:=p) (pv:=[]) hW' (λb sp hd=>?_) (λsp hsp=>?_) (λsp hsp=>?_) rfl hb ?_⟩;rw [hfn,hr];exact trodAll_mk1 (shut_bool htb true);rw [hfn];exact uO hl hb _ _ _ _ uK hA λx hx=>⟨hW'.lt x oZ,hsp x oZ⟩
 rw[hfn,hs.vars];rfl;exact ok_one hr rfl (okWide_bool_mk htb true)
end
end ax
namespace ax
open Go Go.RowKit
variable{gd:Option (Nat×Bool)}{after:Array Edge}{dst:Option Nat}{az:List Oper}{objs:List Ob}{pos:String}{k:List It}{x:Operand}{ty T:Nat}{E:bq}{l:List AV}{τ:Ty}{v:AV}
section
variable {g:G} {pf:Nat->cI} {ad:Array Oper} {Fin:Exit->Act->World->Prop}
open Classical in
theorem abS(hg:di g)
  {l:List D}  
  (bt:aH ad.toList E gd=some true) (hd:aQ ⟨g.ty,g.N⟩ dst=true) (hx:ev E x=.d (.bL l)) (hT:g.ty T=some τ) (hp:kJ τ (l.map .d) 0=some v)
  (hr:R g pf Fin (.dr ad az::k) (bh E dst v) objs):R g pf Fin (.dr ad (⟨dst,.load T x,ty,pos,after,gd⟩::az)::k) E objs:=by
 refine cU (aK.quiet hg bt hd aD λφ o₁ a w hρ hs=>?_) hr;simp only[Op.operands]at hρ;have aP:=hρ x aD;rw[hx]at aP;refine ke (ρA:=λy=>if y=x then .d (.bL l)else .any) hg.ty hs (λy=>?_) ?_;split;simp_all;simp[RV];simp only[dk,cS,fc,hT,if_true,hp]
open Classical in
theorem Hh(hg:di g)(m:Nat)
  {i off:Nat}    (hi:¬ pF g.φ0.length m i (.box l))
  (bt:aH ad.toList E gd=some true) (hd:aQ ⟨g.ty,g.N⟩ dst=true) (dK:kL pf x=.look (m+1)) (hx:ev E x=.lo i off) (ho:dq objs i=some (.box l)) (hT:g.ty T=some τ) (hp:kJ τ l off=some v)
  (hr:R g pf Fin (.dr ad az::k) (bh E dst v) objs):R g pf Fin (.dr ad (⟨dst,.load T x,ty,pos,after,gd⟩::az)::k) E objs:=by
 refine cU ?_ hr;simp only[bQ,dK];refine aK.fW hg m bt hd aD λφ a w bW hgr hρ hs=>?_
 simp only[Op.operands]at hρ;have aP:=hρ x aD;rw[hx]at aP;have EK:=aP;simp only[RV]at EK;obtain⟨b,hb,_⟩:=EK;have ho:dq bW i=some (.box l):=by rw[bE]at ho ⊢;exact Gr.Fy hgr ho u6 hi
 refine ke (ρA:=λy=>if y=x then .lo i off else .any) hg.ty hs (λy=>?_) ?_;split;simp_all;simp[RV];simp only[dk,cS,fc,hT,if_true,ho,hp]
theorem Hd(hg:di g)
  {i off:Nat}    (hi:g.φ0.length<=i)
  (bt:aH ad.toList E gd=some true) (hd:aQ ⟨g.ty,g.N⟩ dst=true) (dK:kL pf x=.look 4) (hx:ev E x=.lo i off) (ho:dq objs i=some (.box l)) (hT:g.ty T=some τ) (hp:kJ τ l off=some v)
  (hr:R g pf Fin (.dr ad az::k) (bh E dst v) objs):R g pf Fin (.dr ad (⟨dst,.load T x,ty,pos,after,gd⟩::az)::k) E objs :=
 Hh hg 3 (by unfold pF Ob.lvl;grind) bt hd dK hx ho hT hp hr
open Classical in
theorem Bc(hg:di g){d x:Operand}
  {i off:Nat} {l new:List AV} 
  (bt:aH ad.toList E gd=some true) (hd:aQ ⟨g.ty,g.N⟩ dst=true) (dK:js pf d=.bT (Nat.add 100 i)) (hx:ev E d=.lo i off) (ho:dq objs i=some (.box l)) (hT:g.ty T=some τ) (hc:gn (ev E x)=some new)
  (hl:Nat.beq (len new) τ.size=true) (lY:Nat.ble (Nat.add off τ.size) (len l)=true)
  (hr:R g pf Fin (.dr ad az::k) (bh E dst .any) (dj objs i (.box (gL l off new)))):R g pf Fin (.dr ad (⟨dst,.store T d x,ty,pos,after,gd⟩::az)::k) E objs:=by
 refine cU ?_ hr;simp only[bQ,dK];refine .nJ hg (cT bt) (dI hd) aD (λh=>absurd rfl (h _)) (λb hb _=>?_) λφ o₁ jF a w E₁ uv hv we hs=>?_
 cases hb;intro j y hj;rw[bE]at ho;rw[bx];by_cases e:j=i;subst e;exact⟨_,u7 (fu.1 ho).1,.inr ⟨.inr (.inl rfl),.inr (.inl rfl)⟩⟩;grind;rcases we with ⟨h,_⟩| ⟨_,h,_⟩| ⟨rfl,rfl⟩
 cases h;cases h;have hρ:=ly uv hv;simp only[Op.operands]at hρ;refine ke (ρA:=λy=>if y=d then .lo i off else if y=x then ev E x else .any) hg.ty hs (λy=>?_) ?_;split;simp_all;split;simp_all;simp[RV];have hxx:(if x=d then AV.lo i off else if x=x then ev E x else .any)=ev E x:=by split;rename_i h;rw[h,hx];rw[if_pos rfl]
 have aiC:(if x=d then AV.lo i off else ev E x)=ev E x:=by rw[if_pos rfl]at hxx;exact hxx
 simp only[dk,cS,fc,iL,hT,if_true,ho,aiC,hc,hl,lY,cond_true]
theorem ag9(hg:di g)(m:Nat)
  {id s sz q cq e:Nat} {z:List Value} {aa:List (List D)} {n:Int} (hi:¬ pF g.φ0.length m id (.arr sz s aa))
  (bt:aH ad.toList E gd=some true) (hd:aQ ⟨g.ty,g.N⟩ dst=true) (dK:nF pf #[x]=.look (m+1)) (hx:ev E x=.ow id s) (ho:dq objs id=some (.arr sz s aa)) (hT:g.ty T=some ⟨q,cq,z,.slice e⟩) (hn:(aa.length:Int)=n)
  (hr:R g pf Fin (.dr ad az::k) (bh E dst (iV n)) objs):R g pf Fin (.dr ad (⟨dst,.call {callee:=.builtin .len,args:=#[x],argTypes:=#[T]},ty,pos,after,gd⟩::az)::k) E objs:=by
 subst hn;refine cU ?_ hr;simp only[bQ,dK];refine aK.fW hg m bt hd aD λφ a w bW hgr hρ hs=>?_
 simp only[Op.operands,Call.operands]at hρ;have aP:=hρ x aD;rw[hx]at aP;simp only[RV]at aP;obtain⟨_,ph,fj,aP⟩:=aP;have ho:dq bW id=some (.arr sz s aa):=by rw[bE]at ho ⊢;exact Gr.Fy hgr ho u6 hi
 have hk:=cO hs fj ho;cases ph<;>try (simp only[bj]at hk;done)
 simp only[bj]at hk;exact alC
theorem jM(hg:di g)(hu:JC g)(hF:g.F=Fence.wide/\g.dep=0)(hY:∀(i l:Nat) (I:Nat->(Nat->Prop)->(Nat->Prop)->World->Prop) (B:Nat->Prop),g.φ0[i]? = some (bI.ext l I B)->l5 g.P Fence.wide 0 g.Y l I g.S0)(is:List Nat)(objs':List Ob){Y:YP}{f:Nat}{dW:List AV}{b7 bc:List Ob}{r:AV}(hc:aU g.P Y f dW b7 r bc)(vj:(∃(i l:Nat) (I:Nat->(Nat->Prop)->(Nat->Prop)->World->Prop) (B:Nat->Prop),g.φ0[i]? = some (bI.ext l I B))->Y=g.Y){args:Array Operand}{ts:Array Nat}
      {fs cs:List AV} (fE:∀i∈is,i<g.φ0.length)
  (bt:aH ad.toList E gd=some true) (hd:aQ ⟨g.ty,g.N⟩ dst=true) (dK:bQ pf (.call {callee:=.value x,args:=args,argTypes:=ts})=.bT 3) (hx:ev E x=.b9 f fs cs) (dA:isOk (len objs) is=true) (jS:fM objs is=some (b7.map (bG (rn is (len objs)))))
  (has:(fs++args.toList.map (ev E)++cs).map lO=iH (rn is (len objs)) dW) (ho:db is (bc.map (bG (rn is (len objs)))) objs=objs')
  (hr:R g pf Fin (.dr ad az::k) (bh E dst (dh (rn is (len objs)) r)) objs') :
  R g pf Fin (.dr ad (⟨dst,.call {callee:=.value x,args:=args,argTypes:=ts},ty,pos,after,gd⟩::az)::k) E objs:=by
 subst ho;refine cU ?_ hr;show aK g ad _ E objs (bQ pf (.call {callee:=.value x,args:=args,argTypes:=ts})) _ _
 rw[dK];have h:=nk (ad:=ad) (after:=after) (pos:=pos) (ty:=ty) (ts:=ts) (dst:=dst) hg hu hF hY is hc vj bt hd hx dA jS has;obtain⟨rO,Rx⟩:=tF dA;rw[bp]at Rx;have RF:is.length<=bc.length:=by have h1:=pU jS;have h2:=hc.len;simp_all
 refine⟨λhn=>absurd rfl (hn 3),λb hb _=>?_,λE₁ o₁ jF a w h1 h2 h3=>h.step E₁ o₁ jF a w h1 (by simp_all) h3⟩;cases hb;intro i y hi;have mG:=(fu.1 hi).1;by_cases hm:i∈is;have atv:=fE i hm;have:i<(db is (bc.map (bG (rn is (len objs)))) objs).length:=by rw[lQ (by simpa using RF)];omega
 refine⟨_,dG this,.inr ⟨?_,?_⟩⟩;exact .inl ⟨by omega,by unfold Ob.lvl;grind⟩;exact .inl ⟨by omega,by unfold Ob.lvl;grind⟩;exact⟨y,by rw[jt hm mG];exact hi,.inl rfl⟩
end
end ax
namespace ax
open Go Go.RowKit
section
variable {g:G} {pf:Nat->cI} {ad:Array Oper} {Fin:Exit->Act->World->Prop}
theorem Wr (hg:di g){dst:Option Nat}{T:Nat}{parts:Array (Nat×Operand)}{ty:Nat}{pos:String}{after:Array Edge}{gd:Option (Nat×Bool)}{az:List Oper}{k:List It}{E:bq}{objs:List Ob}
  {n sz cq e:Nat} {z:List Value} {τ:Ty} {aa:List (List D)} (l:List AV)
  (bt:aH ad.toList E gd=some true) (hd:aQ ⟨g.ty,g.N⟩ dst=true) (hT:g.ty T=some ⟨sz,cq,z,.array n e⟩) (he:g.ty e=some τ)
  (eE:kY (parts.toList.map λp=>(p.1,ev E p.2)) 0 τ.size=some aa) (hn:parts.size=n) (hsz:sz=n*τ.size) (hl:aa.flatten.map AV.d=l)
  (hr:R g pf Fin (.dr ad az::k) (bh E dst (.agg l)) objs):R g pf Fin (.dr ad (⟨dst,.build T parts,ty,pos,after,gd⟩::az)::k) E objs:=by
 subst hl;refine cU (aK.quiet hg bt hd aD λφ o₁ a w hρ hs=>?_) hr;simp only[Op.operands]at hρ;have hτ:=hg.ty _ _ hT;have aix:=hg.ty _ _ he;have eI:=hτ.sh;simp only[bH]at eI;obtain⟨zv,Js,VY⟩:=iC hτ w;have Kl:=hτ.zl;have hzs:zv.cells.toList.length=n*τ.size:=by simp_all
 have XG:(parts.map λ(i,x)=>(i,a.eval x)).toList=parts.toList.map λp=>(p.1,a.eval p.2):=by simp_all
 have hev:∀p∈parts.toList,RV (SS g.S0 φ) w φ (ev E p.2) (a.eval p.2):=λp hp=>hρ p.2 jD
 obtain ⟨cells,h1,h2,V3,h3⟩:=tz (S0:=g.S0) (φ:=φ) (w:=w) aix (parts.toList.map λp=>(p.1,ev E p.2)) (parts.toList.map λp=>(p.1,a.eval p.2)) 0 aa [] zv.cells.toList
  ir (by simp only[kn];exact aW.map _ _ _ λp hp=>hev p hp) eE aD ir
 simp only[yp]at h1;refine aZ hs (vv:=.agg cells.toArray) ?_ ?_
 have fo:(Instr.build T (parts.map λ(i,x)=>(i,a.eval x))).run g.P w=.ok (.agg cells.toArray) w:=by
  have hzc:zv.cells=zv.cells.toList.toArray:=by simp
  simp only[Instr.build,Sem.run_bind,Js,Result.andThen_ok,underlying,run_program,eI,Sem.run_pure,run_sizeOf aix,XG];rw[hzc,h1];simp
 simp only[execOp,Sem.run_bind,fo,Result.andThen_ok,Sem.run_pure];simp only [RV];refine⟨cells,rfl,?_⟩
 have Ek:∀(rs:List (List D)) (cs:List Value),cs.length=rs.length*τ.size->(∀(i:Nat) (r:List D),rs[i]? = some r->r.length=τ.size/\∀(j:Nat) (x:D),r[j]? = some x->∃v,cs[i*τ.size+j]? = some v/\Rd (SS g.S0 φ) w x v)->aW (SS g.S0 φ) w φ (rs.flatten.map AV.d) cs:=by
  intro rs;induction rs with
  |nil=>intro cs hc _;have:cs=[]:=kG.1 Q4;subst this;simp[aW]
  |cons r rs ih=>
   intro cs hc hg;obtain⟨g1,g2⟩:=hg 0 r rfl;have a8:τ.size<=cs.length:=by rw[hc,dx,vf];omega
   rw[List.flatten_cons,eR,<-List.take_append_drop τ.size cs];refine aW.append (aW.sv (by simp[g1];omega) λj u v hu hv=>?_) (ih _ (by rw[J7,hc,dx,vf];omega) λi r' hi=>?_);rw [fP]at hu;cases hj:r[j]? with
   |none=>rw[hj]at hu;cases hu
   |some x=>rw[hj]at hu;simp only[ss,Option.some.injEq]at hu;subst hu;obtain⟨v',h4,h5⟩:=g2 j x hj;have BP:=(fu.1 hj).1;rw[rP aq]at hv;rw[Nat.zero_mul,zj,hv]at h4;cases h4;simpa only[RV]using h5
   obtain ⟨g3,g4⟩:=hg (i+1) r' (by simpa using hi);refine⟨g3,λj x hj=>?_⟩;obtain⟨v,h4,h5⟩:=g4 j x hj;refine⟨v,?_,h5⟩;rw[Hk,<-h4];congr 1;rw[vf];omega
 grind
end
end ax
namespace ax
open Go Go.RowKit
section
variable {g:G} {pf:Nat->cI} {ad:Array Oper} {Fin:Exit->Act->World->Prop}
theorem run_makeSlice (hg:di g){w:World}{T e q cq:Nat}{z:List Value}{zv:Value}{by2:Nat}{sh:Sh}{n:Int}(hT:g.ty T=some ⟨q,cq,z,.slice e⟩)(he:g.ty e=some ⟨1,by2,[zv],sh⟩)(h0:0<=n)(hn:n*by2<=1000000)(V8:n<=1000000) :
  (Instr.makeSlice T (.int .i64 n) (.int .i64 n)).run g.P w=.ok (.slice (some ⟨w.heap.size,0,none⟩) n.toNat n.toNat) (w.alloc (.cells (List.replicate n.toNat zv).toArray e)):=by
 have Jz:=(hg.ty _ _ hT).sh;simp only[bH]at Jz;have hτ:=hg.ty _ _ he;obtain⟨inf,z0,hi,hz,hsz,Lc,hzz⟩:=hτ.info
 have hw:IntKind.i64.wrap n=n:=by
  have e:IntKind.i64.wrap n=if n % 18446744073709551616 ≥ 9223372036854775808 then n % 18446744073709551616-18446744073709551616 else n % 18446744073709551616:=by simp[IntKind.wrap,IntKind.signed,IntKind.bits]
  omega
 obtain⟨zv',Js,VY⟩:=iC hτ w;have atx:inf.bytes=by2:=Lc;have hmul:(inf.bytes:Int)*n<=1000000:=by grind
 have arR:n.toNat*inf.bytes<=1000000:=by grind
 have c1:((decide (n<0)||decide ((inf.bytes:Int)*n > 2 ^ 48))||decide (n<0)||decide (n > n))=false:=by simp;omega
 have BR:¬ n.toNat*inf.bytes > roomBytes:=by unfold roomBytes;omega
 simp only[Instr.makeSlice,underlying,Sem.run_bind,run_program,Result.andThen_ok,Jz,Sem.run_pure,asInt,asIntOf,typeInfo,hi,hw];rw[Sem.run_ite,if_neg (by rw[c1];simp)];simp only[Sem.run_bind,Sem.run_pure,Result.andThen_ok,askRoom];rw[Sem.run_ite,if_neg BR];simp only[Sem.run_bind,Sem.run_pure,Result.andThen_ok,run_sizeOf hτ];by_cases qI:n.toNat*1=0;rw [Sem.run_ite,if_pos qI];have:n.toNat=0:=by omega
 simp[this,newRow,run_newObj];grind;rw [Sem.run_ite,if_neg qI];have hzc:zv'.cells=#[zv]:=by apply NM.1;simpa using VY
 simp only[Sem.run_bind,Js,Sem.run_pure,Result.andThen_ok,newRow,run_newObj,hzc]
 have:(Array.map (λx=>(#[zv]:Array Value)[x % (#[zv]:Array Value).size]!) (Array.range (n.toNat*1)))=(List.replicate n.toNat zv).toArray:=by
  apply NM.1;refine List.ext_getElem aD λi h1 h2=>?_
  simp[Nat.mod_one]
 simp_all
theorem Ld (hg:di g){dst:Option Nat}{T:Nat}{x y:Operand}{ty:Nat}{pos:String}{after:Array Edge}{gd:Option (Nat×Bool)}{az:List Oper}{k:List It}{E:bq}{objs:List Ob}
  {q cq e by2:Nat} {z:List Value} {zv:Value} {sh:Sh} {n:Int} (aa:List (List D))
  (bt:aH ad.toList E gd=some true) (hd:aQ ⟨g.ty,g.N⟩ dst=true) (hx:ev E x=.d (.v (.int .i64 n))) (hy:ev E y=.d (.v (.int .i64 n))) (hT:g.ty T=some ⟨q,cq,z,.slice e⟩) (he:g.ty e=some ⟨1,by2,[zv],sh⟩)
  (h0:0<=n) (hn:n*by2<=1000000) (V8:n<=1000000) (eE:List.replicate n.toNat [D.v zv]=aa)
  (hr:R g pf Fin (.dr ad az::k) (bh E dst (.ow (len objs) 0)) (objs++[.arr 1 0 aa])) :
  R g pf Fin (.dr ad (⟨dst,.makeSlice T x y,ty,pos,after,gd⟩::az)::k) E objs:=by
 subst eE;refine cU (aK.eU hg (.add _ _) bt hd aD λφ a w hρ hs=>?_) hr;simp only[Op.operands]at hρ;have aP:=hρ x aD;rw[hx]at aP;have eC:=hρ y aD;rw[hy]at eC;simp only[RV]at aP eC;generalize k9:a.eval x=vx at aP;generalize o6:a.eval y=vy at eC;cases aP;cases eC;refine⟨.value (.slice (some ⟨w.heap.size,0,none⟩) n.toNat n.toNat),.slice (some ⟨w.heap.size,0,none⟩) n.toNat n.toNat,w.alloc (.cells (List.replicate n.toNat zv).toArray e),φ++[.o8 1 0 (.slice (some ⟨w.heap.size,0,none⟩) n.toNat n.toNat) (some w.heap.size)],?_,.inl rfl,?_,?_⟩;simp[execOp,k9,o6,run_makeSlice hg hT he h0 hn V8];simp only [RV];refine⟨⟨_,_,_,rfl⟩,.o8 1 0 (.slice (some ⟨w.heap.size,0,none⟩) n.toNat n.toNat) (some w.heap.size),by rw[bp,<-hs.len];simp,λNn s' x' pO he=>?_⟩;grind;refine j8.new hs (λb hb=>by simp only [bI.bl]at hb; cases hb; rfl) ?_;simp only[bj];refine⟨trivial,trivial,λr hr=>by simp_all,.inr ⟨w.heap.size,0,n.toNat,List.replicate n.toNat zv,e,by simp,rfl,heap_alloc_new _ _,by simp,by unfold maxLen;omega,by simp,λi r j x hi hj=>?_⟩⟩;have mG:=(fu.1 hi).1;rw[List.length_replicate]at mG;rw[List.getElem?_replicate,if_pos mG]at hi;cases hi;cases j with
 |zero=>simp at hj;subst hj;exact⟨zv,by simp_all,.v _⟩
 |succ j=>simp at hj
end
end ax
namespace ax
open Go Go.RowKit Go.MapKept
mutual
def p0 (i:Nat) (ds:List (Value×D)):AV->AV| .ow j t=>bif Nat.beq j i then .any else .ow j t| .el j t r o=>bif Nat.beq j i then .any else .el j t r o| .vw j t r=>bif Nat.beq j i then .any else .vw j t r| .lo j o=>bif Nat.beq j i then .any else .lo j o| .mp j=>bif Nat.beq j i then .d (.map ds)else .mp j| .yl j=>bif Nat.beq j i then .any else .yl j| .agg l=>.agg (Le i ds l)| .cP l=>.cP (Le i ds l)| .b9 f a c=>.b9 f (Le i ds a) (Le i ds c)| .any=>.any| .tt=>.tt| .ff=>.ff| .d x=>.d x| .fs r=>.fs r
def Le (i:Nat) (ds:List (Value×D)):List AV->List AV|[]=>[]|x::l=>p0 i ds x::Le i ds l
end
mutual
theorem RP {S S':Nat->Prop}{w:World}{φ φ':List bI}{i:Nat}{ds:List (Value×D)}(hk:dL S w S' w)(hp:∀j,j≠i->φ'[j]? = φ[j]?)(ho:∀v,RV S w φ (.mp i) v->Rd S' w (.map ds) v) :
  ∀(x:AV) (v:Value),RV S w φ x v->RV S' w φ' (p0 i ds x) v
 | .any,_,_=>by simp[RV,p0]
 | .tt,_,h=>by simpa[RV,p0]using h
 | .ff,_,h=>by simpa[RV,p0]using h
 | .d x,v,h=>by simp only[RV,p0]at h ⊢;exact h.mono hk
 | .fs aa,v,h=>by simp only[RV,p0]at h ⊢;exact⟨h.1.mono hk,h.2⟩
 | .agg l,v,h=>by simp only[RV,p0]at h ⊢;obtain⟨cs,h1,h2⟩:=h;exact⟨cs,h1,xi hk hp ho l cs h2⟩
 | .lo j off,v,h=>by
  simp only[p0];cases hj:Nat.beq j i;have:j≠i:=λe=>by subst e; simp at hj
  simp only[RV,cond_false]at h ⊢;simp_all;simp[RV]
 | .el j t r o,v,h=>by
  simp only[p0];cases hj:Nat.beq j i;have:j≠i:=λe=>by subst e; simp at hj
  simp only[RV,cond_false]at h ⊢;simp_all;simp[RV]
 | .vw j t r,v,h=>by
  simp only[p0];cases hj:Nat.beq j i;have:j≠i:=λe=>by subst e; simp at hj
  simp only[RV,cond_false]at h ⊢;simp_all;simp[RV]
 | .mp j,v,h=>by
  simp only[p0];cases hj:Nat.beq j i;have:j≠i:=λe=>by subst e; simp at hj
  simp only[cond_false];simp only[RV]at h ⊢;simp_all;have:=cB hj; subst this;simp only[cond_true];have:=ho v h;simpa only[RV]using this
 | .yl j,v,h=>by
  simp only[p0];cases hj:Nat.beq j i;have:j≠i:=λe=>by subst e; simp at hj
  simp only[RV,cond_false]at h ⊢;simp_all;simp[RV]
 | .ow j t,v,h=>by
  simp only[p0];cases hj:Nat.beq j i;have:j≠i:=λe=>by subst e; simp at hj
  simp only[RV,cond_false]at h ⊢;simp_all;simp[RV]
 | .cP l,v,h=>by simp only[RV,p0]at h ⊢;obtain⟨cs,h1,h2⟩:=h;exact⟨cs,h1,xi hk hp ho l cs h2⟩
 | .b9 f a c,v,h=>by simp only[RV,p0]at h ⊢;obtain⟨va,vc,h1,h2,h3⟩:=h;exact⟨va,vc,h1,xi hk hp ho a va h2,xi hk hp ho c vc h3⟩
theorem xi {S S':Nat->Prop}{w:World}{φ φ':List bI}{i:Nat}{ds:List (Value×D)}(hk:dL S w S' w)(hp:∀j,j≠i->φ'[j]? = φ[j]?)(ho:∀v,RV S w φ (.mp i) v->Rd S' w (.map ds) v) :
  ∀(l:List AV) (vs:List Value),aW S w φ l vs->aW S' w φ' (Le i ds l) vs
 |[],[],_=>by simp[aW,Le]
 |[],_::_,h=>by simp[aW]at h
 |_::_,[],h=>by simp[aW]at h
 |a::l,v::vs,h=>by simp only[aW,Le]at h ⊢;exact⟨RP hk hp ho a v h.1,xi hk hp ho l vs h.2⟩
end
section
variable {g:G} {pf:Nat->cI} {ad:Array Oper} {Fin:Exit->Act->World->Prop}
theorem yI (hu:JC g){k:List It}{E:bq}{objs:List Ob}(i:Nat)(ds:List (Value×D))(hn:g.φ0.length<=i)(ho:dq objs i=some (.map (ds.map λp=>(p.1,AV.d p.2))))(ht:gM k=true)
  (hr:R g pf Fin k (qP (p0 i ds) E) (dj (objs.map (aR (p0 i ds))) i .dead)) (jP:g.rZ=[]:=by rfl):R g pf Fin k E objs:=by
 refine mT ht (λa w hs=>?_) hr;obtain⟨φ,h1,h2,h3,h4,h5,h6⟩:=hs;rw[bE]at ho;have mG:=(fu.1 ho).1;have acA:i<φ.length:=by rw[h1.len];exact mG
 have KU:∀b,eH φ b->g.S0 b:=λb hb=>(h2 b hb).elim (hu.up b) (hu.x b)
 have hJ:∀b,eH (φ.set i .no) b->eH φ b:=λb hb=>by
  rcases lP hb with ⟨j,q,_,g1,g2⟩|g1
  exact⟨j,q,g1,g2⟩;simp[bI.bl]at g1
 have hp:∀j,j≠i->(φ.set i .no)[j]? = φ[j]? := λj hj=>wB (λe=>hj e.symm)
 have bF:dL (SS g.S0 φ) w (SS g.S0 (φ.set i .no)) w:=λb hb _=>⟨⟨hb.1,λhc=>hb.2 (hJ b hc)⟩,rfl⟩
 have fj:φ[i]? = some φ[i]:=dG acA
 have uK:∀v,RV (SS g.S0 φ) w φ (.mp i) v->Rd (SS g.S0 (φ.set i .no)) w (.map ds) v:=λv hv=>by
  simp only[RV]at hv;obtain⟨b,fj,rfl⟩:=hv;have hk:=h1.ok i _ _ fj ho;simp only[bj]at hk;obtain⟨ents,jr,bg,am7,am8⟩:=hk;have hb:eH φ b:=⟨i,_,fj,rfl⟩
  have JB:¬ eH (φ.set i .no) b:=λhc=>by
   rcases lP hc with ⟨j,q,hj,g1,g2⟩|g1
   exact hj (h1.jO _ _ _ _ _ g1 fj g2 rfl);simp[bI.bl]at g1
  have key:∀(j:Nat) (x:Value×D),ds[j]? = some x->∃e,ents[j]? = some e/\Rd (SS g.S0 φ) w x.2 e.val:=λj x hj=>by
   obtain⟨u,g1,g2⟩:=am8.get j (x:=.d x.2) (by simp[hj]);rw[fP,Array.getElem?_toList]at g1;cases he:ents[j]? with
   |none=>simp_all
   |some e=>rw[he]at g1;simp at g1;subst g1;exact⟨e,rfl,by simpa only[RV]using g2⟩
  refine Rd.map (λj=>((ents[j]?).map (·.val)).getD undef) ⟨KU b hb,JB⟩ bg (by simpa[kn,Function.comp_def]using am7) (λj x hj=>?_) (λj x hj=>?_);grind;obtain ⟨e,g1,g2⟩:=key j x hj;simp only[g1,ss,Option.getD_some];exact g2.mono bF
 have hf:=RP (ds:=ds) bF hp uK
 refine⟨φ.set i .no,h1.KS (p0 i ds) W5 (λj p b hj hb=>?_) (λj pO hj=>?_) hf,λb hb=>h2 b (hJ b hb),λu=>?_,h4,JA.Kn jP h5 hJ,h6.Kn (λj l I B h=>⟨B,by
  grind⟩) (λj p hi=>by
  obtain⟨p',h7,h8⟩:=h6.le j p hi;grind)⟩
 by_cases uw:j=i;subst uw;rw[u7 acA]at hj;cases hj;exact hb.elim;simp_all;rw [bx]at hj;grind;rcases tE (f:=p0 i ds) E u with h| h
 rw[h];exact hf _ _ (h3 u);rw[h];simp[RV]
theorem F3 (hg:di g){dst:Option Nat}{T:Nat}{x y:Operand}{ok:Bool}{ty:Nat}{pos:String}{after:Array Edge}{gd:Option (Nat×Bool)}{az:List Oper}{k:List It}{E:bq}{objs:List Ob}
  {q cq kt et:Nat} {ds:List (Value×D)} {z:List Value} {kv zv:Value} {kd:TypeDesc} {r:Option (Nat×AV)}
  (bt:aH ad.toList E gd=some true) (hd:aQ ⟨g.ty,g.N⟩ dst=true) (hx:ev E x=.d (.map ds)) (hy:ev E y=.d (.v kv)) (hT:g.ty T=some ⟨q,cq,z,.map kt et⟩)
  (o7:g.P.underlying kt=some kd) (Bu:IsKey kd kv) (hf:l7 kd kv (ds.map λp=>(p.1,AV.d p.2)) 0=some r) (hz:(g.P.info? et).bind (·.zero)=some zv)
  (hr:R g pf Fin (.dr ad az::k) (bh E dst (pV ok (lZ zv) r)) objs):R g pf Fin (.dr ad (⟨dst,.lookup T x y ok,ty,pos,after,gd⟩::az)::k) E objs:=by
 refine cU (aK.quiet hg bt hd aD λφ bW a w hρ hs=>?_) hr;simp only[Op.operands]at hρ;have aP:=hρ x aD;rw[hx]at aP;have eC:=hρ y aD;rw[hy]at eC;simp only[RV]at aP eC;generalize o6:a.eval y=vy at eC;cases eC;generalize Wa:a.eval x=vx at aP
 obtain⟨b,ents,jr,rfl,bg,dH⟩:∃(b:Nat) (ents:Array MapEntry) (jr:Nat),vx=.map (some b)/\w.heap[b]? = some (.map ents jr)/\nC (SS g.S0 φ) w φ (ds.map λp=>(p.1,AV.d p.2)) ents.toList:=by
  cases aP with
  |map g' hS hb hk yg Ei=>
   refine⟨_,_,_,rfl,hb,by simpa[kn,Function.comp_def]using hk,?_⟩;have a8:=congrArg List.length hk;simp only[fQ,ab9]at a8;refine aW.sv ir λj u v hu hv=>?_
   rw[fP,fP]at hu;cases hj:ds[j]? with
   |none=>simp_all
   |some x=>rw[hj]at hu;simp at hu;subst hu;rw[fP,Array.getElem?_toList,yg j x hj]at hv;cases hv;simpa only[RV]using Ei j x hj
 have lf:g.P.underlying T=some (.map kt et):=by have:=(hg.ty _ _ hT).sh;simpa only[bH]using this
 have hzero:(zeroValue et).run g.P w=.ok zv w:=by exact Xu
 have hzR:RV (SS g.S0 φ) w φ (lZ zv) zv:=ix (l:=[]) (E:=[]) (E₁:=[]) (a:={tmps:=#[],defers:=[]}) aD (λt=>by simp[lk,RV]) (.const zv);have c0:=kI dH hf;cases r with
 |none=>simp only at c0;refine aZ hs (vv:=if ok then .tuple #[zv,.bool false]else zv) ?_ ?_;simp[execOp,Instr.lookup,run_underlying lf,Wa,run_getObj_map bg,o6,run_checkKey o7 Bu,run_findKey o7 c0,hzero];simp only [pV];cases ok;simpa using hzR;simp only [if_true,RV];exact Xt
 |some p=>obtain⟨j,v⟩:=p;obtain⟨vv,h1,h2,_⟩:=c0;refine aZ hs (vv:=if ok then .tuple #[vv,.bool true]else vv) ?_ ?_;simp[execOp,Instr.lookup,run_underlying lf,Wa,run_getObj_map bg,o6,run_checkKey o7 Bu,run_findKey o7 h1];simp only [pV];cases ok;simpa using h2;simp only [if_true,RV];exact Xv
end
end ax
namespace ax
open Go Go.RowKit Go.MapKept
def dOf:AV->D| .d x=>x|_=>.v undef
def HR (l:List (Int×AV)):List (Value×D):=(ct l).map λp=>(p.1,dOf p.2)
theorem RQ {l:List (Int×AV)}(h:∀p∈l,∃n,p.2=iV n):((HR l).map λp=>(p.1,AV.d p.2))=ct l:=by
 simp only[HR,ct,kn];refine Kb λp hp=>?_
 obtain⟨n,hn⟩:=h p hp;simp[hn,dOf,iV]
theorem acN (l:List (Int×AV)):(HR l).length=l.length:=by simp[HR,ct]
section
variable {g:G} {pf:Nat->cI} {ad:Array Oper} {Fin:Exit->Act->World->Prop}
theorem Be (hg:di g){dst:Option Nat}{T:Nat}{x y:Operand}{ok:Bool}{ty:Nat}{pos:String}{after:Array Edge}{gd:Option (Nat×Bool)}{az:List Oper}{k:List It}{E:bq}{objs:List Ob}
  {q cq q' pA kt et:Nat} {z z':List Value} {n:Int} {zv:Value} (l:List (Int×AV)) (hl:∀p∈l,∃n,p.2=iV n)
  (bt:aH ad.toList E gd=some true) (hd:aQ ⟨g.ty,g.N⟩ dst=true) (hx:ev E x=.d (.map (HR l))) (hy:ev E y=.d (.v (.int .i64 n))) (hT:g.ty T=some ⟨q,cq,z,.map kt et⟩)
  (o7:g.ty kt=some ⟨q',pA,z',.int .i64⟩) (hz:(g.P.info? et).bind (·.zero)=some zv) {v:AV} (hv:jG ok (lZ zv) (iT l n)=v)
  (hr:R g pf Fin (.dr ad az::k) (bh E dst v) objs):R g pf Fin (.dr ad (⟨dst,.lookup T x y ok,ty,pos,after,gd⟩::az)::k) E objs:=by
 subst hv;have hu:=(hg.ty _ _ o7).sh;simp only[bH]at hu;obtain⟨r,h1,h2⟩:=nO (k':=.i64) (n:=n) (l:=l) (i:=0);refine F3 hg bt hd hx hy hT hu NJ (by rw[RQ hl];exact h1) hz ?_;have:pV ok (lZ zv) r=jG ok (lZ zv) (iT l n):=by rw[<-h2];cases r<;>rfl
 simp_all
theorem aiD (hg:di g){dst:Option Nat}{T:Nat}{x:Operand}{ty:Nat}{pos:String}{after:Array Edge}{gd:Option (Nat×Bool)}{az:List Oper}{k:List It}{E:bq}{objs:List Ob}
  {q cq kt et:Nat} {z:List Value} {ds:List (Value×D)} {n:Int}
  (bt:aH ad.toList E gd=some true) (hd:aQ ⟨g.ty,g.N⟩ dst=true) (hx:ev E x=.d (.map ds)) (hT:g.ty T=some ⟨q,cq,z,.map kt et⟩) (hn:(ds.length:Int)=n)
  (hr:R g pf Fin (.dr ad az::k) (bh E dst (iV n)) objs):R g pf Fin (.dr ad (⟨dst,.call {callee:=.builtin .len,args:=#[x],argTypes:=#[T]},ty,pos,after,gd⟩::az)::k) E objs:=by
 subst hn;refine cU (aK.quiet hg bt hd aD λφ bW a w hρ hs=>?_) hr;simp only[Op.operands,Call.operands]at hρ;have aP:=hρ x aD;rw[hx]at aP;simp only[RV]at aP;have hu:=(hg.ty _ _ hT).sh;simp only[bH]at hu;generalize Wa:a.eval x=vx at aP;cases aP with
 |@map _ b jr ents g' hS hb hk yg Ei=>have a8:=congrArg List.length hk;simp only[fQ,ab9]at a8;refine aZ hs (vv:=.int .i64 ds.length) ?_ JY;simp[execOp,resolve,invoke,builtin,Wa,Builtin.len_,underlying,hu,run_getObj_map hb,goInt,a8]
end
end ax
namespace ax
open Go Go.RowKit
def elV (x:Nat×Nat×Nat)(j:Nat):Value:=.pointer (some ⟨x.1,x.2.1+j,none⟩)
section
variable {g:G} {pf:Nat->cI} {ad:Array Oper} {Fin:Exit->Act->World->Prop}
theorem am9 {S0:Nat->Prop}{φ:List bI}{objs:List Ob}{w:World}(hs:HS S0 φ objs w){id:Nat}{kx:List (Nat×Nat×Nat)}{aa:List (List D)}(ho:dq objs id=some (.Jv kx aa)) :
  φ[id]? = some (.Jv (kx.map (·.1)))/\(kx.map (·.1)).Nodup/\aa.length=kx.length/\∀(i:Nat) (x:Nat×Nat×Nat) (r:List D),kx[i]? = some x->aa[i]? = some r ->
   ∃(cs:List Value) (T:Nat),w.heap[x.1]? = some (.cells cs.toArray T (0,0))/\r.length<=x.2.2/\x.2.2<=maxLen/\x.2.1+r.length<=cs.length/\∀(j:Nat) (d:D),r[j]? = some d->∃y,cs[x.2.1+j]? = some y/\Rd (SS S0 φ) w d y:=by
 rw[bE]at ho;have mG:=(fu.1 ho).1;have ana:φ[id]? = some (φ[id]'(by rw[hs.len];exact mG)):=dG _;generalize φ[id]'(by rw[hs.len];exact mG)=pi at ana;have mo:=hs.ok id pi _ ana ho;cases pi<;>try (simp only[bj]at mo;done)
 simp only[bj]at mo;grind
theorem anb (hg:di g){dst:Option Nat}{T:Nat}{p x:Operand}{ty:Nat}{pos:String}{after:Array Edge}{gd:Option (Nat×Bool)}{az:List Oper}{k:List It}{E:bq}{objs:List Ob}
  (id r:Nat) {j:Nat} {y:Nat×Nat×Nat} {τ:Ty} {kx:List (Nat×Nat×Nat)} {aa:List (List D)} {row:List D} (d:D)
  (bt:aH ad.toList E gd=some true) (hd:aQ ⟨g.ty,g.N⟩ dst=true) (hx:ev E p=.d (.v (elV y j))) (ho:dq objs id=some (.Jv kx aa)) (hT:g.ty T=some τ) (hsz:τ.size=1) (hy:kx[r]? = some y) (gY:aa[r]? = some row) (BP:j<row.length) {l:List AV} (hc:gn (ev E x)=some l) (V7:yt l=some [d])
  (hr:R g pf Fin (.dr ad az::k) (bh E dst .any) (dj objs id (.Jv kx (aa.set r (row.set j d))))) (dK:js pf p=.jz:=by rfl):R g pf Fin (.dr ad (⟨dst,.store T p x,ty,pos,after,gd⟩::az)::k) E objs:=by
 refine cU ?_ hr;simp only[bQ,dK];refine aK.effect hg bt hd aD λφ a w hρ hs=>?_
 simp only[Op.operands]at hρ;have aP:=hρ p aD;rw[hx]at aP;have eC:=hρ x aD;simp only[RV]at aP;generalize k9:a.eval p=vx at aP;cases aP;obtain⟨fj,rO,mF,hk⟩:=am9 hs ho;obtain⟨cs,T',bg,h1,h2,h3,h4⟩:=hk r y row hy gY;have hτ:=hg.ty _ _ hT;obtain⟨wc,Hs⟩:=ig eC hc;have wc:=pP wc V7;obtain⟨c,aty,anc⟩:=wc.get 0 rfl;have aqa:=wc.length;simp only[fQ,dx,mu]at aqa;obtain⟨w',fo,cY⟩:=mP (P:=g.P) hτ (y.2.1+j) bg rfl Hs aq aq;refine⟨.skip,undef,w',φ.set id (.Jv (kx.map (·.1))),?_,.inr ⟨rfl,rfl⟩,by simp[RV],?_⟩;simp only[execOp,Instr.storeAt,Instr.sureAddr,k9,elV,Sem.run_bind,Sem.run_pure,Result.andThen_ok,fo];rw[bx];have aqb:=(fu.1 gY).1;refine j8.swap hs fj (.inl rfl) (by rw[cY.size];omega) (λc _ hc=>cY.other c λe=>hc (by rw[e];simp only[bI.bl,gm];grind)) (λb' hb=>.inl hb) cY.os cY.tape cY.out λbF _=>?_
 simp only[bj];refine⟨trivial,rO,by simp_all,λi x' r' hi Ei=>?_⟩;by_cases hir:r=i;subst hir;rw[u7 aqb]at Ei;cases Ei;rw[hy]at hi;cases hi;refine⟨dB cs (y.2.1+j) (a.eval x).cells.toList,T',cY.at_,by simp_all,h2,by rw[List.length_set,lN];exact h3,λj' d' V6=>?_⟩;rw[vp _ _ _ aq];by_cases hjj:j=j';subst hjj;rw[u7 BP]at V6;cases V6;refine⟨c,?_,?_⟩;grind;simp only[RV]at anc;exact anc.mono bF;rw [wB hjj]at V6;obtain⟨v,h5,h6⟩:=h4 j' d' V6;exact⟨v,by grind,h6.mono bF⟩;rw [wB hir]at Ei;obtain⟨V4,T2,g1,g2,g3,g4,g5⟩:=hk i x' r' hi Ei
 have dR:x'.1≠y.1:=λe=>hir (by
  have e1:(kx.map (·.1))[r]? = some y.1:=by simp_all
  have e2:(kx.map (·.1))[i]? = some x'.1:=by simp_all
  obtain⟨l1,e1⟩:=fu.1 e1;obtain⟨l2,e2⟩:=fu.1 e2;exact(Q6 rO).1 (by rw[e1,e2,e]))
 refine⟨V4,T2,(cY.other _ dR).trans g1,g2,g3,g4,λj' d' V6=>?_⟩;obtain⟨v,h5,h6⟩:=g5 j' d' V6;exact⟨v,h5,h6.mono bF⟩
theorem RR {K:bq->List Ob->Prop}{Q:Exit->Act->World->Prop}{more:List Nat}(hQ:∀E objs a w,K E objs->fi g E objs a w->wpOpsIn g.F g.dep g.P ad Q more a w) :
  ∀(l:List Oper) (k:Nat) (E:bq) (objs:List Ob) (a:Act) (w:World),(∀j,j<l.length->l[j]? = ad[k+j]?)->Dr g pf ad l E objs K->fi g E objs a w ->
   wpOpsIn g.F g.dep g.P ad Q (List.range' k l.length++more) a w
 |[],k,E,objs,a,w,_,hd,hs=>by simpa using hQ E objs a w hd hs
 |o::l,k,E,objs,a,w,hl,hd,hs=>by
  obtain⟨v,objs',h1,h2⟩:=hd;have h0:ad[k]? = some o:=by simpa using (hl 0 aD).symm
  have eX:=h1.step E objs objs' a w (λt _=>.refl _) (.inr (.inr ⟨rfl,rfl⟩)) hs Q;rw[dx,NP,jo,wpOpsIn_cons];refine wpOpIn_mono (K:=λa' w'=>fi g (bh E o.dst v) objs' a' w') (λa' w' fk=>?_) W8;exact RR hQ l (k+1) _ objs' a' w' (λj hj=>by have:=hl (j+1) (by simpa using hj);grind) h2 fk
end
end ax
namespace ax
open Go Go.RowKit
section
variable {g:G} {pf:Nat->cI} {ad:Array Oper} {Fin:Exit->Act->World->Prop}
theorem RS {S:Nat->Prop}{w:World}{φ:List bI}{E:bq}{a:Act}(hv:lg S w φ E a)(x:Operand):RV S w φ (ev E x) (a.eval x):=by
 cases x with
 |tmp t=>exact hv t
 |const v=>simpa[pQ]using ix (l:=[]) (E:=E) (λt ht=>by cases ht) hv (.const v)
 |global n=>simp[ev,RV]
 |func f=>simp only[ev,Act.eval,RV];exact⟨[],[],rfl,by simp[aW],by simp[aW]⟩
def Oh:List It->Bool|[]=>true| .code _::k=>Oh k| .jK _::k=>Oh k|_::_=>false
theorem YC {l:List (Nat×List AV×List AV)}:∀(k:List It),Oh k=true->∀e a w,KP (FM g l) Fin k e a w=KP g Fin k e a w
 |[],_,_,_,_=>rfl
 | .code c::k,h,e,a,w=>by
  have ih:KP (FM g l) Fin k=KP g Fin k:=by funext e a w;exact YC k h e a w
  simp only[KP,ih];rfl
 | .jK i::k,h,e,a,w=>by
  have ih:KP (FM g l) Fin k=KP g Fin k:=by funext e a w;exact YC k h e a w
  simp only[KP,ih]
 | .mark _::_,h,_,_,_=>by simp[Oh]at h
 | .dr _ _::_,h,_,_,_=>by simp[Oh]at h
theorem oP (hg:di g)(hmk:g.XN=false)(hw:g.F=Fence.wide/\g.dep=0){id:Nat}{k:List It}{E:bq}{objs:List Ob}(n:Nat){x:Operand}{args:Array Operand}{ts:Array Nat}{ty:Nat}{pos:String}{after:Array Edge}
  (hn:ad.toList.drop n=[⟨none,.defer {callee:=.value x,args:=args,argTypes:=ts},ty,pos,after,none⟩])
  (h:R g pf Fin (.dr ad (ad.toList.take n) :: .mark (λE1 bc=>∃f fs cs,ev E1 x=.b9 f fs cs/\R (FM g ((f,fs++args.toList.map (ev E1),cs)::g.rZ)) pf Fin k E1 bc)::k) E objs) (rO:mR k=true:=by rfl) (hnm:Oh k=true:=by rfl):R g pf Fin (.code (.region id ad false)::k) E objs:=by
 rintro⟨ov,ho⟩;have h:=h ho;simp only at h;intro a w hs;simp only[KP];refine wpIn_region ?_
 have hle:n<=ad.toList.length:=by
  rcases Nat.le_total n ad.toList.length with h|h
  exact h;rw[cX h]at hn;cases hn
 have hsz:ad.toList.length=n+1:=by have:=congrArg List.length hn;rw[J7]at this;simp only[Bp]at this;omega
 have Ca:List.range ad.size=List.range' 0 (ad.toList.take n).length++[n]:=by
  have e:ad.size=n+1:=by rw[<-hsz];simp
  rw[e,zi,Hl hle,TK,<-List.range'_append];simp
 rw[Ca];refine RR (pf:=pf) (K:=λE' objs'=>RK g Fin (.mark (λE1 bc=>∃f fs cs,ev E1 x=.b9 f fs cs/\R (FM g ((f,fs++args.toList.map (ev E1),cs)::g.rZ)) pf Fin k E1 bc)::k) E' objs') (λE1 bc a1 w1 hk hs1=>?_) _ 0 E objs a w (λj hj=>?_) h hs;have hk:=hk a1 w1 hs1;simp only[KP]at hk;obtain⟨E2,ek,⟨f,fs,cs,hx,hM⟩,nB⟩:=hk;rw[wpOpsIn_cons]
 have h0:ad[n]? = some ⟨none,.defer {callee:=.value x,args:=args,argTypes:=ts},ty,pos,after,none⟩:=by
  have:(ad.toList.drop n)[0]? = some ⟨none,.defer {callee:=.value x,args:=args,argTypes:=ts},ty,pos,after,none⟩:=by rw[hn];rfl
  simpa using this
 unfold wpOpIn;rw[h0];simp only[Region.wanted,if_true];refine⟨λf _=>hg.fn f,?_⟩;obtain⟨φ,h1,h2,h3,h4,⟨ds1,rX,e5,h5,h7⟩,h6⟩:=nB;have aP:=RS (E:=E2) h3 x;rw[hx]at aP;simp only[RV]at aP;obtain⟨va,vc,aP,X6,rC⟩:=aP;have mK:aW (SS g.S0 φ) w1 φ (args.toList.map (ev E2)) (args.toList.map a1.eval):=aW.map _ _ _ λy _=>RS h3 y
 have hr:(execOp a1.eval ⟨none,.defer {callee:=.value x,args:=args,argTypes:=ts},ty,pos,after,none⟩).run g.P w1=.ok (.defer {target:=.fn (.func f) vc.toArray,args:=(va++args.toList.map a1.eval).toArray}) w1:=by
  have:va.toArray++Array.map a1.eval args=(va++args.toList.map a1.eval).toArray:=by apply NM.1;simp
  simp[execOp,resolve,aP,Deferred.ofValue,this]
 rw[show g.F.round=none by rw[hw.1];rfl,Oper.semAt_none,hr,Oper.uponIn_defer];have kx:ds1=[]:=h5.1 hmk;subst kx;have:=RK.ej (pf:=pf) (k:=k) ho hM (iD rO) {a1 with defers:={target:=.fn (.func f) vc.toArray,args:=(va++args.toList.map a1.eval).toArray}::a1.defers} w1 ⟨φ,h1,h2,h3,h4,⟨[],{target:=.fn (.func f) vc.toArray,args:=(va++args.toList.map a1.eval).toArray}::rX,by rw[e5];rfl,⟨λ_=>rfl,.nil,by simp⟩,⟨_,_,rfl,X6.append mK,rC⟩,h7⟩,⟨h6.size,h6.os,h6.tape,h6.out,h6.fr,h6.gen,h6.le⟩⟩;rw[YC k hnm]at this;exact this;simp_all
end
end ax
namespace ax
open Go Go.RowKit
variable{gd:Option (Nat×Bool)}{after:Array Edge}{dst:Option Nat}{az:List Oper}{objs:List Ob}{pos:String}{ts:Array Nat}{k:List It}{ty f i off:Nat}{x:Operand}{args:Array Operand}{E:bq}{l:List AV}{w:World}
section
variable {g:G} {pf:Nat->cI} {ad:Array Oper} {Fin:Exit->Act->World->Prop}
theorem F4{P:Program}{a:Act} :
  (execOp a.eval ⟨dst,.call {callee:=.value (.func f),args:=args,argTypes:=ts},ty,pos,after,gd⟩).run P w=(callFunc f (args.map a.eval)).run P w:=by
 simp[execOp,resolve,Act.eval,Deferred.ofValue,invoke]
theorem Oi(hg:di g){r:AV}
  (bt:aH ad.toList E gd=some true) (hd:aQ ⟨g.ty,g.N⟩ dst=true) (dK:pf f=.jz)
  (fo:∀(φ:List bI) (a:Act) (w:World),HS g.S0 φ objs w->(∀y∈args.toList,RV (SS g.S0 φ) w φ (ev E y) (a.eval y))->∃v,(callFunc f (args.map a.eval)).run g.P w=.ok (.value v) w/\RV (SS g.S0 φ) w φ r v)
  (hr:R g pf Fin (.dr ad az::k) (bh E dst r) objs):R g pf Fin (.dr ad (⟨dst,.call {callee:=.value (.func f),args:=args,argTypes:=ts},ty,pos,after,gd⟩::az)::k) E objs:=by
 refine cU ?_ hr;simp only[bQ,dK];refine .nJ hg (cT bt) (dI hd) aD cN (λb hb h9=>by simp_all) λφ o₁ jF a w E₁ he hv ho hs=>?_
 have e:o₁=objs/\jF=objs:=by simp_all
 obtain⟨rfl,rfl⟩:=e;have hρ:=ly (o:=⟨dst,.call {callee:=.value (.func f),args:=args,argTypes:=ts},ty,pos,after,gd⟩) he hv;simp only[Op.operands,Call.operands]at hρ;obtain⟨v,h1,h2⟩:=fo φ a w hs λy hy=>hρ y iS
 exact aZ hs (vv:=v) (by rw[F4,h1]) h2
theorem aiE(hg:di g){r:AV}{Wb new:Value}
  (bt:aH ad.toList E gd=some true) (hd:aQ ⟨g.ty,g.N⟩ dst=true) (dK:pf f=.jz) (hx:ev E x=.lo i off) (AO:x∈args.toList) (ho:dq objs i=some (.box l)) (hl:dq l off=some (.d (.v Wb)))
  (fo:∀(φ:List bI) (a:Act) (w:World) (b:Nat),a.eval x=.pointer (some ⟨b,off,none⟩)->w.cell? ⟨b,off,none⟩=some Wb->w.frozen? ⟨b,off,none⟩=false->HS g.S0 φ objs w->(∀y∈args.toList,RV (SS g.S0 φ) w φ (ev E y) (a.eval y))->∃v,(callFunc f (args.map a.eval)).run g.P w=.ok (.value v) (w.setCell ⟨b,off,none⟩ new)/\∀w',RV (SS g.S0 φ) w' φ r v)
  (hr:R g pf Fin (.dr ad az::k) (bh E dst r) (dj objs i (.box (dj l off (.d (.v new)))))):R g pf Fin (.dr ad (⟨dst,.call {callee:=.value (.func f),args:=args,argTypes:=ts},ty,pos,after,gd⟩::az)::k) E objs:=by
 refine cU ?_ hr;simp only[bQ,dK];refine .nJ hg (cT bt) (dI hd) aD (λh=>absurd rfl (h _)) (λb hb h9=>by simp_all) λφ o₁ jF a w E₁ he hv ov hs=>?_
 have e:o₁=objs/\jF=dj objs i (.box (dj l off (.d (.v new)))):=by simp_all
 obtain⟨rfl,rfl⟩:=e;have hρ:=ly (o:=⟨dst,.call {callee:=.value (.func f),args:=args,argTypes:=ts},ty,pos,after,gd⟩) he hv;simp only[Op.operands,Call.operands]at hρ;have aoK:∀y∈args.toList,RV (SS g.S0 φ) w φ (ev E y) (a.eval y):=λy hy=>hρ y iS
 have aP:=aoK x AO;rw[hx]at aP;simp only[RV]at aP;obtain⟨b,hb,aP⟩:=aP;have dA:=cO hs hb ho;simp only[bj]at dA;obtain⟨cs,T',bg,lM⟩:=dA;rw[bE]at hl;obtain⟨u,hu,huv⟩:=lM.get off hl;simp only[RV]at huv;cases huv;have FG:w.cell? ⟨b,off,none⟩=some Wb:=by simp[World.cell?,bg,hu]
 have hfz:w.frozen? ⟨b,off,none⟩=false:=by simp[World.frozen?,bg]
 obtain⟨v,h1,h2⟩:=fo φ a w b aP FG hfz hs aoK;have Oj:∀c,c≠b->(w.setCell ⟨b,off,none⟩ new).heap[c]? = w.heap[c]? := λc hc=>Below.heap_setCell _ _ _ _ hc
 have hJ:(bI.jK b).bl b:=rfl;have hk:=tw (S0:=g.S0) hb hJ Oj;refine⟨.value v,v,w.setCell ⟨b,off,none⟩ new,φ,by rw[F4,h1],.inl rfl,h2 _,?_⟩;refine⟨?_,hk,.refl _,by simp,rfl,rfl,rfl,λc hc hn=>Oj c λe=>hn ⟨i,_,hb,by rw[e];rfl⟩,λ_ h=>.inl h,λ_ _ _ B h=>⟨B,h⟩⟩;rw[bx];refine hs.bT hb hJ aD Oj ?_;simp only[bj];refine⟨cs.set off new,T',wK bg _ _,?_⟩;have h3:=lM.mono hk (kc.refl φ);rw[bx];refine aW.sv (by rw[List.length_set,List.length_set];exact h3.length) λj y u hy hu=>?_
 rw[List.getElem?_set]at hy hu;by_cases hj:off=j;subst hj;rw[if_pos rfl]at hy hu;have fE:=(fu.1 hl).1;have hlc:off<cs.length:=by simp_all
 rw[if_pos fE]at hy;rw[if_pos hlc]at hu;cases hy;cases hu;simp only[RV];exact .v _;rw [if_neg hj]at hy hu;obtain⟨u',h4,h5⟩:=h3.get j hy;simp_all
theorem p4{S:Nat->Prop}{φ:List bI}{c v:Value}(h:RV S w φ (.d (.v c)) v):v=c:=by simp only[RV]at h;cases h;rfl
theorem RT{S0:Nat->Prop}{φ:List bI}(hs:HS S0 φ objs w){c v:Value}(ho:dq objs i=some (.box l))(hl:dq l off=some (.d (.v c)))(hv:RV (SS S0 φ) w φ (.lo i off) v) :
  ∃b,v=.pointer (some ⟨b,off,none⟩)/\w.cell? ⟨b,off,none⟩=some c:=by
 simp only[RV]at hv;obtain⟨b,hb,hv⟩:=hv;have dA:=cO hs hb ho;simp only[bj]at dA;obtain⟨cs,T',bg,lM⟩:=dA;rw[bE]at hl;obtain⟨u,hu,huv⟩:=lM.get off hl;have:=p4 huv;subst this;exact⟨b,hv,by simp[World.cell?,bg,hu]⟩
theorem HT(hg:di g)
  (hf:∀w,(callFunc f #[]).run g.P w=.ok (.value (.tuple #[])) w) (bt:aH ad.toList E gd=some true) (hd:aQ ⟨g.ty,g.N⟩ dst=true) (dK:pf f=.jz)
  (hr:R g pf Fin (.dr ad az::k) (bh E dst (.cP [])) objs):R g pf Fin (.dr ad (⟨dst,.call {callee:=.value (.func f),args:=#[],argTypes:=ts},ty,pos,after,gd⟩::az)::k) E objs :=
 Oi hg bt hd dK (λφ a w _ _=>⟨.tuple #[],by simp_all,by simp[RV,aW]⟩) hr
theorem YD(hg:di g)
  (hf:∀a w,(callFunc f #[.pointer (some a)]).run g.P w=.ok (.value (.tuple #[])) w) (bt:aH ad.toList E gd=some true) (hd:aQ ⟨g.ty,g.N⟩ dst=true) (dK:pf f=.jz) (hx:ev E x=.lo i off)
  (hr:R g pf Fin (.dr ad az::k) (bh E dst (.cP [])) objs):R g pf Fin (.dr ad (⟨dst,.call {callee:=.value (.func f),args:=#[x],argTypes:=ts},ty,pos,after,gd⟩::az)::k) E objs :=
 Oi hg bt hd dK (λφ a w _ hρ=>by have h:=hρ x aD;rw[hx]at h;simp only[RV]at h;obtain⟨b,_,h⟩:=h;exact⟨.tuple #[],by simp_all,by simp[RV,aW]⟩) hr
theorem YE(hg:di g){c:IntKind}{n:Int}
  (hf:∀a x w,w.cell? a=some (.int c x)->(callFunc f #[.pointer (some a)]).run g.P w=.ok (.value (.int c x)) w) (bt:aH ad.toList E gd=some true) (hd:aQ ⟨g.ty,g.N⟩ dst=true) (dK:pf f=.jz) (hx:ev E x=.lo i off) (ho:dq objs i=some (.box l)) (hl:dq l off=some (.d (.v (.int c n))))
  (hr:R g pf Fin (.dr ad az::k) (bh E dst (.d (.v (.int c n)))) objs):R g pf Fin (.dr ad (⟨dst,.call {callee:=.value (.func f),args:=#[x],argTypes:=ts},ty,pos,after,gd⟩::az)::k) E objs :=
 Oi hg bt hd dK (λφ a w hs hρ=>by have h:=hρ x aD;rw[hx]at h;obtain⟨b,h,hc⟩:=RT hs ho hl h;exact⟨.int c n,by simp_all,by simp only[RV];exact .v _⟩) hr
theorem HU(hg:di g){ys:Array Operand}{Wb new v:Value}(vs:List Value)
  (hf:∀a w,w.cell? a=some Wb->w.frozen? a=false->(callFunc f (Value.pointer (some a)::vs).toArray).run g.P w=.ok (.value v) (w.setCell a new)) (bt:aH ad.toList E gd=some true) (hd:aQ ⟨g.ty,g.N⟩ dst=true) (dK:pf f=.jz) (hx:ev E x=.lo i off) (hys:ys.toList.map (ev E)=vs.map λc=>AV.d (.v c)) (ho:dq objs i=some (.box l)) (hl:dq l off=some (.d (.v Wb)))
  (hr:R g pf Fin (.dr ad az::k) (bh E dst (.d (.v v))) (dj objs i (.box (dj l off (.d (.v new)))))):R g pf Fin (.dr ad (⟨dst,.call {callee:=.value (.func f),args:=(x::ys.toList).toArray,argTypes:=ts},ty,pos,after,gd⟩::az)::k) E objs :=
 aiE hg (x:=x) bt hd dK hx aD ho hl (λφ a w b hb hc hz _ hρ=>⟨v,by
  have key:∀(zs:List Operand) (us:List Value),(∀y∈zs,RV (SS g.S0 φ) w φ (ev E y) (a.eval y))->zs.map (ev E)=us.map (λc=>AV.d (.v c))->zs.map a.eval=us:=by
   intro zs;induction zs with
   |nil=>intro us _ h;cases us with
    |nil=>rfl
    |cons _ _=>simp at h
   |cons z zs ih=>
    intro us hz h;cases us with
    |nil=>simp at h
    |cons u us=>simp only[bM,List.cons.injEq]at h ⊢;have h1:=hz z aD;rw[h.1]at h1;exact⟨p4 h1,ih us (λy hy=>hz y iS) h.2⟩
  grind,λw'=>by simp only[RV];exact .v _⟩) hr
theorem abR(hg:di g){src aiF t:Nat}{c:Value}
  (hs:g.P.underlying src=some (.pointer t)) (hdt:g.P.underlying aiF=some .unsafePointer) (hsz:(g.P.info? t).map (λi=>decide (i.size=0))=some false) (dK:pf 4000000010=.bT 90) (bt:aH ad.toList E gd=some true) (hd:aQ ⟨g.ty,g.N⟩ dst=true) (hx:ev E x=.lo i off) (ho:dq objs i=some (.box l)) (hl:dq l off=some (.d (.v c)))
  (hr:R g pf Fin (.dr ad az::k) (bh E dst (.lo i off)) objs):R g pf Fin (.dr ad (⟨dst,.convert src aiF x,ty,pos,after,gd⟩::az)::k) E objs:=by
 refine cU ?_ hr;simp only[bQ,Hv,dK];refine .nJ hg (cT bt) (dI hd) aD cN (λb hb h9=>by simp_all) λφ o₁ jF a w E₁ he hv ov fk=>?_
 have e:o₁=objs/\jF=objs:=by simp_all
 obtain⟨rfl,rfl⟩:=e;have hρ:=ly (o:=⟨dst,.convert src aiF x,ty,pos,after,gd⟩) he hv;simp only[Op.operands]at hρ;have aP:=hρ x aD;rw[hx]at aP;obtain⟨b,hb,hc⟩:=RT fk ho hl aP;refine aZ fk (vv:=a.eval x) ?_ aP;simp only[execOp,Sem.run_bind,hb,run_convert_to_unsafe hs hdt hsz hc,Result.andThen_ok,Sem.run_pure]
theorem kD(hg:di g){T n:Nat}{fs:Array Field}{fl:Field}
  (hT:g.P.underlying T=some (.struct fs)) (hf:fs[n]? = some fl) (hsz:((g.P.info? fl.type).map λi=>decide (i.size=0))=some false) (bt:aH ad.toList E gd=some true) (hd:aQ ⟨g.ty,g.N⟩ dst=true) (hx:ev E x=.lo i off)
  (hr:R g pf Fin (.dr ad az::k) (bh E dst (.lo i (off+fl.offset))) objs):R g pf Fin (.dr ad (⟨dst,.fieldAddr T x n,ty,pos,after,gd⟩::az)::k) E objs:=by
 refine cU (aK.up (aK.quiet hg bt hd aD λφ o₁ a w hρ hs=>?_)) hr;simp only[Op.operands]at hρ;have aP:=hρ x aD;rw[hx]at aP;simp only[RV]at aP;obtain⟨b,hb,hv⟩:=aP;have h3:∃i,g.P.info? fl.type=some i/\i.size≠0:=by simp_all
 refine aZ hs (vv:=.pointer (some ⟨b,off+fl.offset,none⟩)) ?_ (by simp only[RV];simp_all);simp only[execOp,Sem.run_bind,hv,oG hT hf h3,Result.andThen_ok,Sem.run_pure]
end
end ax
namespace ax
open Go Go.RowKit
section
variable {pf:Nat->cI} {ad:Array Oper}
def HV (p q:Nat) (pf:Nat->cI) (ad:Array Oper):List Oper->List Nat->List Oper->Bool
 |_,_,[]=>true
 |dz,acc,o::r=>
  (o.after.toList.all λe=>!Region.binds .any e||Nat.blt e.on (len dz)) &&
  (dz.zipIdx.all λx=>!gQ pf ad x.1 o||(fV acc o).testBit x.2||(Nat.beq x.2 p&&Nat.beq (len dz) q)) &&
  (Nat.ble (len dz) p||Nat.beq (len dz) q||(fV acc o).testBit p||(Nat.blt q (len dz)&&(fV acc o).testBit q)) &&
  HV p q pf ad (dz++[o]) (acc++[fV acc o]) r
theorem zt {p q:Nat}(hpq:p<q):∀(az dz:List Oper) (acc:List Nat),ad.toList=dz++az->acc.length=dz.length->(∀j i m,acc[j]? = some m->m.testBit i=true->Reach ad i j)->HV p q pf ad dz acc az=true ->
  ∀(j:Nat) (o:Oper),dz.length<=j->ad[j]? = some o->(∀e∈o.after.toList,Region.binds .any e=true->e.on<j)/\(∀(i:Nat) (x:Oper),i<j->ad[i]? = some x->gQ pf ad x o=true->Reach ad i j\/(i=p/\j=q))/\(p<j->j<q->Reach ad p j)/\(q<j->Reach ad p j\/Reach ad q j)
 |[],dz,acc,h,_,_,_,j,o,hj,ho=>by grind
 |o'::r,dz,acc,h,hl,hr,hg,j,o,hj,ho=>by
  simp only[HV,aV]at hg;obtain⟨⟨⟨h1,h2⟩,h4⟩,h3⟩:=hg;have Hn:ad[dz.length]? = some o':=by rw[<-Array.getElem?_toList,h];simp
  have hm:∀i,(fV acc o').testBit i=true->Reach ad i dz.length:=λi hi=>by exact ach
  rcases ab7 hj with hj|hj
  subst hj;rw[Hn]at ho;cases ho;refine⟨λe he Rq=>?_,λi x hi hx hc=>?_,λhq hq2=>?_,λhq=>?_⟩;have:=fB.1 h1 e he;rw[bp]at this;simp_all;have hmem:(x,i)∈dz.zipIdx:=by rw[Xe];rw[<-Array.getElem?_toList,h,mv hi]at hx;exact hx
  have:=fB.1 h2 _ hmem;simp only[hc,u9,uq,oy,aV]at this;rcases this with this|⟨g1,g2⟩
  simp_all;rw[bp]at g2;simp_all;simp only [oy,aV,bp,J8,Nat.blt_eq]at h4;rcases h4 with((h4|h4)|h4)|h4
  omega;simp_all;exact hm _ h4;omega;simp only [oy,aV,bp,J8,Nat.blt_eq]at h4;rcases h4 with((h4|h4)|h4)|h4
  omega;have:=cB h4;omega;exact .inl (hm _ h4);simp_all;refine zt hpq r (dz++[o']) (acc++[fV acc o']) (by rw [h]; simp) (by simp [hl]) (λj i m hj hi=>?_) h3 j o J4 ho;grind
variable {g:G}
theorem Ol {p q:Nat}(hpq:p<q)(dA:∀(j:Nat) (o:Oper),ad[j]? = some o->(∀e∈o.after.toList,Region.binds .any e=true->e.on<j)/\(∀(i:Nat) (x:Oper),i<j->ad[i]? = some x->gQ pf ad x o=true->Reach ad i j\/(i=p/\j=q))/\(p<j->j<q->Reach ad p j)/\(q<j->Reach ad p j\/Reach ad q j))
  {K:bq->List Ob->Prop} (hK:KC K) {Q:Exit->Act->World->Prop} (hQ:∀E objs a w,K E objs->fi g E objs a w->Q .normal a w) {oa ob:Oper} (Hy:ad[p]? = some oa) (wM:ad[q]? = some ob) (Nt post:List Nat) :
  ∀(ab:Nat) (aM:Array Bool) (pre:List Nat) (E E2:bq) (objs ek:List Ob) (a:Act) (w:World),(∀i∈pre,∀o,ad[i]? = some o->mQ o.op=true)->aM.size=ad.size->Cl ad aM->(∀i,i∈pre++p::(Nt++q::post)↔i<ad.size/\aM.getD i true=false)->(pre++p::(Nt++q::post)).Pairwise (· < ·)->(pre++p::(Nt++q::post)).length<=ab ->
   Dr g pf ad (pre.filterMap (ad[·]?)++oa::(Nt.filterMap (ad[·]?)++ob::post.filterMap (ad[·]?))) E objs K->fi g E objs a w->Dr g pf ad (pre.filterMap (ad[·]?)++ob::oa::(Nt.filterMap (ad[·]?)++post.filterMap (ad[·]?))) E2 ek K->fi g E2 ek a w->wpAnyIn g.F g.dep g.P .any ad Q ab aM a w:=by
 have XQ:∀(j:Nat) (o:Oper),ad[j]? = some o->(∀e∈o.after.toList,Region.binds .any e=true->e.on<j)/\∀(i:Nat) (x:Oper),i<j->ad[i]? = some x->gQ pf ad x o=true->Reach ad i j\/(i=p/\j=q):=λj o ho=>⟨(dA j o ho).1,(dA j o ho).2.1⟩
 intro ab;induction ab with
 |zero=>intro aM pre E E2 objs ek a w _ uM hc hR _ hf hd hs _ _;simp at hf
 |succ ab ih=>
  intro aM pre E E2 objs ek a w vm uM hc hR hp hf hd hs Fz nB;obtain⟨pp1,pp2,pp3⟩:=mw.1 hp;have rB:∀k∈pre,k<p:=λk hk=>pp3 k hk p aD
  have pp4:=(k8.1 pp2).2;have ago:∀k∈Nt,p<k:=λk hk=>(k8.1 pp2).1 k Ew
  have agp:∀k∈Nt,k<q:=λk hk=>(mw.1 pp4).2.2 k hk q aD
  have oI:∀k∈post,q<k:=λk hk=>(k8.1 (mw.1 pp4).2.1).1 k hk
  have unl:∀k,k∈pre++p::(Nt++q::post)->aM.getD k false=false:=λk hk=>by exact ahF
  refine⟨λKm=>?_,λi hi=>?_⟩;exfalso
  obtain⟨k,R',hkR⟩:∃k R',pre++p::(Nt++q::post)=k::R':=by
   cases pre with
   |nil=>exact⟨p,_,rfl⟩
   |cons k r=>exact⟨k,_,rfl⟩
  rw[hkR]at hR hp;exact mB5;obtain ⟨ny,Np,o,ho,ia⟩:=mem_ready.1 hi;have jY:∀k,k∈pre++p::(Nt++q::post)->Reach ad k i->False:=λk hk hr=>by have hl:=kN hc hr (λo' we e he hb=>by rw[ho]at we;cases we;exact ia e he hb);rw[unl k hk]at hl;cases hl
  have Ft:∀k x,k∈pre++p::(Nt++q::post)->k<i->ad[k]? = some x->¬ (k=p/\i=q)->gQ pf ad x o=false:=λk x hk mo mE dR=>by
   cases NX:gQ pf ad x o;rfl;exfalso;rcases (dA i o ho).2.1 k x mo mE NX with h|h
   exact jY k hk h;exact dR h
  have hmem:=(hR i).2 ⟨ny,Np⟩;rcases cu.1 hmem with hmem|hmem
  obtain ⟨yx,preB,rfl⟩:=NO hmem;have e1:(yx++i::preB).filterMap (ad[·]?)=yx.filterMap (ad[·]?)++o::preB.filterMap (ad[·]?):=by rw[List.filterMap_append,ur,ho]
  rw[e1]at hd Fz;have afE:∀k∈yx,k<i:=λk hk=>(mw.1 pp1).2.2 k hk i aD
  have NX:∀x∈yx.filterMap (ad[·]?),gQ pf ad x o=false:=λx hx=>by exact alQ
  rw[List.append_assoc,jo]at hd Fz;obtain⟨v,objs',lu,fK⟩:=Dr.front hK NX hd;obtain⟨v2,vn,XS,WW⟩:=Dr.front hK NX Fz;have eX:=lu.step E objs objs' a w (λt _=>.refl _) (.inr (.inr ⟨rfl,rfl⟩)) hs Q;have N0:=XS.step E2 ek vn a w (λt _=>.refl _) (.inr (.inr ⟨rfl,rfl⟩)) nB Q;have XT:=BF (F:=g.F) (n:=g.dep) (P:=g.P) (Q:=Q) ho (vm i aD o ho) (K:=λa' w'=>fi g (bh E o.dst v) objs' a' w') (K':=λa' w'=>fi g (bh E2 o.dst v2) vn a' w') abV (by unfold wpOpIn;rw[ho];exact N0);refine wpOpIn_mono (λa' w' fk=>?_) XT;have kx:=kf (pre:=yx) (post:=preB++p::(Nt++q::post)) uM hc WT TB ny ho ia;refine ih _ (yx++preB) _ _ objs' vn a' w' (λj hj o' we=>vm j ahr o' we) kx.1 kx.2.1 WR WV JZ alq fk.1 alo fk.2;rcases cE.1 hmem with hip| hmem
  subst hip;rw[Hy]at ho;cases ho;have hd1:=hd;obtain⟨v,objs',lu,fK⟩:=Dr.front hK (λx hx=>by obtain⟨k,hk,mE⟩:=yo.1 hx;exact Ft k x Ew (rB k hk) mE (λ⟨_,h2⟩=>by omega)) hd1;have eX:=lu.step E objs objs' a w (λt _=>.refl _) (.inr (.inr ⟨rfl,rfl⟩)) hs Q;refine wpOpIn_mono (K:=λa' w'=>fi g (bh E oa.dst v) objs' a' w') (λa' w' fk=>?_) (by unfold wpOpIn;rw[Hy];exact eX);have kx:=kf (pre:=pre) (post:=Nt++q::post) uM hc hR hp ny Hy ia;refine nH XQ hK hQ ab _ (pre++(Nt++q::post)) _ objs' a' w' kx.1 kx.2.1 kx.2.2.1 kx.2.2.2 JZ (.inl λh=>?_) (by rw[List.filterMap_append,List.filterMap_append,ur,wM];exact fK) fk;rcases cu.1 h with h|h
  have:=rB _ h;omega;rcases cu.1 h with h| h
  have:=ago _ h;omega;rcases cE.1 h with h| h
  omega;have:=oI _ h;omega;rcases cu.1 hmem with hmem| hmem
  exact(jY p aD ((dA i o ho).2.2.1 (ago i hmem) (agp i hmem))).elim;rcases cE.1 hmem with hiq|hmem
  subst hiq;rw[wM]at ho;cases ho;have hd1:=Fz;obtain⟨v,objs',lu,fK⟩:=Dr.front hK (λx hx=>by obtain⟨k,hk,mE⟩:=yo.1 hx;exact Ft k x Ew (by have:=rB k hk;omega) mE (λ⟨h1,_⟩=>by have:=rB k hk;omega)) hd1;have eX:=lu.step E2 ek objs' a w (λt _=>.refl _) (.inr (.inr ⟨rfl,rfl⟩)) nB Q;refine wpOpIn_mono (K:=λa' w'=>fi g (bh E2 ob.dst v) objs' a' w') (λa' w' fk=>?_) (by unfold wpOpIn;rw[wM];exact eX);have kx:=kf (pre:=pre++p::Nt) (post:=post) uM hc WT TB ny wM ia;refine nH XQ hK hQ ab _ (pre++p::(Nt++post)) _ objs' a' w' kx.1 kx.2.1 WR WV JZ (.inr λh=>?_) (by rw[List.filterMap_append,ur,Hy,List.filterMap_append];exact fK) fk;rcases cu.1 h with h|h
  have:=rB _ h;omega;rcases cE.1 h with h| h
  omega;rcases cu.1 h with h| h
  have:=agp _ h;omega;have:=oI _ h;omega;exfalso;rcases (dA i o ho).2.2.2 (oI i hmem)with h|h
  exact jY p aD h;exact jY q aD h
def RU {α:Type}(p q:Nat)(l:List α):List α:=l.take p++((l.drop q).take 1++((l.drop p).take (q-p)++l.drop (q+1)))
def aiG (p q:Nat)(pf:Nat->cI)(ad:Array Oper):Bool:=Nat.blt p q&&Nat.blt q (len ad.toList)&&HV p q pf ad [] [] ad.toList
theorem Lf {α:Type}(l:List α)(a n:Nat)(h:a+n<=l.length):(List.range' a n).filterMap (l[·]?)=(l.drop a).take n:=by
 induction n generalizing a with
 |zero=>simp
 |succ n ih=>rw[NP,ur,dG aq];simp only;rw[ih (a+1) aq,List.drop_eq_getElem_cons (by omega:a<l.length),ahy]
theorem YF (hg:di g){p q:Nat}(dA:aiG p q pf ad=true){K:bq->List Ob->Prop}(hK:KC K){Q:Exit->Act->World->Prop}(hQ:∀E objs a w,K E objs->fi g E objs a w->Q .normal a w)
  {E:bq} {objs:List Ob} (vm:((ad.toList.take p).all λo=>mQ o.op)=true) (hd:Dr g pf ad ad.toList E objs K) (Fz:Dr g pf ad (RU p q ad.toList) E objs K) {a:Act} {w:World} (hs:fi g E objs a w) (id:Nat):(Code.region id ad true).wpIn g.F g.dep g.P Q a w:=by
 refine wpIn_region_any hg.mixed ?_;simp only[aiG,aV,Nat.blt_eq,bp]at dA;obtain⟨⟨h1,h2⟩,h3⟩:=dA;have hsz:ad.toList.length=ad.size:=by simp
 have Hy:ad[p]? = some ad[p]:=Ey aq;have wM:ad[q]? = some ad[q]:=Ey aq
 have nI:List.range ad.size=List.range' 0 p++p::(List.range' (p+1) (q-(p+1))++q::List.range' (q+1) (ad.size-(q+1))):=by
  obtain⟨m,hm⟩:∃m,ad.size=p+(1+((q-(p+1))+(1+m))):=⟨ad.size-(q+1),by omega⟩;have e1:ad.size-(q+1)=m:=by omega
  rw[e1,TK,hm,<-List.range'_append,<-List.range'_append,<-List.range'_append,<-List.range'_append];have e2:0+1*p=p:=by omega
  have e3:p+1*1=p+1:=by omega
  have e4:p+1+1*(q-(p+1))=q:=by omega
  have e5:q+1*1=q+1:=by omega
  rw[e2,e3,e4,e5];simp[NP]
 have f:∀a n,a+n<=ad.size->(List.range' a n).filterMap (ad[·]?)=(ad.toList.drop a).take n:=λa n h=>by have:=Lf ad.toList a n aq;simpa using this
 have rQ:=f 0 p aq;have aqc:=f (p+1) (q-(p+1)) aq;have oI:=f (q+1) (ad.size-(q+1)) aq;rw[Xd]at rQ;have aiH:(List.range' (q+1) (ad.size-(q+1))).filterMap (ad[·]?)=ad.toList.drop (q+1):=by rw[oI,Fm aD]
 have ga:ad.toList=ad.toList.take p++ad[p]::((ad.toList.drop (p+1)).take (q-(p+1))++ad[q]::ad.toList.drop (q+1)):=by
  have h7:ad.toList=ad.toList.take p++ad.toList.drop p:=(List.take_append_drop _ _).symm;have h8:ad.toList.drop p=ad[p]::ad.toList.drop (p+1):=by rw[List.drop_eq_getElem_cons aq];simp
  have h9:ad.toList.drop (p+1)=(ad.toList.drop (p+1)).take (q-(p+1))++ad.toList.drop q:=by
   conv=>lhs;rw[<-List.take_append_drop (q-(p+1)) (ad.toList.drop (p+1))]
   rw[List.drop_drop,show p+1+(q-(p+1))=q by omega]
  have mH:ad.toList.drop q=ad[q]::ad.toList.drop (q+1):=by rw[List.drop_eq_getElem_cons aq];simp
  conv=>lhs;rw[h7,h8,h9,mH]
 have gb:RU p q ad.toList=ad.toList.take p++ad[q]::ad[p]::((ad.toList.drop (p+1)).take (q-(p+1))++ad.toList.drop (q+1)):=by
  unfold RU;have h8:ad.toList.drop p=ad[p]::ad.toList.drop (p+1):=by rw[List.drop_eq_getElem_cons aq];simp
  have mH:ad.toList.drop q=ad[q]::ad.toList.drop (q+1):=by rw[List.drop_eq_getElem_cons aq];simp
  rw[h8,mH,show q-p=(q-(p+1))+1 by omega];simp
 rw[gb]at Fz;rw[ga]at hd;refine Ol h1 (ad:=ad) (λj o ho=>zt h1 (ad:=ad) ad.toList [] [] rfl rfl aD h3 j o fO ho) hK hQ Hy wM (List.range' (p+1) (q-(p+1))) (List.range' (q+1) (ad.size-(q+1))) ad.size (Array.replicate ad.size false) (List.range' 0 p) E E objs objs a _ ?_ aD ?_ ?_ ?_ ?_ ?_ hs.drew ?_ hs.drew;intro j hj o ho;have hj:j<p:=by have:=List.mem_range'.1 hj;omega
 have:=fB.1 vm o (wD.2 ⟨j,by rw[rP hj,Array.getElem?_toList];exact ho⟩);exact this;intro k o hk;simp[Array.getD]at hk;intro i;rw[<-nI];simp only[Ka,Array.getD,ahA];constructor;intro h;simp[h];intro h;exact h.1;rw[<-nI];exact TJ;rw[<-nI];simp;rw[rQ,aqc,aiH];exact hd;grind
theorem acO {Fin:Exit->Act->World->Prop}(hg:di g)(p q:Nat){id:Nat}{k:List It}{E:bq}{objs:List Ob}(hx:aiG p q pf ad=true)(vm:((ad.toList.take p).all λo=>mQ o.op)=true)(h1:R g pf Fin (.dr ad ad.toList::k) E objs)(h2:R g pf Fin (.dr ad (RU p q ad.toList)::k) E objs):R g pf Fin (.code (.region id ad true)::k) E objs:=by
 rintro⟨ov,ho⟩;have h1:=h1 ho;have h2:=h2 ho;simp only at h1 h2;intro a w hs;simp only[KP];have hQ:∀E objs a w,RK g Fin k E objs->fi g E objs a w->KP g Fin k .normal a w:=λ_ _ a w hr hs=>hr a w hs
 exact YF hg hx (BL k) hQ vm h1 h2 hs id
end
end ax
namespace ax
open Go Go.RowKit
section
variable {g:G} {pf:Nat->cI} {ad:Array Oper} {Fin:Exit->Act->World->Prop}
theorem Wm (hg:di g){o:Oper}{az:List Oper}{k:List It}{E:bq}{objs objs':List Ob}{v:AV}(ED:held (jQ pf) o.op=false)(bt:aH ad.toList E o.guard=some true)(hd:aQ ⟨g.ty,g.N⟩ o.dst=true)
  (h:dk g.ty (ev E) objs o.op=some (v,objs')) (hr:R g pf Fin (.dr ad az::k) (bh E o.dst v) objs'):R g pf Fin (.dr ad (o::az)::k) E objs :=
 cU (.KJ hg ED (cT bt) (dI hd) h) hr
theorem HW {ty:Nat->Option Ty}{ρ:Operand->AV}{objs objs':List Ob}{T:Nat}{a x:Operand}{τ:Ty}{i off:Nat}{l new:List AV}(hT:ty T=some τ)(ha:ρ a=.lo i off)(ho:dq objs i=some (.box l))(hx:gn (ρ x)=some new)(hn:new.length=τ.size)(hf:off+τ.size<=l.length)
  (he:dj objs i (.box (gL l off new))=objs'):dk ty ρ objs (.store T a x)=some (.any,objs'):=by
 subst he;have h1:Nat.beq (len new) τ.size=true:=by rw[bp,hn];simp_all
 have h2:Nat.ble (off+τ.size) (len l)=true:=by rw[bp];simp_all
 simp[dk,cS,fc,iL,hT,ha,ho,hx,h1,h2]
end
end ax
namespace ax
open Go Go.RowKit
variable{gd:Option (Nat×Bool)}{after:Array Edge}{dst:Option Nat}{az:List Oper}{objs:List Ob}{pos:String}{k:List It}{x:Operand}{s:ByteArray}{ty T:Nat}{E:bq}{z:List Value}
section
variable {g:G} {pf:Nat->cI} {ad:Array Oper} {Fin:Exit->Act->World->Prop}
theorem Cb(hg:di g){T T':Nat}{x y:Operand}
  {a b:ByteArray} (c:ByteArray)
  (bt:aH ad.toList E gd=some true) (hd:aQ ⟨g.ty,g.N⟩ dst=true) (hx:ev E x=.d (.v (.string a))) (hy:ev E y=.d (.v (.string b))) (hs:a.size+b.size<=1000000000) (hc:a++b=c)
  (hr:R g pf Fin (.dr ad az::k) (bh E dst (.d (.v (.string c)))) objs):R g pf Fin (.dr ad (⟨dst,.binOp .add T x y T',ty,pos,after,gd⟩::az)::k) E objs:=by
 subst hc;refine cU (aK.up (aK.quiet hg bt hd aD λφ objs w' w hρ fk=>?_)) hr;rename_i ac;simp only[Op.operands]at hρ;have aP:=hρ x aD;rw[hx]at aP;have eC:=hρ y aD;rw[hy]at eC;simp only[RV]at aP eC;generalize k9:w'.eval x=vx at aP;generalize o6:w'.eval y=vy at eC;cases aP;cases eC;refine aZ fk (vv:=.string (a++b)) ?_ ym;have h1:¬ (((a.size+b.size:Nat):Int) > IntKind.i64.max):=by simp[IntKind.max,IntKind.signed,IntKind.bits];omega
 have h2:(binOp .add T (.string a) (.string b)).run g.P w=.ok (.string (a++b)) w:=by simp only[binOp,Op.stringOp];simp_all
 simp only[execOp,Sem.run_bind,k9,o6,oH (show Hu (.string a)=true from rfl),Result.andThen_ok,h2,Sem.run_pure]
theorem RW(hg:di g){S D:Nat}
  {q cq q' pA:Nat} {z z':List Value} {kk k2:IntKind} {n:Int} (c:ByteArray)
  (bt:aH ad.toList E gd=some true) (hd:aQ ⟨g.ty,g.N⟩ dst=true) (hx:ev E x=.d (.v (.int k2 n))) (hS:g.ty S=some ⟨q,cq,z,.int kk⟩) (hD:g.ty D=some ⟨q',pA,z',.str⟩) (hc:Utf8.encode n=c)
  (hr:R g pf Fin (.dr ad az::k) (bh E dst (.d (.v (.string c)))) objs):R g pf Fin (.dr ad (⟨dst,.convert S D x,ty,pos,after,gd⟩::az)::k) E objs:=by
 subst hc;refine cU (aK.up (aK.quiet hg bt hd aD λφ objs w' w hρ fk=>?_)) hr;simp only[Op.operands]at hρ;have aP:=hρ x aD;rw[hx]at aP;simp only[RV]at aP;generalize k9:w'.eval x=vx at aP;cases aP;have hu:=(hg.ty _ _ hS).sh;have hv:=(hg.ty _ _ hD).sh;simp only[bH]at hu hv;refine aZ fk (vv:=.string (Utf8.encode n)) ?_ ym;simp[execOp,k9,convert,run_underlying hu,run_underlying hv,Conv.intToString]
theorem Cc(hg:di g)
  {q cq:Nat}  
  (bt:aH ad.toList E gd=some true) (hd:aQ ⟨g.ty,g.N⟩ dst=true) (hx:ev E x=.d (.v (.string s))) (hT:g.ty T=some ⟨q,cq,z,.str⟩)
  (hr:R g pf Fin (.dr ad az::k) (bh E dst (.lo (len objs) 0)) (objs++[.Jw s 0])):R g pf Fin (.dr ad (⟨dst,.range T x,ty,pos,after,gd⟩::az)::k) E objs:=by
 refine cU (aK.effect hg bt hd aD λφ a w hρ hs=>?_) hr;simp only[Op.operands]at hρ;have aP:=hρ x aD;rw[hx]at aP;simp only[RV]at aP;generalize k9:a.eval x=vx at aP;cases aP;have hu:=(hg.ty _ _ hT).sh;simp only[bH]at hu;refine⟨.value (.pointer (some ⟨w.heap.size,0,none⟩)),.pointer (some ⟨w.heap.size,0,none⟩),w.alloc (.stringIter s 0),φ++[.jK w.heap.size],?_,.inl rfl,?_,?_⟩;simp only [execOp,k9,Instr.range,Sem.run_bind,run_underlying hu,Result.andThen_ok,Sem.run_pure,run_newObj];rfl;simp only [RV];exact⟨w.heap.size,by rw[bp,<-hs.len];simp,rfl⟩;refine j8.new hs (λb hb=>by simp only [bI.bl]at hb; exact hb.symm) ?_;simp only[bj];exact heap_alloc_new _ _
theorem HX(hg:di g)
  {i p:Nat}  {c wd:Nat}
  (bt:aH ad.toList E gd=some true) (hd:aQ ⟨g.ty,g.N⟩ dst=true) (hx:ev E x=.lo i 0) (ho:dq objs i=some (.Jw s p)) (hp:p<s.size) (hc:Utf8.decode s p=(c,wd))
  (hr:R g pf Fin (.dr ad az::k) (bh E dst (.cP [.tt,iV p,.d (.v (.int .i32 c))])) (dj objs i (.Jw s (p+wd)))):R g pf Fin (.dr ad (⟨dst,.next x true,ty,pos,after,gd⟩::az)::k) E objs:=by
 refine cU (aK.effect hg bt hd aD λφ a w hρ hs=>?_) hr;simp only[Op.operands]at hρ;have aP:=hρ x aD;rw[hx]at aP;simp only[RV]at aP;obtain⟨b,fj,k9⟩:=aP;have hk:=cO hs fj ho;simp only[bj]at hk;have hJ:b<w.heap.size:=(Ab.1 hk).1;refine⟨.value (.tuple #[.bool true,.int .i64 p,.int .i32 c]),.tuple #[.bool true,.int .i64 p,.int .i32 c],w.putObj b (.stringIter s (p+wd)),φ.set i (.jK b),?_,.inl rfl,?_,?_⟩;have kZ:(getObj b).run g.P w=.ok (.stringIter s p) w:=by simp [getObj,Sem.run,hk]
 have lr:(setObj b (.stringIter s (p+wd))).run g.P w=.ok () (w.putObj b (.stringIter s (p+wd))):=by simp[setObj,Sem.run,hk,World.putObj]
 simp only[execOp,k9,Instr.next,Sem.run_bind,kZ,Result.andThen_ok];rw[if_pos hp];simp only[hc,Sem.run_bind,lr,Result.andThen_ok,Sem.run_pure];rfl;simp only [RV,aW];exact⟨[_,_,_],rfl,rfl,by simp only[iV,RV];exact .v _,.v _,trivial⟩;rw [bx];refine j8.swap hs fj (.inl rfl) aD (λc _ hc=>World.putObj_heap_other λe=>hc (by rw[e];rfl)) (λb' hb=>.inl hb) rfl rfl rfl λ_ _=>?_
 simp only[bj];exact World.putObj_heap_same hJ
theorem HY(hg:di g)
  {i p:Nat} 
  (bt:aH ad.toList E gd=some true) (hd:aQ ⟨g.ty,g.N⟩ dst=true) (hx:ev E x=.lo i 0) (ho:dq objs i=some (.Jw s p)) (hp:s.size<=p)
  (hr:R g pf Fin (.dr ad az::k) (bh E dst (.cP [.ff])) objs):R g pf Fin (.dr ad (⟨dst,.next x true,ty,pos,after,gd⟩::az)::k) E objs:=by
 refine cU (aK.effect hg bt hd aD λφ a w hρ hs=>?_) hr;simp only[Op.operands]at hρ;have aP:=hρ x aD;rw[hx]at aP;simp only[RV]at aP;obtain⟨b,fj,k9⟩:=aP;have hk:=cO hs fj ho;simp only[bj]at hk;refine aZ hs (vv:=.tuple #[.bool false]) ?_ (by simp only[RV,aW];exact⟨[_],rfl,rfl,trivial⟩);have kZ:(getObj b).run g.P w=.ok (.stringIter s p) w:=by simp[getObj,Sem.run,hk]
 simp only[execOp,k9,Instr.next,Sem.run_bind,kZ,Result.andThen_ok];rw[if_neg aq];simp_all
theorem YG(hg:di g)
  {q cq:Nat}   {n:Int}
  (bt:aH ad.toList E gd=some true) (hd:aQ ⟨g.ty,g.N⟩ dst=true) (hx:ev E x=.d (.v (.string s))) (hT:g.ty T=some ⟨q,cq,z,.str⟩) (hn:(s.size:Int)=n)
  (hr:R g pf Fin (.dr ad az::k) (bh E dst (iV n)) objs):R g pf Fin (.dr ad (⟨dst,.call {callee:=.builtin .len,args:=#[x],argTypes:=#[T]},ty,pos,after,gd⟩::az)::k) E objs:=by
 subst hn;refine cU (aK.up (aK.quiet hg bt hd aD λφ objs a w hρ hs=>?_)) hr;simp only[Op.operands,Call.operands]at hρ;have aP:=hρ x aD;rw[hx]at aP;simp only[RV]at aP;generalize k9:a.eval x=vx at aP;cases aP;have hu:=(hg.ty _ _ hT).sh;simp only[bH]at hu;refine aZ hs (vv:=.int .i64 s.size) ?_ JY;simp[execOp,resolve,invoke,builtin,Builtin.len_,k9,run_underlying hu,Result.andThen];rfl
end
end ax
namespace ax
open Go Go.RowKit
variable{gd:Option (Nat×Bool)}{after:Array Edge}{dst:Option Nat}{az:List Oper}{objs:List Ob}{pos:String}{k:List It}{aa:List (List D)}{z:List Value}{ty T:Nat}{E:bq}{τ:Ty}{x:Operand}
section
variable {g:G} {pf:Nat->cI} {ad:Array Oper} {Fin:Exit->Act->World->Prop}
theorem td(hg:di g){lo hi:Option Operand}
  {i s sz q cq e:Nat}    (rows':List (List D)) {h:Int}
  (bt:aH ad.toList E gd=some true) (hd:aQ ⟨g.ty,g.N⟩ dst=true) (dK:Rm pf=.bT 1) (hx:ev E x=.ow i s) (ho:dq objs i=some (.arr sz s aa)) (hh:rR E hi aa.length=some h) (Rx:rR E lo 0=some 0) (hT:g.ty T=some ⟨q,cq,z,.slice e⟩) (he:g.ty e=some τ) (hsz:τ.size=sz)
  (h0:0<=h) (h2:h<=aa.length) (eE:aa.take h.toNat=rows')
  (hr:R g pf Fin (.dr ad az::k) (bh E dst (.ow i (Nat.succ s))) (dj objs i (.arr sz (Nat.succ s) rows'))):R g pf Fin (.dr ad (⟨dst,.slice T x lo hi none,ty,pos,after,gd⟩::az)::k) E objs:=by
 subst eE;refine cU ?_ hr;simp only[bQ,dK];refine aK.eU hg (BQ ho) bt hd aD λφ a w hρ hs=>?_
 simp only[Op.operands]at hρ;have aP:=hρ x aD;rw[hx]at aP;simp only[RV]at aP;obtain⟨_,ph,fj,aP⟩:=aP;have hk:=cO hs fj ho;cases ph<;>try (simp only[bj]at hk;done)
 rename_i Jy s2 v2 Hp;simp only[bj]at hk;obtain⟨e1,e2,mF,Nq⟩:=hk;subst e1;subst e2;have hv:=(aP _ _ _ _ rfl).2 rfl;clear aP;rw[bx];have fE:i<φ.length:=(fu.1 fj).1;have hτ:=hg.ty _ _ he;have htl:(aa.take h.toNat).length=h.toNat:=by simp_all
 have Rq:∀cap:Nat,(h:Int)<=cap->(Instr.sliceBounds true aa.length cap (lo.map a.eval) (hi.map a.eval) none).run g.P w=.ok (0,h.toNat,cap) w:=λcap hc=>by
  have:=nN (P:=g.P) (w:=w) (sl:=true) (a:=a) (len:=aa.length) (cap:=cap) (lo:=lo) (hi:=hi) (l:=0) Rx hh (λy hy n he=>by
   have:=hρ y iS;rw[he]at this;simp only[RV]at this;generalize a.eval y=u at this;cases this;rfl) (λy hy n he=>by
   have:=hρ y iS;rw[he]at this;simp only[RV]at this;generalize a.eval y=u at this;cases this;rfl) (kH 0) h0 hc
  simp_all
 have ez:∀r∈aa.take h.toNat,r.length=sz:=λr hr=>mF r (Q7 hr)
 rcases Nq with ⟨a0,rfl,eE,rfl⟩|⟨b,o,cap,cs,Tb,rfl,rfl,bg,hn,su,hle,uK⟩
 subst eE;have Yz:h=0:=by grind
 subst Yz;have hb:=Rq 0 aD;exact alA;have hb:=Rq cap aq;have yr:(if cap=0 then(some (⟨b,o,none⟩:Addr))else(some (⟨b,o,none⟩:Addr)).map (·.add (0*τ.size)))=some ⟨b,o,none⟩:=by split;rfl;simp only[ss,fU,Nat.zero_mul,Fp]
 refine⟨.value (.slice (some ⟨b,o,none⟩) h.toNat cap),.slice (some ⟨b,o,none⟩) h.toNat cap,w,φ.set i (.o8 sz (Nat.succ s) (.slice (some ⟨b,o,none⟩) h.toNat cap) (some b)),?_,.inl rfl,?_,?_⟩;simp only[execOp,Instr.sliceAt,Instr.slice,hv,underlying,Sem.run_bind,run_program,Result.andThen_ok,bX hg hT,Sem.run_pure,hb,run_sizeOf hτ,TE,Option.map_none,yr];simp only [RV];simp_all;refine j8.swap hs fj (.inr (.inl ⟨_,_,_,_,_,_,_,_,rfl,rfl,NL _⟩)) cZ (λ_ _ _=>rfl) (λb' hb=>.inl hb) rfl rfl rfl λbF _=>?_
 simp only[bj];refine⟨trivial,trivial,ez,.inr ⟨b,o,cap,cs,Tb,by rw[htl],rfl,bg,by rw[htl];omega,su,hle,λi' r j x' hi hj=>?_⟩⟩;have mG:=(fu.1 hi).1;rw[htl]at mG;rw[rP mG]at hi;obtain⟨y,h3,h4⟩:=uK i' r j x' hi hj;exact⟨y,h3,h4.mono bF⟩
theorem Lg(hg:di g){T n:Nat}{parts:Array (Nat×Operand)}
  {q cq e sz:Nat}   (aa:List (List D))
  (bt:aH ad.toList E gd=some true) (hd:aQ ⟨g.ty,g.N⟩ dst=true) (dK:Rn pf=.bT 0) (hT:g.ty T=some ⟨q,cq,z,.slice e⟩) (he:g.ty e=some τ) (eE:kY (parts.toList.map λp=>(p.1,ev E p.2)) 0 τ.size=some aa) (hn:aa.length=n) (hsz:τ.size=sz) (hb:n*sz<=100000) (Ae:n<=100000)
  (hr:R g pf Fin (.dr ad az::k) (bh E dst (.ow (len objs) 0)) (objs++[.arr sz 0 aa])):R g pf Fin (.dr ad (⟨dst,.buildSlice T n parts,ty,pos,after,gd⟩::az)::k) E objs:=by
 subst hsz;refine cU ?_ hr;simp only[bQ,dK];refine aK.eU hg (.add _ _) bt hd aD λφ a w hρ hs=>?_
 have Jz:=(hg.ty _ _ hT).sh;simp only[bH]at Jz;have hτ:=hg.ty _ _ he;have aoK:∀p∈parts.toList,RV (SS g.S0 φ) w φ (ev E p.2) (a.eval p.2):=λp hp=>hρ p.2 (by simp only[Op.operands,Array.toList_map,gm];grind)
 have hlp:aa.length=parts.size:=by
  have key:∀(l:List (Nat×AV)) (k:Nat) (rs:List (List D)),kY l k τ.size=some rs->rs.length=l.length:=by
   intro l;induction l with
   |nil=>intro k rs h;simp[kY]at h;subst h;rfl
   |cons x l ih=>intro k rs h;exact alI
  grind
 obtain⟨zv,Js,VY⟩:=iC hτ w;have Kl:=hτ.zl;have hzs:zv.cells.size=τ.size:=by grind
 generalize fK:(if n*τ.size=0 then([]:List Value)else((List.range (n*τ.size)).map λi=>zv.cells[i % zv.cells.size]!))=az;have mF:az.length=n*τ.size:=by grind
 obtain ⟨cells,h1,h2,V3,h3⟩:=tz (S0:=g.S0) (φ:=φ) (w:=w) hτ (parts.toList.map λp=>(p.1,ev E p.2)) (parts.toList.map λp=>(p.1,a.eval p.2)) 0 aa [] az
  ir (by simp only[kn];exact aW.map _ _ _ λp hp=>aoK p hp) eE aD ir
 simp only[yp]at h1;have XG:(parts.map λ(i,x)=>(i,a.eval x)).toList=parts.toList.map λp=>(p.1,a.eval p.2):=by simp_all
 have fo:(Instr.buildSlice T n (parts.map λ(i,x)=>(i,a.eval x))).run g.P w=.ok (.slice (some ⟨w.heap.size,0,none⟩) n n) (w.alloc (.cells cells.toArray e)):=by
  have h0:¬ (n*τ.size > 2 ^ 24):=by omega
  simp only[Instr.buildSlice,underlying,Sem.run_bind,run_program,Result.andThen_ok,Jz,Sem.run_pure,run_sizeOf hτ];rw[Sem.run_ite];rw[if_neg h0];by_cases hz0:n*τ.size=0;rw [Sem.run_ite,if_pos hz0];have TV:az=[]:=kG.1 aq;rw[TV]at h1;simp only[Sem.run_pure,Result.andThen_ok,hz0,XG,newRow,Sem.run_bind];simp only[show(Array.map (λx=>(#[]:Array Value)[x % (#[]:Array Value).size]!) (Array.range 0))=([]:List Value).toArray from by simp,h1,Sem.run_bind,run_newObj,Result.andThen_ok,Sem.run_pure];rfl;rw [Sem.run_ite,if_neg hz0];have:(Array.range (n*τ.size)).map (λx=>zv.cells[x % zv.cells.size]!)=az.toArray:=by grind
  simp only[Sem.run_bind,Js,Sem.run_pure,Result.andThen_ok,this,XG,h1,newRow,run_newObj];rfl
 refine⟨.value (.slice (some ⟨w.heap.size,0,none⟩) n n),.slice (some ⟨w.heap.size,0,none⟩) n n,w.alloc (.cells cells.toArray e),φ++[.o8 τ.size 0 (.slice (some ⟨w.heap.size,0,none⟩) n n) (some w.heap.size)],?_,.inl rfl,?_,?_⟩;simp only[execOp,Sem.run_bind,fo,Result.andThen_ok,Sem.run_pure];simp only [RV];refine⟨⟨_,_,_,rfl⟩,.o8 τ.size 0 (.slice (some ⟨w.heap.size,0,none⟩) n n) (some w.heap.size),by rw[bp,<-hs.len];simp,λNn s' x' pO he=>?_⟩;grind;refine j8.new hs (λb hb=>by simp only [bI.bl]at hb; cases hb; rfl) ?_;simp only[bj];refine⟨trivial,trivial,λr hr=>?_,.inr ⟨w.heap.size,0,n,cells,e,by rw[hn],rfl,heap_alloc_new _ _,by omega,by unfold maxLen;omega,by simp_all,λi r j x hi hj=>?_⟩⟩;obtain ⟨i,hi⟩:=wD.1 hr;grind;obtain ⟨u,hu1,TU⟩:=(h3 i r hi).2 j x hj;exact⟨u,by simp_all,TU.mono (sy (λb hb=>by simp only[bI.bl]at hb;cases hb;rfl))⟩
theorem Tj(hg:di g)(m:Nat){x i:Operand}
  {id s sz q cq e:Nat}    {n:Int}
  (bt:aH ad.toList E gd=some true) (hd:aQ ⟨g.ty,g.N⟩ dst=true) (dK:Fx pf=.look (m+1)) (aiI:¬ pF g.φ0.length m id (.arr sz s aa)) (hx:ev E x=.ow id s) (ho:dq objs id=some (.arr sz s aa)) (hi:ev E i=.d (.v (.int .i64 n))) (hT:g.ty T=some ⟨q,cq,z,.slice e⟩) (he:g.ty e=some τ) (hsz:τ.size=sz)
  (h0:0<=n) (fE:n.toNat<aa.length)
  (hr:R g pf Fin (.dr ad az::k) (bh E dst (.el id s n.toNat 0)) objs):R g pf Fin (.dr ad (⟨dst,.indexAddr T x i,ty,pos,after,gd⟩::az)::k) E objs:=by
 refine cU ?_ hr;simp only[bQ,dK];refine aK.fW hg m bt hd aD λφ a w bW hgr hρ hs=>?_
 simp only[Op.operands]at hρ;have aP:=hρ x aD;rw[hx]at aP;have wQ:=hρ i aD;rw[hi]at wQ;simp only[RV]at wQ;generalize hvi:a.eval i=vi at wQ;cases wQ;have ho:dq bW id=some (.arr sz s aa):=by have h:=aP;simp only[RV]at h;obtain⟨_,ph,fj,_⟩:=h;rw[bE]at ho ⊢;exact Gr.Fy hgr ho u6 aiI
 exact mB9
theorem Wu(hg:di g)(m:Nat)
  {id s sz r j:Nat}   {row:List D} {v:AV}
  (bt:aH ad.toList E gd=some true) (hd:aQ ⟨g.ty,g.N⟩ dst=true) (dK:kL pf x=.look (m+1)) (aiI:¬ pF g.φ0.length m id (.arr sz s aa)) (hx:ev E x=.el id s r j) (ho:dq objs id=some (.arr sz s aa)) (hT:g.ty T=some τ) (gY:aa[r]? = some row) (hp:kJ τ (row.map .d) j=some v)
  (hr:R g pf Fin (.dr ad az::k) (bh E dst v) objs):R g pf Fin (.dr ad (⟨dst,.load T x,ty,pos,after,gd⟩::az)::k) E objs:=by
 refine cU ?_ hr;simp only[bQ,dK];refine aK.fW hg m bt hd aD λφ a w bW hgr hρ hs=>?_
 simp only[Op.operands]at hρ;have aP:=hρ x aD;rw[hx]at aP;simp only[RV]at aP;obtain⟨_,ph,fj,aP⟩:=aP;have ho:dq bW id=some (.arr sz s aa):=by rw[bE]at ho ⊢;exact Gr.Fy hgr ho u6 aiI
 have hk:=cO hs fj ho;cases ph<;>try (simp only[bj]at hk;done)
 rename_i Jy s2 v2 Hp;simp only[bj]at hk;exact mB4
open Classical in
theorem Wh(hg:di g){d x:Operand}
  {i off:Nat} {l new:List AV} 
  (bt:aH ad.toList E gd=some true) (hd:aQ ⟨g.ty,g.N⟩ dst=true) (dK:js pf d=.bT 10000) (hx:ev E d=.lo i off) (ho:dq objs i=some (.box l)) (hT:g.ty T=some τ) (hc:gn (ev E x)=some new)
  (hl:Nat.beq (len new) τ.size=true) (lY:Nat.ble (Nat.add off τ.size) (len l)=true)
  (hr:R g pf Fin (.dr ad az::k) (bh E dst .any) (dj objs i (.box (gL l off new)))):R g pf Fin (.dr ad (⟨dst,.store T d x,ty,pos,after,gd⟩::az)::k) E objs:=by
 refine cU ?_ hr;simp only[bQ,dK];refine .nJ hg (cT bt) (dI hd) aD (λh=>absurd rfl (h _)) (λb hb _=>?_) λφ o₁ jF a w E₁ uv hv we hs=>?_
 cases hb;intro j y hj;rw[bE]at ho;rw[bx];by_cases e:j=i;subst e;exact⟨_,u7 (fu.1 ho).1,.inr ⟨.inr (.inr ⟨rfl,by rw[ho]at hj;cases hj;rfl⟩),.inr (.inr ⟨rfl,rfl⟩)⟩⟩;grind;rcases we with ⟨h,_⟩| ⟨_,h,_⟩| ⟨rfl,rfl⟩
 cases h;cases h;have hρ:=ly uv hv;simp only[Op.operands]at hρ;refine ke (ρA:=λy=>if y=d then .lo i off else if y=x then ev E x else .any) hg.ty hs (λy=>?_) ?_;split;rename_i h;rw[h,<-hx];exact hρ d aD;split;rename_i h;rw[h];exact hρ x aD;simp[RV];have hxx:(if x=d then AV.lo i off else if x=x then ev E x else .any)=ev E x:=by split;rename_i h;rw[h,hx];rw[if_pos rfl]
 have aiC:(if x=d then AV.lo i off else ev E x)=ev E x:=by rw[if_pos rfl]at hxx;exact hxx
 simp only[dk,cS,fc,iL,hT,if_true,ho,aiC,hc,hl,lY,cond_true]
theorem tH(hg:di g){x i:Operand}
  {id s r j n sz cq e:Nat}   {m:Int} (j':Nat)
  (bt:aH ad.toList E gd=some true) (hd:aQ ⟨g.ty,g.N⟩ dst=true) (hx:ev E x=.el id s r j) (hi:ev E i=.d (.v (.int .i64 m))) (hT:g.ty T=some ⟨sz,cq,z,.array n e⟩) (he:g.ty e=some τ)
  (h0:0<=m) (fE:m<n) (ho:j+m.toNat*τ.size=j')
  (hr:R g pf Fin (.dr ad az::k) (bh E dst (.el id s r j')) objs):R g pf Fin (.dr ad (⟨dst,.indexAddr T x i,ty,pos,after,gd⟩::az)::k) E objs:=by
 subst ho;refine cU (aK.up (aK.quiet hg bt hd aD λφ o₁ a w hρ hs=>?_)) hr;simp only[Op.operands]at hρ;have aP:=hρ x aD;rw[hx]at aP;have wQ:=hρ i aD;rw[hi]at wQ;simp only[RV]at aP wQ;obtain⟨⟨b,o,k9⟩,ph,fj,aP⟩:=aP;generalize hvi:a.eval i=vi at wQ;cases wQ;have Jz:=(hg.ty _ _ hT).sh;simp only[bH]at Jz;refine aZ hs (vv:=.pointer (some ⟨b,o+m.toNat*τ.size,none⟩)) ?_ ?_;have fo:(Instr.indexAt T (a.eval x) (a.eval i)).run g.P w=.ok (.pointer (some ⟨b,o+m.toNat*τ.size,none⟩)) w:=by simp only[Instr.indexAt,k9,hvi,asIntOf,underlying,Sem.run_bind,Sem.run_pure,run_program,Result.andThen_ok,Jz,Instr.sureAddr];rw[Sem.run_ite,if_pos ⟨h0,fE⟩];simp only[Sem.run_bind,run_sizeOf (hg.ty _ _ he),Result.andThen_ok,Sem.run_pure,fU]
 simp only[execOp,Sem.run_bind,fo,Result.andThen_ok,Sem.run_pure];simp only [RV];grind
end
end ax

namespace ax
open Go
variable{l:List Int}{v:Int}
namespace Tm
mutual
def cF:Tm->List Int|mk k _ n l=>if k=1 then [n]else ep l
def ep:List Tm->List Int|[]=>[]|t::r=>cF t++ep r
end
theorem anf{l:List Tm}(h:v∈ep l):∃t∈l,v∈cF t:=by
 induction l with
 |nil=>simp[ep]at h
 |cons x l ih=>simp only[ep,cu]at h;grind
mutual
theorem Ue:∀(t:Tm) (a:List Int),oN a t=(cF t).foldl jC a|mk k s n l,a=>by simp only[oN,cF];split;rfl;exact vC l a
theorem vC:∀(l:List Tm) (a:List Int),fA a l=(ep l).foldl jC a|[],a=>rfl|t::r,a=>by simp only[fA,ep,acb,Ue t a,vC r]
end
mutual
theorem aiJ:∀{t:Tm} {d:Int} {e:Int×Tm},e∈gX t d->e.2.k=1->plain t=true->e.2.n∈cF t
 |mk k s n l,d,e,he,hk,hp=>by
  simp only[gX,cE]at he;simp only[plain,aV]at hp;rcases he with rfl|he
  have hk:k=1:=hk;simp only[cF,if_pos hk];show n∈[n];simp
  have hl:=HZ he hk hp.2;by_cases h1:k=1;have:l=[]:=by simp_all
  subst this;simp[iU]at he;simp only[cF,if_neg h1];exact hl
theorem HZ:∀{l:List Tm} {d:Int} {e:Int×Tm},e∈iU l d->e.2.k=1->nQ l=true->e.2.n∈ep l
 |[],_,_,he,_,_=>by simp[iU]at he
 |t::r,d,e,he,hk,hp=>by
  simp only[iU,cu]at he;simp only[nQ,aV]at hp;simp only[ep,cu];rcases he with he|he
  exact .inl (aiJ he hk hp.1);exact .inr (HZ he hk hp.2)
end
theorem tI{s:ByteArray}{n:Int}{m:Nat}(h:l8 1 s n m=true):0<=n/\n<1000000/\s=ByteArray.empty/\m=0:=by simp only[l8,if_true,aV,decide_eq_true_eq,bn,beq_iff_eq]at h;obtain⟨⟨⟨h1,h2⟩,h3⟩,h4⟩:=h;exact⟨h1,h2,h3,by omega⟩
mutual
theorem Om:∀(t:Tm),bA t=true->plain t=true
 |mk k s n l,h=>by
  simp only[bA,aV]at h;simp only[plain,aV,l9 l h.1.2,and_true,wE,ahC];by_cases hk:k=1;subst hk;have:=(tI h.2).2.2.2;right;cases l<;>simp at this ⊢
  simp_all
theorem l9:∀(l:List Tm),cv l=true->nQ l=true|[],_=>rfl|t::r,h=>by simp only[cv,aV]at h;simp only[nQ,Om t h.1,l9 r h.2,Fq]
end
mutual
theorem lz:∀(t:Tm),bA t=true->∀v∈cF t,0<=v/\v<1000000|mk k s n l,h,v,hv=>by simp only[bA,aV]at h;simp only[cF]at hv;split at hv;rename_i hk;subst hk;simp at hv;subst hv;have:=tI h.2;omega;exact vD l h.1.2 v hv
theorem vD:∀(l:List Tm),cv l=true->∀v∈ep l,0<=v/\v<1000000|[],_,v,hv=>by simp[ep]at hv|t::r,h,v,hv=>by simp only[cv,aV]at h;simp only[ep,cu]at hv;exact hv.elim (lz t h.1 v) (vD r h.2 v)
end
mutual
theorem YH(g:Int->Int):∀(t:Tm),cF (gi g t)=(cF t).map g|mk k s n l=>by simp only[gi,cF];split;rfl;exact F5 g l
theorem F5(g:Int->Int):∀(l:List Tm),ep (dp g l)=(ep l).map g|[]=>rfl|t::r=>by simp only[dp,ep,eR,YH g t,F5 g r]
end
mutual
theorem F6:∀(t:Tm),gi (λn=>n) t=t|mk k s n l=>by simp[gi,Cd l]
theorem Cd:∀(l:List Tm),dp (λn=>n) l=l|[]=>rfl|t::r=>by simp only[dp,F6 t,Cd r]
end
theorem On(g:Int->Int)(l:List Tm):(dp g l).length=l.length:=by rw[j5];simp
mutual
theorem F7(g:Int->Int):∀(t:Tm),size (gi g t)=size t|mk k s n l=>by simp only[gi,size,Ce g l]
theorem Ce(g:Int->Int):∀(l:List Tm),aw (dp g l)=aw l|[]=>rfl|t::r=>by simp only[dp,aw,F7 g t,Ce g r]
end
mutual
theorem Cf(g:Int->Int):∀(t:Tm),depth (gi g t)=depth t|mk k s n l=>by simp only[gi,depth,zu g l]
theorem zu(g:Int->Int):∀(l:List Tm),dV (dp g l)=dV l|[]=>rfl|t::r=>by simp only[dp,dV,Cf g t,zu g r]
end
mutual
theorem F8(g:Int->Int):∀(t:Tm),bA t=true->(∀v∈cF t,0<=g v/\g v<1000000)->bA (gi g t)=true|mk k s n l,h,hv=>by simp only[bA,aV]at h;simp only[gi,bA,aV,On];by_cases hk:k=1;subst hk;obtain⟨_,_,h3,h4⟩:=tI h.2;have hl:l=[]:=kG.1 h4;subst hl;subst h3;obtain⟨h5,h6⟩:=hv n (by simp[cF]);refine⟨⟨h.1.1,rfl⟩,?_⟩;simp only[l8,if_true,aV,decide_eq_true_eq];exact⟨⟨⟨h5,h6⟩,bn.2 rfl⟩,by rfl⟩;rw [if_neg hk];exact⟨⟨h.1.1,Cg g l h.1.2 λv h'=>hv v (by simp only[cF,if_neg hk];exact h')⟩,h.2⟩
theorem Cg(g:Int->Int):∀(l:List Tm),cv l=true->(∀v∈ep l,0<=g v/\g v<1000000)->cv (dp g l)=true|[],_,_=>rfl|t::r,h,hv=>by simp only[cv,aV]at h;simp only[dp,cv,aV];exact⟨F8 g t h.1 λv h'=>hv v (by simp[ep,h']),Cg g r h.2 λv h'=>hv v (by simp[ep,h'])⟩
end
theorem dM{t:Tm}:bB t=true↔bA t=true/\t.size<=3000/\t.depth<=100:=by simp only[bB,aV,decide_eq_true_eq,and_assoc]
theorem Oo{g:Int->Int}{t:Tm}(h:bB t=true)(hv:∀v∈cF t,0<=g v/\g v<1000000):bB (gi g t)=true:=by rw[dM]at h ⊢;exact⟨F8 g t h.1 hv,by rw[F7];exact h.2.1,by rw[Cf];exact h.2.2⟩
def once (l:List Int):List Int:=l.foldl jC []
theorem YI{a:List Int}{x v:Int}:v∈jC a x↔v∈a\/v=x:=by unfold jC;grind
theorem Uf:∀{a:List Int} {v:Int},v∈l.foldl jC a↔v∈a\/v∈l:=by
 induction l with
 |nil=>simp
 |cons x l ih=>intro a v;simp only[wC,ih,YI,cE,or_assoc]
theorem Lh:v∈once l↔v∈l:=by simp[once,Uf]
end Tm
theorem Ch{l:List Tm}(h:Tm.cv l=true):bP l=Tm.once (Tm.ep l):=by rw[vr l (Tm.l9 l h),Tm.vC];rfl
def jH (l:List Int)(n:Int):Int:=if ux l n 0<0 then 0 else ux l n 0
theorem RX:∀{l:List Int} {n:Int} (i:Int),n∈l->i<=ux l n i/\ux l n i<i+l.length|x::l,n,i,h=>by simp only[ux,dx];split;omega;rename_i hx;have:=RX (l:=l) (n:=n) (i+1) ((cE.1 h).resolve_left λe=>hx e.symm);omega
theorem zw:∀{l:List Int} {n i:Int},n ∉ l->ux l n i=-1|[],_,_,_=>rfl|x::l,n,i,h=>by simp only[cE,not_or]at h;simp only[ux];rw[if_neg (λe=>h.1 e.symm)];exact zw h.2
theorem Oq{n:Int}(h:n∈l):jH l n=ux l n 0/\0<=jH l n/\jH l n<l.length:=by have:=RX 0 h;unfold jH;omega
end ax
namespace ax
open Go
variable{l:List Tm}{t:Tm}{v:Int}
theorem vE(h:t.bA=true):∀d e,e∈t.gX d->e.2.s.size<1000000000:=λd e he=>by have h1:=(Tm.w8 t d).2 h e he;rw[Tm.HP]at h1;simp only[aV,Tm.l8]at h1;have h2:=h1.2;split at h2;simp only [aV,Tm.bn]at h2;rw[h2.1.2];decide;split at h2;simp only [aV,Tm.bn]at h2;rw[h2.1];decide;grind
theorem lA(h:t.bB=true):t.bA=true:=(Tm.dM.1 h).1
def aJ:Tm:=.mk 0 ByteArray.empty 0 []
def Ot (cq:Int)(n:Int):Bool:=decide (cq ≥ IntKind.i64.wrap (1000000-n))
def qW (t:Tm)(cq:Int):Tm×Int :=if de t then(if cq<0 then(aJ,3)else if(bP [t]).any (Ot cq)then(aJ,3)else(Tm.gi (λn=>IntKind.i64.wrap (n+cq)) t,0))else(aJ,1)
def dP (l:List Tm):List Tm×Int×Int :=if l.all de then(Tm.dp (jH (bP l)) l,(bP l).length,0)else([],0,1)
def Ou (cq:Int)(v:Int):Bool:=decide (IntKind.i64.wrap (v+cq)<1000000)
def okF (V:List Int)(cq:Int):Bool:=(decide (cq ≥ 0)&&decide (cq<=1000000)&&V.all (Ou cq))||(decide (cq > 1000000)&&V.isEmpty)
theorem Ci(h:t.bA=true):Tm.cv [t]=true:=by simp[Tm.cv,h]
theorem kj(h:Tm.cv l=true):v∈bP l↔v∈Tm.ep l:=by rw[Ch h,Tm.Lh]
theorem Li(h:Tm.cv l=true)(hv:v∈bP l):0<=v/\v<1000000:=Tm.vD l h v ((kj h).1 hv)
theorem Ov{cq:Int}(h:t.bB=true)(ho:okF (bP [t]) cq=true):qW t cq=(Tm.gi (λn=>IntKind.i64.wrap (n+cq)) t,0)/\0<=cq/\(bP [t]≠[]->cq<=1000000)/\∀v∈bP [t],0<=v/\v+cq<1000000/\IntKind.i64.wrap (v+cq)=v+cq:=by
 have hr:de t=true:=by rw[cV];exact h
 have hf:=Ci (lA h)
 have key:0<=cq/\(bP [t]≠[]->cq<=1000000)/\∀v∈bP [t],0<=v/\v+cq<1000000/\IntKind.i64.wrap (v+cq)=v+cq:=by
  simp only[okF,oy,aV,decide_eq_true_eq,fB,List.isEmpty_iff]at ho;rcases ho with ⟨⟨h1,h2⟩,h3⟩|⟨h1,h2⟩
  refine ⟨h1,λ_=>h2,λv hv=>?_⟩;have h4:=Li hf hv;have h5:=h3 v hv;simp only[Ou,decide_eq_true_eq]at h5;have hw:IntKind.i64.wrap (v+cq)=v+cq:=pX aq aq;rw[hw]at h5;exact⟨h4.1,h5,hw⟩;exact⟨by omega,λh=>absurd h2 h,λv hv=>by rw[h2]at hv;simp at hv⟩
 refine⟨?_,key⟩;unfold qW;rw[if_pos hr,if_neg aq];have:¬ (bP [t]).any (Ot cq)=true:=by rw[Kd];rintro⟨v,hv,hb⟩;obtain⟨h1,h2,_⟩:=key.2.2 v hv;simp only[Ot,decide_eq_true_eq]at hb;rw[pX aq aq]at hb;omega
 simp_all
theorem Ow(h:Tm.cv l=true)(hv:v∈Tm.ep l):jH (bP l) v=ux (bP l) v 0/\0<=jH (bP l) v/\jH (bP l) v<(bP l).length:=Oq ((kj h).2 hv)
theorem Ox:l.all de=true↔∀t∈l,t.bB=true:=by simp only[fB,cV]
theorem Lj(h:∀t∈l,t.bB=true):Tm.cv l=true:=Tm.fz.2 λt ht=>lA (h t ht)
end ax
namespace ax
open Go
variable{ty:Nat->Option Ty}{row:List D}{τ:Ty}{B t:Nat}
structure sG (ty:Nat->Option Ty) (T:Nat):Prop where
 ex:∃(a b c s:Nat) (τ τa τb τc τs:Ty),ty T=some τ/\τ.sh=.struct [(0,a),(1,b),(2,c),(3,s)]/\τ.size=4/\1<=τ.bytes/\ty a=some τa/\τa.sh=.int .i64/\ty b=some τb/\τb.sh=.str/\ty c=some τc/\τc.sh=.int .i64/\ty s=some τs/\τs.sh=.slice T
def RY (ty:Nat->Option Ty)(T:Nat):Bool :=
 match ty T with
 | some ⟨4,cq,_,.struct [(0,a),(1,b),(2,c),(3,s)]⟩=>Nat.ble 1 cq&&(match ty a with| some ⟨_,_,_,.int .i64⟩=>true| _=>false)&&(match ty b with| some ⟨_,_,_,.str⟩=>true| _=>false) &&
   (match ty c with|some ⟨_,_,_,.int .i64⟩=>true|_=>false)&&(match ty s with|some ⟨_,_,_,.slice T'⟩=>Nat.beq T' T|_=>false)
 |_=>false
theorem Oy{T:Nat}(h:RY ty T=true):sG ty T:=by
 unfold RY at h;split at h
 case h_2=>cases h
 rename_i cq z a b c s hT;simp only[aV]at h;obtain⟨⟨⟨⟨h0,h1⟩,h2⟩,h3⟩,h4⟩:=h;split at h1
 case h_2=>cases h1
 rename_i ha;split at h2
 case h_2=>cases h2
 rename_i hb;split at h3
 case h_2=>cases h3
 rename_i hc;split at h4
 case h_2=>cases h4
 rename_i hs;have:=cB h4;subst this;exact⟨a,b,c,s,_,_,_,_,_,hT,rfl,rfl,ko h0,ha,rfl,hb,rfl,hc,rfl,hs,rfl⟩
theorem xj{B n t:Nat}{k:IntKind}(hτ:ty t=some τ)(hs:τ.sh=.int k)(h:c8 ty B n t row):∃m,row=[.v (.int k m)]/\k.min<=m/\m<=k.max:=by
 cases n with
 |zero=>simp[c8]at h
 |succ n=>simpa only[c8,hτ,hs]using h
theorem acP{B n t:Nat}(hτ:ty t=some τ)(hs:τ.sh=.str)(h:c8 ty B n t row):∃s:ByteArray,row=[.v (.string s)]/\s.size<=B:=by
 cases n with
 |zero=>simp[c8]at h
 |succ n=>simpa only[c8,hτ,hs]using h
theorem tJ{B n t e:Nat}(hτ:ty t=some τ)(hs:τ.sh=.slice e)(h:c8 ty B (n+1) t row):∃aa:List (List D),row=[.sl aa]/\(∀τ,ty e=some τ->aa.length*τ.bytes<=B)/\∀r∈aa,c8 ty B n e r:=by simpa only[c8,hτ,hs]using h
def Tm.Fit (t:Tm):Prop:=∀d e,e∈t.gX d->ji e.2.k/\ji e.2.n
theorem agq{T B:Nat}(hT:sG ty T)(hB:B<=140737488355328):∀(n:Nat) (row:List D),c8 ty B n T row->∃t:Tm,row=t.row/\t.Ok/\t.Fit:=by
 obtain⟨a,b,c,s,τ,τa,τb,τc,τs,h1,h2,h3,Lc,ha,ha',hb,uL,hc,FA,hs,fk⟩:=hT.ex;intro n;induction n using Nat.strongRecOn with
 |_ n ih=>
 intro row h;cases n with
 |zero=>simp[c8]at h
 |succ n=>
  simp only[c8,h1,h2,xf]at h;obtain⟨_,ra,_,g1,rfl,g2,g3,_,rb,_,g4,rfl,g5,g6,_,rc,_,g7,rfl,g8,g9,_,rs,_,g10,rfl,g11,g12,rfl⟩:=h;rw[ha]at g1;cases g1;rw[hb]at g4;cases g4;rw[hc]at g7;cases g7;rw[hs]at g10;cases g10;obtain⟨k,rfl,hk⟩:=xj ha ha' g3;obtain⟨nm,rfl,hnm⟩:=acP hb uL g6;obtain⟨m,rfl,hm⟩:=xj hc FA g9;cases n with
  |zero=>simp[c8]at g12
  |succ n=>
   obtain⟨aa,rfl,a8,eE⟩:=tJ hs fk g12
   have hch:∃l:List Tm,aa=l.map Tm.row/\∀x∈l,x.Ok/\x.Fit:=by
    clear a8 g11 g12;induction aa with
    |nil=>simp_all
    |cons r aa Ug=>
     obtain⟨t,ht1,ht2⟩:=ih n aq r (eE r aD);obtain⟨l,Eh,ky⟩:=Ug λr hr=>eE r (by simp[hr])
     exact⟨t::l,by simp[ht1,Eh],by simp_all⟩
   obtain⟨l,rfl,hl⟩:=hch;have V2:l.length<=B:=by have:=a8 τ h1;rw[fQ]at this;exact vd (Xk _ Lc) this
   refine⟨.mk k nm m l,by simp[Tm.row,Tm.k,Tm.s,Tm.n,Tm.l,Tm.eo],?_,?_⟩;intro d e he;simp only[Tm.gX,cE]at he;rcases he with rfl|he
   exact⟨show l.length<=_ by omega,show nm.size<=_ by omega⟩;obtain ⟨x,hx,hex⟩:=Tm.w7 he;exact(hl x hx).1 _ _ hex;intro d e he;simp only[Tm.gX,cE]at he;rcases he with rfl|he
   exact⟨hk,hm⟩;obtain ⟨x,hx,hex⟩:=Tm.w7 he;exact(hl x hx).2 _ _ hex
theorem RZ{t B n:Nat}{k:IntKind}{a:AV}(hτ:ty t=some τ)(hs:τ.sh=.int k)(h:c8 ty B n t row)(ha:a=vB τ row):∃m,a=.d (.v (.int k m))/\k.min<=m/\m<=k.max:=by obtain⟨m,rfl,h1⟩:=xj hτ hs h;exact⟨m,by rw[ha];unfold vB Ty.agg;rw[hs],h1⟩
theorem YJ{sh:Sh}(h:ty t=some τ)(h2:(ty t).map Ty.sh=some sh):τ.sh=sh:=by simp_all
theorem R1{ts:List Nat}{dW:List AV}(h:lT ty B (t::ts) dW):∃(n:Nat) (τ:Ty) (row:List D) (a:AV) (as':List AV),dW=a::as'/\ty t=some τ/\c8 ty B n t row/\a=vB τ row/\lT ty B ts as':=by
 match dW,h with
 |a::dW,h=>simp only[lT]at h;grind
 |[],h=>simp[lT]at h
theorem ani{dW:List AV}(h:lT ty B [] dW):dW=[]:=by
 cases dW with
 |nil=>rfl
 |cons _ _=>simp[lT]at h
end ax
namespace ax
open Go
def p5 (a b:Int):Int:=if a<b then -1 else if a > b then 1 else 0
def F9 (n:Int):Int:=if n > 0 then 1 else if n<0 then -1 else 0
def vF:List UInt8->List UInt8->Int|[],[]=>0|[],_::_=>-1|_::_,[]=>1|x::a,y::b=>if x=y then vF a b else p5 x.toNat y.toNat
def yJ (a b:ByteArray):Int:=vF a.data.toList b.data.toList
namespace Tm
mutual
def Cj:Tm->Tm->Int
 |mk k s n l,mk k' s' n' l'=>
  if k≠k' then F9 (IntKind.i64.wrap (k-k'))else if k≠3 then p5 n n' else if p5 l.length l'.length≠0 then p5 l.length l'.length
  else if yJ s s'≠0 then yJ s s' else Lk l l'
def Lk:List Tm->List Tm->Int|x::a,y::b=>if Cj x y≠0 then Cj x y else Lk a b|_,_=>0
end
theorem acQ (a b:Tm):Cj a b=if a.k≠b.k then F9 (IntKind.i64.wrap (a.k-b.k))else if a.k≠3 then p5 a.n b.n else if p5 a.l.length b.l.length≠0 then p5 a.l.length b.l.length
  else if yJ a.s b.s≠0 then yJ a.s b.s else Lk a.l b.l:=by cases a;cases b;simp only[Cj];rfl
end Tm
theorem Uh {a b:Int}:p5 a b=0↔a=b:=by unfold p5;omega
namespace Tm
end Tm
end ax
namespace ax
open Go
namespace Tm
end Tm
end ax
namespace ax
open Go
namespace Tm
theorem p6 {k:Int}{s:ByteArray}{n:Int}{l:List Tm}(h:bA (mk k s n l)=true):cv l=true/\(k=1->s=ByteArray.empty/\l=[]):=by simp only[bA,aV]at h;refine⟨h.1.2,λhk=>?_⟩;subst hk;have:=tI h.2;simp_all
end Tm
end ax
