/- THE TABLES tell the program rightly; written by a program (mkok.py). -/
import Derived.Test.YtfjnpgbjcgjecaaPevTabKit
import Derived.Test.YtfjnpgbjcgjecaaPevTab
import Derived.Eval
import Derived.Test.YtfjnpgbjcgjecaaRows
namespace Go.PevTab
open Go.Pev Go.Proofs
set_option maxRecDepth 100000

theorem tyOk3 : TyOk Try.prog 3 ty3 := tyOk_of Try.type3 Try.underlying3 (by kernel_rfl)
theorem tyOk4 : TyOk Try.prog 4 ty4 := tyOk_of Try.type4 Try.underlying4 (by kernel_rfl)
theorem tyOk5 : TyOk Try.prog 5 ty5 := tyOk_of Try.type5 Try.underlying5 (by kernel_rfl)
theorem tyOk9 : TyOk Try.prog 9 ty9 := tyOk_of Try.type9 Try.underlying9 (by kernel_rfl)
theorem tyOk22 : TyOk Try.prog 22 ty22 := tyOk_of Try.type22 Try.underlying22 (by kernel_rfl)
theorem tyOk24 : TyOk Try.prog 24 ty24 := tyOk_of Try.type24 Try.underlying24 (by kernel_rfl)
theorem tyOk26 : TyOk Try.prog 26 ty26 := tyOk_of Try.type26 Try.underlying26 (by kernel_rfl)
theorem tyOk28 : TyOk Try.prog 28 ty28 := tyOk_of Try.type28 Try.underlying28 (by kernel_rfl)
theorem tyOk34 : TyOk Try.prog 34 ty34 := tyOk_of Try.type34 Try.underlying34 (by kernel_rfl)
theorem tyOk38 : TyOk Try.prog 38 ty38 := tyOk_of Try.type38 Try.underlying38 (by kernel_rfl)
theorem tyOk42 : TyOk Try.prog 42 ty42 := tyOk_of Try.type42 Try.underlying42 (by kernel_rfl)
theorem tyOk52 : TyOk Try.prog 52 ty52 := tyOk_of Try.type52 Try.underlying52 (by kernel_rfl)
theorem tyOk53 : TyOk Try.prog 53 ty53 := tyOk_of Try.type53 Try.underlying53 (by kernel_rfl)
theorem tyOk57 : TyOk Try.prog 57 ty57 := tyOk_of Try.type57 Try.underlying57 (by kernel_rfl)
theorem tyOk73 : TyOk Try.prog 73 ty73 := tyOk_of Try.type73 Try.underlying73 (by kernel_rfl)
theorem tyOk75 : TyOk Try.prog 75 ty75 := tyOk_of Try.type75 Try.underlying75 (by kernel_rfl)
theorem tyOk79 : TyOk Try.prog 79 ty79 := tyOk_of Try.type79 Try.underlying79 (by kernel_rfl)
theorem tyOk81 : TyOk Try.prog 81 ty81 := tyOk_of Try.type81 Try.underlying81 (by kernel_rfl)
theorem tyOk82 : TyOk Try.prog 82 ty82 := tyOk_of Try.type82 Try.underlying82 (by kernel_rfl)
theorem tyOk84 : TyOk Try.prog 84 ty84 := tyOk_of Try.type84 Try.underlying84 (by kernel_rfl)
theorem tyOk86 : TyOk Try.prog 86 ty86 := tyOk_of Try.type86 Try.underlying86 (by kernel_rfl)
theorem tyOk91 : TyOk Try.prog 91 ty91 := tyOk_of Try.type91 Try.underlying91 (by kernel_rfl)
theorem tyOk98 : TyOk Try.prog 98 ty98 := tyOk_of Try.type98 Try.underlying98 (by kernel_rfl)
theorem tyOk107 : TyOk Try.prog 107 ty107 := tyOk_of Try.type107 Try.underlying107 (by kernel_rfl)
theorem tyOk109 : TyOk Try.prog 109 ty109 := tyOk_of Try.type109 Try.underlying109 (by kernel_rfl)
theorem tyOk110 : TyOk Try.prog 110 ty110 := tyOk_of Try.type110 Try.underlying110 (by kernel_rfl)
theorem tyOk112 : TyOk Try.prog 112 ty112 := tyOk_of Try.type112 Try.underlying112 (by kernel_rfl)
theorem tyOk114 : TyOk Try.prog 114 ty114 := tyOk_of Try.type114 Try.underlying114 (by kernel_rfl)
theorem tyOk116 : TyOk Try.prog 116 ty116 := tyOk_of Try.type116 Try.underlying116 (by kernel_rfl)
theorem tyOk130 : TyOk Try.prog 130 ty130 := tyOk_of Try.type130 Try.underlying130 (by kernel_rfl)
theorem tyOk132 : TyOk Try.prog 132 ty132 := tyOk_of Try.type132 Try.underlying132 (by kernel_rfl)
theorem tyOk136 : TyOk Try.prog 136 ty136 := tyOk_of Try.type136 Try.underlying136 (by kernel_rfl)
theorem tyOk142 : TyOk Try.prog 142 ty142 := tyOk_of Try.type142 Try.underlying142 (by kernel_rfl)
theorem tyOk146 : TyOk Try.prog 146 ty146 := tyOk_of Try.type146 Try.underlying146 (by kernel_rfl)
theorem tyOk159 : TyOk Try.prog 159 ty159 := tyOk_of Try.type159 Try.underlying159 (by kernel_rfl)
theorem tyOk160 : TyOk Try.prog 160 ty160 := tyOk_of Try.type160 Try.underlying160 (by kernel_rfl)
theorem tyOk162 : TyOk Try.prog 162 ty162 := tyOk_of Try.type162 Try.underlying162 (by kernel_rfl)
theorem tyOk172 : TyOk Try.prog 172 ty172 := tyOk_of Try.type172 Try.underlying172 (by kernel_rfl)
theorem tyOk180 : TyOk Try.prog 180 ty180 := tyOk_of Try.type180 Try.underlying180 (by kernel_rfl)
theorem tyOk190 : TyOk Try.prog 190 ty190 := tyOk_of Try.type190 Try.underlying190 (by kernel_rfl)
theorem tyOk192 : TyOk Try.prog 192 ty192 := tyOk_of Try.type192 Try.underlying192 (by kernel_rfl)
theorem tyOk199 : TyOk Try.prog 199 ty199 := tyOk_of Try.type199 Try.underlying199 (by kernel_rfl)
theorem tyOk201 : TyOk Try.prog 201 ty201 := tyOk_of Try.type201 Try.underlying201 (by kernel_rfl)
theorem tyOk210 : TyOk Try.prog 210 ty210 := tyOk_of Try.type210 Try.underlying210 (by kernel_rfl)
theorem tyOk216 : TyOk Try.prog 216 ty216 := tyOk_of Try.type216 Try.underlying216 (by kernel_rfl)
theorem tyOk221 : TyOk Try.prog 221 ty221 := tyOk_of Try.type221 Try.underlying221 (by kernel_rfl)
theorem tyOk225 : TyOk Try.prog 225 ty225 := tyOk_of Try.type225 Try.underlying225 (by kernel_rfl)
theorem tyOk226 : TyOk Try.prog 226 ty226 := tyOk_of Try.type226 Try.underlying226 (by kernel_rfl)
theorem tyOk233 : TyOk Try.prog 233 ty233 := tyOk_of Try.type233 Try.underlying233 (by kernel_rfl)
theorem tyOk234 : TyOk Try.prog 234 ty234 := tyOk_of Try.type234 Try.underlying234 (by kernel_rfl)
theorem tyOk235 : TyOk Try.prog 235 ty235 := tyOk_of Try.type235 Try.underlying235 (by kernel_rfl)
theorem tyOk248 : TyOk Try.prog 248 ty248 := tyOk_of Try.type248 Try.underlying248 (by kernel_rfl)
theorem tyOk260 : TyOk Try.prog 260 ty260 := tyOk_of Try.type260 Try.underlying260 (by kernel_rfl)
theorem tyOk262 : TyOk Try.prog 262 ty262 := tyOk_of Try.type262 Try.underlying262 (by kernel_rfl)
theorem tyOk269 : TyOk Try.prog 269 ty269 := tyOk_of Try.type269 Try.underlying269 (by kernel_rfl)
theorem tyOk275 : TyOk Try.prog 275 ty275 := tyOk_of Try.type275 Try.underlying275 (by kernel_rfl)
theorem tyOk280 : TyOk Try.prog 280 ty280 := tyOk_of Try.type280 Try.underlying280 (by kernel_rfl)
theorem tyOk286 : TyOk Try.prog 286 ty286 := tyOk_of Try.type286 Try.underlying286 (by kernel_rfl)
theorem tyOk287 : TyOk Try.prog 287 ty287 := tyOk_of Try.type287 Try.underlying287 (by kernel_rfl)
theorem tyOk290 : TyOk Try.prog 290 ty290 := tyOk_of Try.type290 Try.underlying290 (by kernel_rfl)
theorem fnOk3 : fnCheck Try.f3 = true := by kernel_rfl
theorem fnOk4 : fnCheck Try.f4 = true := by kernel_rfl
theorem fnOk5 : fnCheck Try.f5 = true := by kernel_rfl
theorem fnOk6 : fnCheck Try.f6 = true := by kernel_rfl
theorem fnOk7 : fnCheck Try.f7 = true := by kernel_rfl
theorem fnOk8 : fnCheck Try.f8 = true := by kernel_rfl
theorem fnOk9 : fnCheck Try.f9 = true := by kernel_rfl
theorem fnOk10 : fnCheck Try.f10 = true := by kernel_rfl
theorem fnOk11 : fnCheck Try.f11 = true := by kernel_rfl
theorem fnOk12 : fnCheck Try.f12 = true := by kernel_rfl
theorem fnOk13 : fnCheck Try.f13 = true := by kernel_rfl
theorem fnOk14 : fnCheck Try.f14 = true := by kernel_rfl
theorem fnOk15 : fnCheck Try.f15 = true := by kernel_rfl
theorem fnOk16 : fnCheck Try.f16 = true := by kernel_rfl
theorem fnOk17 : fnCheck Try.f17 = true := by kernel_rfl
theorem fnOk18 : fnCheck Try.f18 = true := by kernel_rfl
theorem fnOk19 : fnCheck Try.f19 = true := by kernel_rfl
theorem fnOk20 : fnCheck Try.f20 = true := by kernel_rfl
theorem fnOk21 : fnCheck Try.f21 = true := by kernel_rfl
theorem fnOk22 : fnCheck Try.f22 = true := by kernel_rfl
theorem fnOk23 : fnCheck Try.f23 = true := by kernel_rfl
theorem fnOk24 : fnCheck Try.f24 = true := by kernel_rfl
theorem fnOk25 : fnCheck Try.f25 = true := by kernel_rfl
theorem fnOk26 : fnCheck Try.f26 = true := by kernel_rfl
theorem fnOk27 : fnCheck Try.f27 = true := by kernel_rfl
theorem fnOk28 : fnCheck Try.f28 = true := by kernel_rfl
theorem fnOk29 : fnCheck Try.f29 = true := by kernel_rfl
theorem fnOk30 : fnCheck Try.f30 = true := by kernel_rfl
theorem fnOk31 : fnCheck Try.f31 = true := by kernel_rfl
theorem fnOk32 : fnCheck Try.f32 = true := by kernel_rfl
theorem fnOk33 : fnCheck Try.f33 = true := by kernel_rfl
theorem fnOk34 : fnCheck Try.f34 = true := by kernel_rfl
theorem fnOk35 : fnCheck Try.f35 = true := by kernel_rfl
theorem fnOk36 : fnCheck Try.f36 = true := by kernel_rfl
theorem fnOk37 : fnCheck Try.f37 = true := by kernel_rfl
theorem fnOk38 : fnCheck Try.f38 = true := by kernel_rfl
theorem fnOk39 : fnCheck Try.f39 = true := by kernel_rfl
theorem fnOk40 : fnCheck Try.f40 = true := by kernel_rfl
theorem fnOk41 : fnCheck Try.f41 = true := by kernel_rfl
theorem fnOk42 : fnCheck Try.f42 = true := by kernel_rfl
theorem fnOk43 : fnCheck Try.f43 = true := by kernel_rfl
theorem fnOk44 : fnCheck Try.f44 = true := by kernel_rfl
theorem fnOk45 : fnCheck Try.f45 = true := by kernel_rfl
theorem fnOk46 : fnCheck Try.f46 = true := by kernel_rfl
theorem fnOk47 : fnCheck Try.f47 = true := by kernel_rfl
theorem fnOk48 : fnCheck Try.f48 = true := by kernel_rfl
theorem fnOk49 : fnCheck Try.f49 = true := by kernel_rfl
theorem fnOk50 : fnCheck Try.f50 = true := by kernel_rfl
theorem fnOk51 : fnCheck Try.f51 = true := by kernel_rfl
theorem fnOk52 : fnCheck Try.f52 = true := by kernel_rfl
theorem fnOk53 : fnCheck Try.f53 = true := by kernel_rfl
theorem fnOk54 : fnCheck Try.f54 = true := by kernel_rfl
theorem fnOk55 : fnCheck Try.f55 = true := by kernel_rfl
theorem fnOk56 : fnCheck Try.f56 = true := by kernel_rfl
theorem fnOk57 : fnCheck Try.f57 = true := by kernel_rfl
theorem fnOk58 : fnCheck Try.f58 = true := by kernel_rfl
theorem fnOk59 : fnCheck Try.f59 = true := by kernel_rfl
theorem fnOk60 : fnCheck Try.f60 = true := by kernel_rfl
theorem fnOk61 : fnCheck Try.f61 = true := by kernel_rfl
theorem fnOk62 : fnCheck Try.f62 = true := by kernel_rfl
theorem fnOk63 : fnCheck Try.f63 = true := by kernel_rfl
theorem fnOk64 : fnCheck Try.f64 = true := by kernel_rfl
theorem fnOk65 : fnCheck Try.f65 = true := by kernel_rfl
theorem fnOk66 : fnCheck Try.f66 = true := by kernel_rfl
theorem fnOk67 : fnCheck Try.f67 = true := by kernel_rfl
theorem fnOk68 : fnCheck Try.f68 = true := by kernel_rfl
theorem fnOk69 : fnCheck Try.f69 = true := by kernel_rfl
theorem fnOk70 : fnCheck Try.f70 = true := by kernel_rfl
theorem fnOk71 : fnCheck Try.f71 = true := by kernel_rfl
theorem fnOk72 : fnCheck Try.f72 = true := by kernel_rfl
theorem fnOk73 : fnCheck Try.f73 = true := by kernel_rfl
theorem fnOk74 : fnCheck Try.f74 = true := by kernel_rfl
theorem fnOk75 : fnCheck Try.f75 = true := by kernel_rfl
theorem fnOk76 : fnCheck Try.f76 = true := by kernel_rfl
theorem fnOk77 : fnCheck Try.f77 = true := by kernel_rfl
theorem fnOk78 : fnCheck Try.f78 = true := by kernel_rfl
theorem fnOk79 : fnCheck Try.f79 = true := by kernel_rfl
theorem fnOk80 : fnCheck Try.f80 = true := by kernel_rfl
theorem fnOk81 : fnCheck Try.f81 = true := by kernel_rfl
theorem fnOk82 : fnCheck Try.f82 = true := by kernel_rfl
theorem fnOk83 : fnCheck Try.f83 = true := by kernel_rfl
theorem fnOk84 : fnCheck Try.f84 = true := by kernel_rfl
theorem fnOk85 : fnCheck Try.f85 = true := by kernel_rfl
theorem fnOk86 : fnCheck Try.f86 = true := by kernel_rfl
theorem fnOk87 : fnCheck Try.f87 = true := by kernel_rfl
theorem fnOk88 : fnCheck Try.f88 = true := by kernel_rfl
theorem fnOk89 : fnCheck Try.f89 = true := by kernel_rfl
theorem fnOk90 : fnCheck Try.f90 = true := by kernel_rfl
theorem fnOk91 : fnCheck Try.f91 = true := by kernel_rfl
theorem fnOk92 : fnCheck Try.f92 = true := by kernel_rfl
theorem fnOk93 : fnCheck Try.f93 = true := by kernel_rfl
theorem fnOk94 : fnCheck Try.f94 = true := by kernel_rfl
theorem fnOk95 : fnCheck Try.f95 = true := by kernel_rfl
theorem fnOk96 : fnCheck Try.f96 = true := by kernel_rfl
theorem fnOk97 : fnCheck Try.f97 = true := by kernel_rfl
theorem fnOk98 : fnCheck Try.f98 = true := by kernel_rfl
theorem fnOk99 : fnCheck Try.f99 = true := by kernel_rfl
theorem fnOk100 : fnCheck Try.f100 = true := by kernel_rfl
theorem fnOk101 : fnCheck Try.f101 = true := by kernel_rfl
theorem fnOk102 : fnCheck Try.f102 = true := by kernel_rfl
theorem fnOk103 : fnCheck Try.f103 = true := by kernel_rfl
theorem fnOk104 : fnCheck Try.f104 = true := by kernel_rfl
theorem fnOk105 : fnCheck Try.f105 = true := by kernel_rfl
theorem fnOk106 : fnCheck Try.f106 = true := by kernel_rfl
theorem fnOk107 : fnCheck Try.f107 = true := by kernel_rfl
theorem fnOk108 : fnCheck Try.f108 = true := by kernel_rfl
theorem fnOk109 : fnCheck Try.f109 = true := by kernel_rfl
theorem fnOk110 : fnCheck Try.f110 = true := by kernel_rfl
theorem fnOk111 : fnCheck Try.f111 = true := by kernel_rfl
theorem fnOk112 : fnCheck Try.f112 = true := by kernel_rfl
theorem fnOk113 : fnCheck Try.f113 = true := by kernel_rfl
theorem fnOk114 : fnCheck Try.f114 = true := by kernel_rfl
theorem fnOk115 : fnCheck Try.f115 = true := by kernel_rfl
theorem fnOk116 : fnCheck Try.f116 = true := by kernel_rfl
theorem fnOk117 : fnCheck Try.f117 = true := by kernel_rfl
theorem fnOk118 : fnCheck Try.f118 = true := by kernel_rfl
theorem fnOk119 : fnCheck Try.f119 = true := by kernel_rfl
theorem fnOk120 : fnCheck Try.f120 = true := by kernel_rfl
theorem fnOk121 : fnCheck Try.f121 = true := by kernel_rfl
theorem fnOk122 : fnCheck Try.f122 = true := by kernel_rfl
theorem fnOk123 : fnCheck Try.f123 = true := by kernel_rfl
theorem fnOk124 : fnCheck Try.f124 = true := by kernel_rfl
theorem fnOk125 : fnCheck Try.f125 = true := by kernel_rfl
theorem fnOk126 : fnCheck Try.f126 = true := by kernel_rfl
theorem fnOk127 : fnCheck Try.f127 = true := by kernel_rfl
theorem fnOk128 : fnCheck Try.f128 = true := by kernel_rfl
theorem fnOk129 : fnCheck Try.f129 = true := by kernel_rfl
theorem fnOk130 : fnCheck Try.f130 = true := by kernel_rfl
theorem fnOk131 : fnCheck Try.f131 = true := by kernel_rfl
theorem fnOk132 : fnCheck Try.f132 = true := by kernel_rfl
theorem fnOk133 : fnCheck Try.f133 = true := by kernel_rfl
theorem fnOk134 : fnCheck Try.f134 = true := by kernel_rfl
theorem fnOk135 : fnCheck Try.f135 = true := by kernel_rfl
theorem fnOk136 : fnCheck Try.f136 = true := by kernel_rfl
theorem fnOk137 : fnCheck Try.f137 = true := by kernel_rfl
theorem fnOk138 : fnCheck Try.f138 = true := by kernel_rfl
theorem fnOk139 : fnCheck Try.f139 = true := by kernel_rfl
theorem fnOk140 : fnCheck Try.f140 = true := by kernel_rfl
theorem fnOk141 : fnCheck Try.f141 = true := by kernel_rfl
theorem fnOk142 : fnCheck Try.f142 = true := by kernel_rfl
theorem fnOk143 : fnCheck Try.f143 = true := by kernel_rfl
theorem fnOk144 : fnCheck Try.f144 = true := by kernel_rfl
theorem fnOk145 : fnCheck Try.f145 = true := by kernel_rfl
theorem fnOk146 : fnCheck Try.f146 = true := by kernel_rfl
theorem fnOk147 : fnCheck Try.f147 = true := by kernel_rfl
theorem fnOk148 : fnCheck Try.f148 = true := by kernel_rfl
theorem fnOk149 : fnCheck Try.f149 = true := by kernel_rfl
theorem fnOk150 : fnCheck Try.f150 = true := by kernel_rfl
theorem fnOk151 : fnCheck Try.f151 = true := by kernel_rfl
theorem fnOk152 : fnCheck Try.f152 = true := by kernel_rfl
theorem fnOk153 : fnCheck Try.f153 = true := by kernel_rfl
theorem fnOk154 : fnCheck Try.f154 = true := by kernel_rfl
theorem fnOk155 : fnCheck Try.f155 = true := by kernel_rfl
theorem fnOk156 : fnCheck Try.f156 = true := by kernel_rfl
theorem fnOk157 : fnCheck Try.f157 = true := by kernel_rfl
theorem fnOk158 : fnCheck Try.f158 = true := by kernel_rfl
theorem fnOk159 : fnCheck Try.f159 = true := by kernel_rfl
theorem fnOk160 : fnCheck Try.f160 = true := by kernel_rfl
theorem fnOk161 : fnCheck Try.f161 = true := by kernel_rfl
theorem fnOk162 : fnCheck Try.f162 = true := by kernel_rfl
theorem fnOk163 : fnCheck Try.f163 = true := by kernel_rfl
theorem fnOk164 : fnCheck Try.f164 = true := by kernel_rfl
theorem fnOk165 : fnCheck Try.f165 = true := by kernel_rfl
theorem fnOk166 : fnCheck Try.f166 = true := by kernel_rfl
theorem fnOk167 : fnCheck Try.f167 = true := by kernel_rfl
theorem fnOk168 : fnCheck Try.f168 = true := by kernel_rfl
theorem fnOk169 : fnCheck Try.f169 = true := by kernel_rfl
theorem fnOk170 : fnCheck Try.f170 = true := by kernel_rfl
theorem fnOk171 : fnCheck Try.f171 = true := by kernel_rfl
theorem fnOk172 : fnCheck Try.f172 = true := by kernel_rfl
theorem fnOk173 : fnCheck Try.f173 = true := by kernel_rfl
theorem fnOk174 : fnCheck Try.f174 = true := by kernel_rfl
theorem fnOk175 : fnCheck Try.f175 = true := by kernel_rfl
theorem fnOk176 : fnCheck Try.f176 = true := by kernel_rfl
theorem fnOk177 : fnCheck Try.f177 = true := by kernel_rfl
theorem fnOk178 : fnCheck Try.f178 = true := by kernel_rfl
theorem fnOk179 : fnCheck Try.f179 = true := by kernel_rfl
theorem fnOk180 : fnCheck Try.f180 = true := by kernel_rfl
theorem fnOk181 : fnCheck Try.f181 = true := by kernel_rfl
theorem fnOk182 : fnCheck Try.f182 = true := by kernel_rfl
theorem fnOk183 : fnCheck Try.f183 = true := by kernel_rfl
theorem fnOk184 : fnCheck Try.f184 = true := by kernel_rfl
theorem fnOk185 : fnCheck Try.f185 = true := by kernel_rfl
theorem fnOk186 : fnCheck Try.f186 = true := by kernel_rfl
theorem fnOk187 : fnCheck Try.f187 = true := by kernel_rfl
theorem fnOk188 : fnCheck Try.f188 = true := by kernel_rfl
theorem fnOk189 : fnCheck Try.f189 = true := by kernel_rfl
theorem fnOk190 : fnCheck Try.f190 = true := by kernel_rfl
theorem fnOk191 : fnCheck Try.f191 = true := by kernel_rfl
theorem fnOk192 : fnCheck Try.f192 = true := by kernel_rfl
theorem fnOk193 : fnCheck Try.f193 = true := by kernel_rfl
theorem fnOk194 : fnCheck Try.f194 = true := by kernel_rfl
theorem fnOk195 : fnCheck Try.f195 = true := by kernel_rfl
theorem fnOk196 : fnCheck Try.f196 = true := by kernel_rfl
theorem fnOk197 : fnCheck Try.f197 = true := by kernel_rfl
theorem fnOk198 : fnCheck Try.f198 = true := by kernel_rfl
theorem fnOk199 : fnCheck Try.f199 = true := by kernel_rfl
theorem fnOk200 : fnCheck Try.f200 = true := by kernel_rfl
theorem fnOk201 : fnCheck Try.f201 = true := by kernel_rfl
theorem fnOk202 : fnCheck Try.f202 = true := by kernel_rfl
theorem fnOk203 : fnCheck Try.f203 = true := by kernel_rfl
theorem fnOk204 : fnCheck Try.f204 = true := by kernel_rfl
theorem fnOk205 : fnCheck Try.f205 = true := by kernel_rfl
theorem fnOk206 : fnCheck Try.f206 = true := by kernel_rfl
theorem fnOk207 : fnCheck Try.f207 = true := by kernel_rfl
theorem fnOk208 : fnCheck Try.f208 = true := by kernel_rfl
theorem fnOk209 : fnCheck Try.f209 = true := by kernel_rfl
theorem fnOk210 : fnCheck Try.f210 = true := by kernel_rfl
theorem fnOk211 : fnCheck Try.f211 = true := by kernel_rfl
theorem fnOk212 : fnCheck Try.f212 = true := by kernel_rfl
theorem fnOk213 : fnCheck Try.f213 = true := by kernel_rfl
theorem fnOk214 : fnCheck Try.f214 = true := by kernel_rfl
theorem fnOk215 : fnCheck Try.f215 = true := by kernel_rfl
theorem fnOk216 : fnCheck Try.f216 = true := by kernel_rfl
theorem fnOk217 : fnCheck Try.f217 = true := by kernel_rfl
theorem fnOk218 : fnCheck Try.f218 = true := by kernel_rfl
theorem fnOk219 : fnCheck Try.f219 = true := by kernel_rfl
theorem tyAll : tyTab.All fun t ti => TyOk Try.prog t ti := ⟨tyOk132, ⟨tyOk75, ⟨tyOk28, ⟨tyOk9, ⟨tyOk4, ⟨tyOk3, trivial, trivial⟩, ⟨tyOk5, trivial, trivial⟩⟩, ⟨tyOk24, ⟨tyOk22, trivial, trivial⟩, ⟨tyOk26, trivial, trivial⟩⟩⟩, ⟨tyOk52, ⟨tyOk38, ⟨tyOk34, trivial, trivial⟩, ⟨tyOk42, trivial, trivial⟩⟩, ⟨tyOk57, ⟨tyOk53, trivial, trivial⟩, ⟨tyOk73, trivial, trivial⟩⟩⟩⟩, ⟨tyOk107, ⟨tyOk84, ⟨tyOk81, ⟨tyOk79, trivial, trivial⟩, ⟨tyOk82, trivial, trivial⟩⟩, ⟨tyOk91, ⟨tyOk86, trivial, trivial⟩, ⟨tyOk98, trivial, trivial⟩⟩⟩, ⟨tyOk114, ⟨tyOk110, ⟨tyOk109, trivial, trivial⟩, ⟨tyOk112, trivial, trivial⟩⟩, ⟨tyOk130, ⟨tyOk116, trivial, trivial⟩, trivial⟩⟩⟩⟩, ⟨tyOk221, ⟨tyOk180, ⟨tyOk159, ⟨tyOk142, ⟨tyOk136, trivial, trivial⟩, ⟨tyOk146, trivial, trivial⟩⟩, ⟨tyOk162, ⟨tyOk160, trivial, trivial⟩, ⟨tyOk172, trivial, trivial⟩⟩⟩, ⟨tyOk201, ⟨tyOk192, ⟨tyOk190, trivial, trivial⟩, ⟨tyOk199, trivial, trivial⟩⟩, ⟨tyOk216, ⟨tyOk210, trivial, trivial⟩, trivial⟩⟩⟩, ⟨tyOk262, ⟨tyOk234, ⟨tyOk226, ⟨tyOk225, trivial, trivial⟩, ⟨tyOk233, trivial, trivial⟩⟩, ⟨tyOk248, ⟨tyOk235, trivial, trivial⟩, ⟨tyOk260, trivial, trivial⟩⟩⟩, ⟨tyOk286, ⟨tyOk275, ⟨tyOk269, trivial, trivial⟩, ⟨tyOk280, trivial, trivial⟩⟩, ⟨tyOk290, ⟨tyOk287, trivial, trivial⟩, trivial⟩⟩⟩⟩⟩
theorem fnAll : fnTab.All fun f fn => Try.prog.funcs[f]? = some fn ∧ fnCheck fn = true := ⟨⟨Try.func111, fnOk111⟩, ⟨⟨Try.func57, fnOk57⟩, ⟨⟨Try.func30, fnOk30⟩, ⟨⟨Try.func16, fnOk16⟩, ⟨⟨Try.func9, fnOk9⟩, ⟨⟨Try.func6, fnOk6⟩, ⟨⟨Try.func4, fnOk4⟩, ⟨⟨Try.func3, fnOk3⟩, trivial, trivial⟩, ⟨⟨Try.func5, fnOk5⟩, trivial, trivial⟩⟩, ⟨⟨Try.func8, fnOk8⟩, ⟨⟨Try.func7, fnOk7⟩, trivial, trivial⟩, trivial⟩⟩, ⟨⟨Try.func13, fnOk13⟩, ⟨⟨Try.func11, fnOk11⟩, ⟨⟨Try.func10, fnOk10⟩, trivial, trivial⟩, ⟨⟨Try.func12, fnOk12⟩, trivial, trivial⟩⟩, ⟨⟨Try.func15, fnOk15⟩, ⟨⟨Try.func14, fnOk14⟩, trivial, trivial⟩, trivial⟩⟩⟩, ⟨⟨Try.func23, fnOk23⟩, ⟨⟨Try.func20, fnOk20⟩, ⟨⟨Try.func18, fnOk18⟩, ⟨⟨Try.func17, fnOk17⟩, trivial, trivial⟩, ⟨⟨Try.func19, fnOk19⟩, trivial, trivial⟩⟩, ⟨⟨Try.func22, fnOk22⟩, ⟨⟨Try.func21, fnOk21⟩, trivial, trivial⟩, trivial⟩⟩, ⟨⟨Try.func27, fnOk27⟩, ⟨⟨Try.func25, fnOk25⟩, ⟨⟨Try.func24, fnOk24⟩, trivial, trivial⟩, ⟨⟨Try.func26, fnOk26⟩, trivial, trivial⟩⟩, ⟨⟨Try.func29, fnOk29⟩, ⟨⟨Try.func28, fnOk28⟩, trivial, trivial⟩, trivial⟩⟩⟩⟩, ⟨⟨Try.func44, fnOk44⟩, ⟨⟨Try.func37, fnOk37⟩, ⟨⟨Try.func34, fnOk34⟩, ⟨⟨Try.func32, fnOk32⟩, ⟨⟨Try.func31, fnOk31⟩, trivial, trivial⟩, ⟨⟨Try.func33, fnOk33⟩, trivial, trivial⟩⟩, ⟨⟨Try.func36, fnOk36⟩, ⟨⟨Try.func35, fnOk35⟩, trivial, trivial⟩, trivial⟩⟩, ⟨⟨Try.func41, fnOk41⟩, ⟨⟨Try.func39, fnOk39⟩, ⟨⟨Try.func38, fnOk38⟩, trivial, trivial⟩, ⟨⟨Try.func40, fnOk40⟩, trivial, trivial⟩⟩, ⟨⟨Try.func43, fnOk43⟩, ⟨⟨Try.func42, fnOk42⟩, trivial, trivial⟩, trivial⟩⟩⟩, ⟨⟨Try.func51, fnOk51⟩, ⟨⟨Try.func48, fnOk48⟩, ⟨⟨Try.func46, fnOk46⟩, ⟨⟨Try.func45, fnOk45⟩, trivial, trivial⟩, ⟨⟨Try.func47, fnOk47⟩, trivial, trivial⟩⟩, ⟨⟨Try.func50, fnOk50⟩, ⟨⟨Try.func49, fnOk49⟩, trivial, trivial⟩, trivial⟩⟩, ⟨⟨Try.func54, fnOk54⟩, ⟨⟨Try.func53, fnOk53⟩, ⟨⟨Try.func52, fnOk52⟩, trivial, trivial⟩, trivial⟩, ⟨⟨Try.func56, fnOk56⟩, ⟨⟨Try.func55, fnOk55⟩, trivial, trivial⟩, trivial⟩⟩⟩⟩⟩, ⟨⟨Try.func84, fnOk84⟩, ⟨⟨Try.func71, fnOk71⟩, ⟨⟨Try.func64, fnOk64⟩, ⟨⟨Try.func61, fnOk61⟩, ⟨⟨Try.func59, fnOk59⟩, ⟨⟨Try.func58, fnOk58⟩, trivial, trivial⟩, ⟨⟨Try.func60, fnOk60⟩, trivial, trivial⟩⟩, ⟨⟨Try.func63, fnOk63⟩, ⟨⟨Try.func62, fnOk62⟩, trivial, trivial⟩, trivial⟩⟩, ⟨⟨Try.func68, fnOk68⟩, ⟨⟨Try.func66, fnOk66⟩, ⟨⟨Try.func65, fnOk65⟩, trivial, trivial⟩, ⟨⟨Try.func67, fnOk67⟩, trivial, trivial⟩⟩, ⟨⟨Try.func70, fnOk70⟩, ⟨⟨Try.func69, fnOk69⟩, trivial, trivial⟩, trivial⟩⟩⟩, ⟨⟨Try.func78, fnOk78⟩, ⟨⟨Try.func75, fnOk75⟩, ⟨⟨Try.func73, fnOk73⟩, ⟨⟨Try.func72, fnOk72⟩, trivial, trivial⟩, ⟨⟨Try.func74, fnOk74⟩, trivial, trivial⟩⟩, ⟨⟨Try.func77, fnOk77⟩, ⟨⟨Try.func76, fnOk76⟩, trivial, trivial⟩, trivial⟩⟩, ⟨⟨Try.func81, fnOk81⟩, ⟨⟨Try.func80, fnOk80⟩, ⟨⟨Try.func79, fnOk79⟩, trivial, trivial⟩, trivial⟩, ⟨⟨Try.func83, fnOk83⟩, ⟨⟨Try.func82, fnOk82⟩, trivial, trivial⟩, trivial⟩⟩⟩⟩, ⟨⟨Try.func98, fnOk98⟩, ⟨⟨Try.func91, fnOk91⟩, ⟨⟨Try.func88, fnOk88⟩, ⟨⟨Try.func86, fnOk86⟩, ⟨⟨Try.func85, fnOk85⟩, trivial, trivial⟩, ⟨⟨Try.func87, fnOk87⟩, trivial, trivial⟩⟩, ⟨⟨Try.func90, fnOk90⟩, ⟨⟨Try.func89, fnOk89⟩, trivial, trivial⟩, trivial⟩⟩, ⟨⟨Try.func95, fnOk95⟩, ⟨⟨Try.func93, fnOk93⟩, ⟨⟨Try.func92, fnOk92⟩, trivial, trivial⟩, ⟨⟨Try.func94, fnOk94⟩, trivial, trivial⟩⟩, ⟨⟨Try.func97, fnOk97⟩, ⟨⟨Try.func96, fnOk96⟩, trivial, trivial⟩, trivial⟩⟩⟩, ⟨⟨Try.func105, fnOk105⟩, ⟨⟨Try.func102, fnOk102⟩, ⟨⟨Try.func100, fnOk100⟩, ⟨⟨Try.func99, fnOk99⟩, trivial, trivial⟩, ⟨⟨Try.func101, fnOk101⟩, trivial, trivial⟩⟩, ⟨⟨Try.func104, fnOk104⟩, ⟨⟨Try.func103, fnOk103⟩, trivial, trivial⟩, trivial⟩⟩, ⟨⟨Try.func108, fnOk108⟩, ⟨⟨Try.func107, fnOk107⟩, ⟨⟨Try.func106, fnOk106⟩, trivial, trivial⟩, trivial⟩, ⟨⟨Try.func110, fnOk110⟩, ⟨⟨Try.func109, fnOk109⟩, trivial, trivial⟩, trivial⟩⟩⟩⟩⟩⟩, ⟨⟨Try.func166, fnOk166⟩, ⟨⟨Try.func139, fnOk139⟩, ⟨⟨Try.func125, fnOk125⟩, ⟨⟨Try.func118, fnOk118⟩, ⟨⟨Try.func115, fnOk115⟩, ⟨⟨Try.func113, fnOk113⟩, ⟨⟨Try.func112, fnOk112⟩, trivial, trivial⟩, ⟨⟨Try.func114, fnOk114⟩, trivial, trivial⟩⟩, ⟨⟨Try.func117, fnOk117⟩, ⟨⟨Try.func116, fnOk116⟩, trivial, trivial⟩, trivial⟩⟩, ⟨⟨Try.func122, fnOk122⟩, ⟨⟨Try.func120, fnOk120⟩, ⟨⟨Try.func119, fnOk119⟩, trivial, trivial⟩, ⟨⟨Try.func121, fnOk121⟩, trivial, trivial⟩⟩, ⟨⟨Try.func124, fnOk124⟩, ⟨⟨Try.func123, fnOk123⟩, trivial, trivial⟩, trivial⟩⟩⟩, ⟨⟨Try.func132, fnOk132⟩, ⟨⟨Try.func129, fnOk129⟩, ⟨⟨Try.func127, fnOk127⟩, ⟨⟨Try.func126, fnOk126⟩, trivial, trivial⟩, ⟨⟨Try.func128, fnOk128⟩, trivial, trivial⟩⟩, ⟨⟨Try.func131, fnOk131⟩, ⟨⟨Try.func130, fnOk130⟩, trivial, trivial⟩, trivial⟩⟩, ⟨⟨Try.func136, fnOk136⟩, ⟨⟨Try.func134, fnOk134⟩, ⟨⟨Try.func133, fnOk133⟩, trivial, trivial⟩, ⟨⟨Try.func135, fnOk135⟩, trivial, trivial⟩⟩, ⟨⟨Try.func138, fnOk138⟩, ⟨⟨Try.func137, fnOk137⟩, trivial, trivial⟩, trivial⟩⟩⟩⟩, ⟨⟨Try.func153, fnOk153⟩, ⟨⟨Try.func146, fnOk146⟩, ⟨⟨Try.func143, fnOk143⟩, ⟨⟨Try.func141, fnOk141⟩, ⟨⟨Try.func140, fnOk140⟩, trivial, trivial⟩, ⟨⟨Try.func142, fnOk142⟩, trivial, trivial⟩⟩, ⟨⟨Try.func145, fnOk145⟩, ⟨⟨Try.func144, fnOk144⟩, trivial, trivial⟩, trivial⟩⟩, ⟨⟨Try.func150, fnOk150⟩, ⟨⟨Try.func148, fnOk148⟩, ⟨⟨Try.func147, fnOk147⟩, trivial, trivial⟩, ⟨⟨Try.func149, fnOk149⟩, trivial, trivial⟩⟩, ⟨⟨Try.func152, fnOk152⟩, ⟨⟨Try.func151, fnOk151⟩, trivial, trivial⟩, trivial⟩⟩⟩, ⟨⟨Try.func160, fnOk160⟩, ⟨⟨Try.func157, fnOk157⟩, ⟨⟨Try.func155, fnOk155⟩, ⟨⟨Try.func154, fnOk154⟩, trivial, trivial⟩, ⟨⟨Try.func156, fnOk156⟩, trivial, trivial⟩⟩, ⟨⟨Try.func159, fnOk159⟩, ⟨⟨Try.func158, fnOk158⟩, trivial, trivial⟩, trivial⟩⟩, ⟨⟨Try.func163, fnOk163⟩, ⟨⟨Try.func162, fnOk162⟩, ⟨⟨Try.func161, fnOk161⟩, trivial, trivial⟩, trivial⟩, ⟨⟨Try.func165, fnOk165⟩, ⟨⟨Try.func164, fnOk164⟩, trivial, trivial⟩, trivial⟩⟩⟩⟩⟩, ⟨⟨Try.func193, fnOk193⟩, ⟨⟨Try.func180, fnOk180⟩, ⟨⟨Try.func173, fnOk173⟩, ⟨⟨Try.func170, fnOk170⟩, ⟨⟨Try.func168, fnOk168⟩, ⟨⟨Try.func167, fnOk167⟩, trivial, trivial⟩, ⟨⟨Try.func169, fnOk169⟩, trivial, trivial⟩⟩, ⟨⟨Try.func172, fnOk172⟩, ⟨⟨Try.func171, fnOk171⟩, trivial, trivial⟩, trivial⟩⟩, ⟨⟨Try.func177, fnOk177⟩, ⟨⟨Try.func175, fnOk175⟩, ⟨⟨Try.func174, fnOk174⟩, trivial, trivial⟩, ⟨⟨Try.func176, fnOk176⟩, trivial, trivial⟩⟩, ⟨⟨Try.func179, fnOk179⟩, ⟨⟨Try.func178, fnOk178⟩, trivial, trivial⟩, trivial⟩⟩⟩, ⟨⟨Try.func187, fnOk187⟩, ⟨⟨Try.func184, fnOk184⟩, ⟨⟨Try.func182, fnOk182⟩, ⟨⟨Try.func181, fnOk181⟩, trivial, trivial⟩, ⟨⟨Try.func183, fnOk183⟩, trivial, trivial⟩⟩, ⟨⟨Try.func186, fnOk186⟩, ⟨⟨Try.func185, fnOk185⟩, trivial, trivial⟩, trivial⟩⟩, ⟨⟨Try.func190, fnOk190⟩, ⟨⟨Try.func189, fnOk189⟩, ⟨⟨Try.func188, fnOk188⟩, trivial, trivial⟩, trivial⟩, ⟨⟨Try.func192, fnOk192⟩, ⟨⟨Try.func191, fnOk191⟩, trivial, trivial⟩, trivial⟩⟩⟩⟩, ⟨⟨Try.func207, fnOk207⟩, ⟨⟨Try.func200, fnOk200⟩, ⟨⟨Try.func197, fnOk197⟩, ⟨⟨Try.func195, fnOk195⟩, ⟨⟨Try.func194, fnOk194⟩, trivial, trivial⟩, ⟨⟨Try.func196, fnOk196⟩, trivial, trivial⟩⟩, ⟨⟨Try.func199, fnOk199⟩, ⟨⟨Try.func198, fnOk198⟩, trivial, trivial⟩, trivial⟩⟩, ⟨⟨Try.func204, fnOk204⟩, ⟨⟨Try.func202, fnOk202⟩, ⟨⟨Try.func201, fnOk201⟩, trivial, trivial⟩, ⟨⟨Try.func203, fnOk203⟩, trivial, trivial⟩⟩, ⟨⟨Try.func206, fnOk206⟩, ⟨⟨Try.func205, fnOk205⟩, trivial, trivial⟩, trivial⟩⟩⟩, ⟨⟨Try.func214, fnOk214⟩, ⟨⟨Try.func211, fnOk211⟩, ⟨⟨Try.func209, fnOk209⟩, ⟨⟨Try.func208, fnOk208⟩, trivial, trivial⟩, ⟨⟨Try.func210, fnOk210⟩, trivial, trivial⟩⟩, ⟨⟨Try.func213, fnOk213⟩, ⟨⟨Try.func212, fnOk212⟩, trivial, trivial⟩, trivial⟩⟩, ⟨⟨Try.func217, fnOk217⟩, ⟨⟨Try.func216, fnOk216⟩, ⟨⟨Try.func215, fnOk215⟩, trivial, trivial⟩, trivial⟩, ⟨⟨Try.func219, fnOk219⟩, ⟨⟨Try.func218, fnOk218⟩, trivial, trivial⟩, trivial⟩⟩⟩⟩⟩⟩⟩
theorem eqOk28 : EqOk Try.prog 28 ty28.lk := eqOk_two Try.eqGuardType28 Try.stoodInHeld28 Try.underlying28 (by decide) (by decide) rfl rfl Try.underlying3 Try.underlying3
theorem eqOk38 : EqOk Try.prog 38 ty38.lk := eqOk_two Try.eqGuardType38 Try.stoodInHeld38 Try.underlying38 (by decide) (by decide) rfl rfl Try.underlying3 Try.underlying3
theorem eqOk57 : EqOk Try.prog 57 ty57.lk := eqOk_two Try.eqGuardType57 Try.stoodInHeld57 Try.underlying57 (by decide) (by decide) rfl rfl Try.underlying3 Try.underlying3
theorem eqOk98 : EqOk Try.prog 98 ty98.lk := eqOk_two Try.eqGuardType98 Try.stoodInHeld98 Try.underlying98 (by decide) (by decide) rfl rfl Try.underlying3 Try.underlying3
theorem eqAll (N : Nat) : ∀ t ti, (envF N).eq t = true → (envF N).ty t = some ti → EqOk Try.prog t ti.lk := by
  intro t ti h hti
  have hm : t ∈ [28, 38, 57, 98] := by simpa [envF] using h
  simp only [List.mem_cons, List.not_mem_nil, or_false] at hm
  rcases hm with rfl | rfl | rfl | rfl
  · have q : (envF N).ty 28 = some ty28 := by kernel_rfl
    rw [q] at hti; cases hti; exact eqOk28
  · have q : (envF N).ty 38 = some ty38 := by kernel_rfl
    rw [q] at hti; cases hti; exact eqOk38
  · have q : (envF N).ty 57 = some ty57 := by kernel_rfl
    rw [q] at hti; cases hti; exact eqOk57
  · have q : (envF N).ty 98 = some ty98 := by kernel_rfl
    rw [q] at hti; cases hti; exact eqOk98
theorem progOk (N : Nat) : ProgOk Try.prog (envF N) := progOk_of Try.checked.mixed rfl rfl tyAll fnAll (eqAll N)
end Go.PevTab
