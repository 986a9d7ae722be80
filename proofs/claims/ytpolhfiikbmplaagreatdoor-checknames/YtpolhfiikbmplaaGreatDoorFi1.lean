/-
MADE BY PROGRAM (GenFI.lean): what the functions of the dump name, part 1.
-/
import Derived.Test.YtpolhfiikbmplaaGreatDoorProg
import Derived.Test.YtpolhfiikbmplaaGreatDoorFi
import Derived.KernelRfl
namespace Go.Ev
open Go.Proofs
theorem fi167 : fiOf Tryz.prog Tryz.f167 = ⟨[279, 280], none, [], false, none, false⟩ := by kernel_rfl
theorem fi168 : fiOf Tryz.prog Tryz.f168 = ⟨[128], none, [], false, none, false⟩ := by kernel_rfl
theorem fi169 : fiOf Tryz.prog Tryz.f169 = ⟨[189, 189, 281, 283, 282, 280], none, [], false, none, false⟩ := by kernel_rfl
theorem fi170 : fiOf Tryz.prog Tryz.f170 = ⟨[225, 218, 197, 276, 284, 285], none, [], true, none, false⟩ := by kernel_rfl
theorem fi171 : fiOf Tryz.prog Tryz.f171 = ⟨[284], none, [], false, none, false⟩ := by kernel_rfl
theorem fi172 : fiOf Tryz.prog Tryz.f172 = ⟨[], none, [], true, none, false⟩ := by kernel_rfl
theorem fi173 : fiOf Tryz.prog Tryz.f173 = ⟨[286, 286], none, [], false, none, false⟩ := by kernel_rfl
theorem fi174 : fiOf Tryz.prog Tryz.f174 = ⟨[287, 288], none, [], false, none, false⟩ := by kernel_rfl
theorem fi175 : fiOf Tryz.prog Tryz.f175 = ⟨[289, 289, 289, 290], none, [], false, none, false⟩ := by kernel_rfl
theorem fi176 : fiOf Tryz.prog Tryz.f176 = ⟨[], none, [], false, none, false⟩ := by kernel_rfl
theorem fi177 : fiOf Tryz.prog Tryz.f177 = ⟨[], none, [], true, none, false⟩ := by kernel_rfl
theorem fi178 : fiOf Tryz.prog Tryz.f178 = ⟨[], none, [], true, none, false⟩ := by kernel_rfl
theorem fi179 : fiOf Tryz.prog Tryz.f179 = ⟨[], none, [], true, none, false⟩ := by kernel_rfl
theorem fi180 : fiOf Tryz.prog Tryz.f180 = ⟨[], none, [], false, none, false⟩ := by kernel_rfl
theorem fi181 : fiOf Tryz.prog Tryz.f181 = ⟨[], none, [], false, none, false⟩ := by kernel_rfl
theorem fi182 : fiOf Tryz.prog Tryz.f182 = ⟨[], none, [], false, none, false⟩ := by kernel_rfl
theorem fi183 : fiOf Tryz.prog Tryz.f183 = ⟨[], none, [], false, none, false⟩ := by kernel_rfl
theorem fi184 : fiOf Tryz.prog Tryz.f184 = ⟨[], none, [], false, none, false⟩ := by kernel_rfl
theorem fi185 : fiOf Tryz.prog Tryz.f185 = ⟨[], none, [], false, none, false⟩ := by kernel_rfl
theorem fi186 : fiOf Tryz.prog Tryz.f186 = ⟨[], none, [], false, none, false⟩ := by kernel_rfl
theorem fi187 : fiOf Tryz.prog Tryz.f187 = ⟨[291, 291], none, [], false, none, false⟩ := by kernel_rfl
theorem fi188 : fiOf Tryz.prog Tryz.f188 = ⟨[187, 188], none, [], false, none, false⟩ := by kernel_rfl
theorem fi189 : fiOf Tryz.prog Tryz.f189 = ⟨[292, 292, 281, 293, 294, 295], none, [], false, none, false⟩ := by kernel_rfl
theorem fi190 : fiOf Tryz.prog Tryz.f190 = ⟨[281], none, [], false, none, false⟩ := by kernel_rfl
theorem fi191 : fiOf Tryz.prog Tryz.f191 = ⟨[296, 191], none, [], false, none, false⟩ := by kernel_rfl
theorem fi192 : fiOf Tryz.prog Tryz.f192 = ⟨[99], none, [], false, none, false⟩ := by kernel_rfl
theorem fi193 : fiOf Tryz.prog Tryz.f193 = ⟨[192], none, [], false, none, false⟩ := by kernel_rfl
theorem fi194 : fiOf Tryz.prog Tryz.f194 = ⟨[], none, [], false, none, false⟩ := by kernel_rfl
theorem fi195 : fiOf Tryz.prog Tryz.f195 = ⟨[99, 116, 99, 115], none, [], false, none, false⟩ := by kernel_rfl
theorem fi196 : fiOf Tryz.prog Tryz.f196 = ⟨[297, 196], none, [], false, none, false⟩ := by kernel_rfl
theorem fi197 : fiOf Tryz.prog Tryz.f197 = ⟨[225, 218], none, [], false, none, false⟩ := by kernel_rfl
theorem fi198 : fiOf Tryz.prog Tryz.f198 = ⟨[298, 300, 299], none, [], false, none, false⟩ := by kernel_rfl
theorem fi199 : fiOf Tryz.prog Tryz.f199 = ⟨[111, 30, 302, 111, 303], none, [], false, none, false⟩ := by kernel_rfl
theorem fi200 : fiOf Tryz.prog Tryz.f200 = ⟨[304], none, [], false, none, false⟩ := by kernel_rfl
theorem fi201 : fiOf Tryz.prog Tryz.f201 = ⟨[202], none, [], false, none, false⟩ := by kernel_rfl
theorem fi202 : fiOf Tryz.prog Tryz.f202 = ⟨[101, 305, 116, 306, 306, 307, 186, 186, 308], none, [], false, none, false⟩ := by kernel_rfl
theorem fi203 : fiOf Tryz.prog Tryz.f203 = ⟨[214, 258, 215], none, [], false, none, false⟩ := by kernel_rfl
theorem fi204 : fiOf Tryz.prog Tryz.f204 = ⟨[135], none, [], false, none, false⟩ := by kernel_rfl
theorem fi205 : fiOf Tryz.prog Tryz.f205 = ⟨[309, 310, 250], none, [], false, none, false⟩ := by kernel_rfl
theorem fi206 : fiOf Tryz.prog Tryz.f206 = ⟨[], none, [], false, none, false⟩ := by kernel_rfl
theorem fi207 : fiOf Tryz.prog Tryz.f207 = ⟨[208], none, [], false, none, false⟩ := by kernel_rfl
theorem fi208 : fiOf Tryz.prog Tryz.f208 = ⟨[311, 313, 312], none, [], false, none, false⟩ := by kernel_rfl
theorem fi209 : fiOf Tryz.prog Tryz.f209 = ⟨[315, 314], none, [], false, none, false⟩ := by kernel_rfl
theorem fi210 : fiOf Tryz.prog Tryz.f210 = ⟨[206], none, [], false, none, false⟩ := by kernel_rfl
theorem fi211 : fiOf Tryz.prog Tryz.f211 = ⟨[135, 204], none, [], false, none, false⟩ := by kernel_rfl
theorem fi212 : fiOf Tryz.prog Tryz.f212 = ⟨[208, 256], none, [], false, none, false⟩ := by kernel_rfl
theorem fi213 : fiOf Tryz.prog Tryz.f213 = ⟨[316, 317, 318, 319, 317, 315, 315, 209], none, [], false, none, false⟩ := by kernel_rfl
theorem fi214 : fiOf Tryz.prog Tryz.f214 = ⟨[106, 197, 298, 276], none, [], false, none, false⟩ := by kernel_rfl
theorem fi215 : fiOf Tryz.prog Tryz.f215 = ⟨[], none, [], false, none, false⟩ := by kernel_rfl
theorem fi216 : fiOf Tryz.prog Tryz.f216 = ⟨[309, 310], none, [], false, none, false⟩ := by kernel_rfl
theorem fi217 : fiOf Tryz.prog Tryz.f217 = ⟨[311, 320, 321, 322, 217, 217, 323, 324, 325, 312, 320], none, [], false, none, false⟩ := by kernel_rfl
theorem fi218 : fiOf Tryz.prog Tryz.f218 = ⟨[326, 259], none, [], false, none, false⟩ := by kernel_rfl
theorem fi219 : fiOf Tryz.prog Tryz.f219 = ⟨[327, 317, 209], none, [], false, none, false⟩ := by kernel_rfl
theorem fi220 : fiOf Tryz.prog Tryz.f220 = ⟨[111, 301], none, [], false, none, false⟩ := by kernel_rfl
theorem fi221 : fiOf Tryz.prog Tryz.f221 = ⟨[104], none, [], false, none, false⟩ := by kernel_rfl
theorem fi222 : fiOf Tryz.prog Tryz.f222 = ⟨[255, 255], none, [], false, none, false⟩ := by kernel_rfl
theorem fi223 : fiOf Tryz.prog Tryz.f223 = ⟨[170, 243], none, [], false, none, false⟩ := by kernel_rfl
theorem fi224 : fiOf Tryz.prog Tryz.f224 = ⟨[220, 165, 161, 163, 163, 328], none, [], false, none, false⟩ := by kernel_rfl
theorem fi225 : fiOf Tryz.prog Tryz.f225 = ⟨[329], none, [], false, none, false⟩ := by kernel_rfl
theorem fi226 : fiOf Tryz.prog Tryz.f226 = ⟨[330, 331], none, [], true, none, false⟩ := by kernel_rfl
theorem fi227 : fiOf Tryz.prog Tryz.f227 = ⟨[106, 332], none, [], false, none, false⟩ := by kernel_rfl
theorem fi228 : fiOf Tryz.prog Tryz.f228 = ⟨[228, 333, 334, 335], none, [], false, none, false⟩ := by kernel_rfl
theorem fi229 : fiOf Tryz.prog Tryz.f229 = ⟨[336, 336, 336, 229, 337, 338, 336, 337, 337, 337, 339, 229, 337, 337, 337, 337, 337, 337, 337], none, [], false, none, false⟩ := by kernel_rfl
theorem fi230 : fiOf Tryz.prog Tryz.f230 = ⟨[340, 167, 167, 169, 341, 238], none, [], false, none, false⟩ := by kernel_rfl
theorem fi231 : fiOf Tryz.prog Tryz.f231 = ⟨[170, 232], none, [], false, none, false⟩ := by kernel_rfl
theorem fi232 : fiOf Tryz.prog Tryz.f232 = ⟨[153, 152], none, [], false, none, false⟩ := by kernel_rfl
theorem fi233 : fiOf Tryz.prog Tryz.f233 = ⟨[162, 162], none, [], false, none, false⟩ := by kernel_rfl
theorem fi234 : fiOf Tryz.prog Tryz.f234 = ⟨[234, 342, 342, 337, 337, 337], none, [], false, none, false⟩ := by kernel_rfl
theorem fi235 : fiOf Tryz.prog Tryz.f235 = ⟨[159, 145], none, [], false, none, false⟩ := by kernel_rfl
theorem fi236 : fiOf Tryz.prog Tryz.f236 = ⟨[343, 162], none, [], false, none, false⟩ := by kernel_rfl
theorem fi237 : fiOf Tryz.prog Tryz.f237 = ⟨[344, 344], none, [], false, none, false⟩ := by kernel_rfl
theorem fi238 : fiOf Tryz.prog Tryz.f238 = ⟨[345, 346], none, [], false, none, false⟩ := by kernel_rfl
theorem fi239 : fiOf Tryz.prog Tryz.f239 = ⟨[106, 225, 225, 347, 271, 227], none, [], false, none, false⟩ := by kernel_rfl
theorem fi240 : fiOf Tryz.prog Tryz.f240 = ⟨[160], none, [], false, none, false⟩ := by kernel_rfl
theorem fi241 : fiOf Tryz.prog Tryz.f241 = ⟨[239, 348, 349, 349, 240], none, [], false, none, false⟩ := by kernel_rfl
theorem fi242 : fiOf Tryz.prog Tryz.f242 = ⟨[111, 106, 198], none, [], false, none, false⟩ := by kernel_rfl
theorem fi243 : fiOf Tryz.prog Tryz.f243 = ⟨[245, 350, 245], none, [], false, none, false⟩ := by kernel_rfl
theorem fi244 : fiOf Tryz.prog Tryz.f244 = ⟨[351], none, [], false, none, false⟩ := by kernel_rfl
theorem fi245 : fiOf Tryz.prog Tryz.f245 = ⟨[352, 245], none, [], false, none, false⟩ := by kernel_rfl
theorem fi246 : fiOf Tryz.prog Tryz.f246 = ⟨[106, 226], none, [], false, none, false⟩ := by kernel_rfl
theorem fi247 : fiOf Tryz.prog Tryz.f247 = ⟨[225, 104], none, [], false, none, false⟩ := by kernel_rfl
theorem fi248 : fiOf Tryz.prog Tryz.f248 = ⟨[158], none, [], false, none, false⟩ := by kernel_rfl
theorem fi249 : fiOf Tryz.prog Tryz.f249 = ⟨[225, 353, 106, 354, 353], none, [], false, none, false⟩ := by kernel_rfl
theorem fi250 : fiOf Tryz.prog Tryz.f250 = ⟨[317], none, [], false, none, false⟩ := by kernel_rfl
theorem fi251 : fiOf Tryz.prog Tryz.f251 = ⟨[355], none, [], true, none, false⟩ := by kernel_rfl
theorem fi252 : fiOf Tryz.prog Tryz.f252 = ⟨[253, 254], none, [], false, none, false⟩ := by kernel_rfl
theorem fi253 : fiOf Tryz.prog Tryz.f253 = ⟨[263, 263, 270], none, [], false, none, false⟩ := by kernel_rfl
theorem fi254 : fiOf Tryz.prog Tryz.f254 = ⟨[190, 190], none, [], false, none, false⟩ := by kernel_rfl
theorem fi255 : fiOf Tryz.prog Tryz.f255 = ⟨[189, 189, 270], none, [], false, none, false⟩ := by kernel_rfl
theorem fi256 : fiOf Tryz.prog Tryz.f256 = ⟨[356, 356], none, [], false, none, false⟩ := by kernel_rfl
theorem fi257 : fiOf Tryz.prog Tryz.f257 = ⟨[315, 357, 358], none, [], false, none, false⟩ := by kernel_rfl
theorem fi258 : fiOf Tryz.prog Tryz.f258 = ⟨[246], none, [], false, none, false⟩ := by kernel_rfl
theorem fi259 : fiOf Tryz.prog Tryz.f259 = ⟨[359], none, [], true, none, false⟩ := by kernel_rfl
theorem fi260 : fiOf Tryz.prog Tryz.f260 = ⟨[253, 263, 262, 261], none, [], false, none, false⟩ := by kernel_rfl
theorem fi261 : fiOf Tryz.prog Tryz.f261 = ⟨[360, 361, 270], none, [], false, none, false⟩ := by kernel_rfl
theorem fi262 : fiOf Tryz.prog Tryz.f262 = ⟨[], none, [], false, none, false⟩ := by kernel_rfl
theorem fi263 : fiOf Tryz.prog Tryz.f263 = ⟨[189, 362], none, [], false, none, false⟩ := by kernel_rfl
theorem fi264 : fiOf Tryz.prog Tryz.f264 = ⟨[106, 363, 280, 364], none, [], false, none, false⟩ := by kernel_rfl
theorem fi265 : fiOf Tryz.prog Tryz.f265 = ⟨[], none, [], true, none, false⟩ := by kernel_rfl
theorem fi266 : fiOf Tryz.prog Tryz.f266 = ⟨[255, 267], none, [], false, none, false⟩ := by kernel_rfl
theorem fi267 : fiOf Tryz.prog Tryz.f267 = ⟨[], none, [], false, none, false⟩ := by kernel_rfl
theorem fi268 : fiOf Tryz.prog Tryz.f268 = ⟨[280, 337], none, [], false, none, false⟩ := by kernel_rfl
theorem fi269 : fiOf Tryz.prog Tryz.f269 = ⟨[253, 253, 270, 270], none, [], false, none, false⟩ := by kernel_rfl
theorem fi270 : fiOf Tryz.prog Tryz.f270 = ⟨[190, 190, 190, 190, 365, 365, 366], none, [], false, none, false⟩ := by kernel_rfl
theorem fi271 : fiOf Tryz.prog Tryz.f271 = ⟨[271], none, [], true, none, false⟩ := by kernel_rfl
theorem fi272 : fiOf Tryz.prog Tryz.f272 = ⟨[], none, [], false, none, false⟩ := by kernel_rfl
theorem fi273 : fiOf Tryz.prog Tryz.f273 = ⟨[367], none, [], false, none, false⟩ := by kernel_rfl
theorem fi274 : fiOf Tryz.prog Tryz.f274 = ⟨[275, 141], none, [], false, none, false⟩ := by kernel_rfl
theorem fi275 : fiOf Tryz.prog Tryz.f275 = ⟨[106, 106, 368], none, [], false, none, false⟩ := by kernel_rfl
theorem fi276 : fiOf Tryz.prog Tryz.f276 = ⟨[370, 369], none, [], false, none, false⟩ := by kernel_rfl
theorem fi277 : fiOf Tryz.prog Tryz.f277 = ⟨[278], none, [], false, none, false⟩ := by kernel_rfl
theorem fi278 : fiOf Tryz.prog Tryz.f278 = ⟨[298, 371], none, [], false, none, false⟩ := by kernel_rfl
theorem fi279 : fiOf Tryz.prog Tryz.f279 = ⟨[293, 293], none, [], false, none, false⟩ := by kernel_rfl
theorem fi280 : fiOf Tryz.prog Tryz.f280 = ⟨[295, 291, 372, 291], none, [], false, none, false⟩ := by kernel_rfl
theorem fi281 : fiOf Tryz.prog Tryz.f281 = ⟨[], none, [], false, none, false⟩ := by kernel_rfl
theorem fi282 : fiOf Tryz.prog Tryz.f282 = ⟨[365, 365, 294], none, [], false, none, false⟩ := by kernel_rfl
theorem fi283 : fiOf Tryz.prog Tryz.f283 = ⟨[], none, [], false, none, false⟩ := by kernel_rfl
theorem fi284 : fiOf Tryz.prog Tryz.f284 = ⟨[373, 374], none, [], false, none, false⟩ := by kernel_rfl
theorem fi285 : fiOf Tryz.prog Tryz.f285 = ⟨[375], none, [], false, none, false⟩ := by kernel_rfl
theorem fi286 : fiOf Tryz.prog Tryz.f286 = ⟨[], none, [], true, none, false⟩ := by kernel_rfl
theorem fi287 : fiOf Tryz.prog Tryz.f287 = ⟨[90], none, [], false, none, false⟩ := by kernel_rfl
theorem fi288 : fiOf Tryz.prog Tryz.f288 = ⟨[], none, [], false, none, false⟩ := by kernel_rfl
theorem fi289 : fiOf Tryz.prog Tryz.f289 = ⟨[290], none, [], false, none, false⟩ := by kernel_rfl
theorem fi290 : fiOf Tryz.prog Tryz.f290 = ⟨[376, 376, 376], none, [], false, none, false⟩ := by kernel_rfl
theorem fi291 : fiOf Tryz.prog Tryz.f291 = ⟨[], none, [], false, none, false⟩ := by kernel_rfl
theorem fi292 : fiOf Tryz.prog Tryz.f292 = ⟨[], none, [], false, none, false⟩ := by kernel_rfl
theorem fi293 : fiOf Tryz.prog Tryz.f293 = ⟨[292], none, [], false, none, false⟩ := by kernel_rfl
theorem fi294 : fiOf Tryz.prog Tryz.f294 = ⟨[281, 293, 377, 377, 378, 378, 377, 379, 380, 372, 381, 381], none, [], false, none, false⟩ := by kernel_rfl
theorem fi295 : fiOf Tryz.prog Tryz.f295 = ⟨[], none, [], false, none, false⟩ := by kernel_rfl
theorem fi296 : fiOf Tryz.prog Tryz.f296 = ⟨[382, 225, 292, 281, 189, 190], none, [], false, none, false⟩ := by kernel_rfl
theorem fi297 : fiOf Tryz.prog Tryz.f297 = ⟨[383, 384, 108, 195, 385, 192, 386], none, [], false, none, false⟩ := by kernel_rfl
theorem fi298 : fiOf Tryz.prog Tryz.f298 = ⟨[106, 330, 388, 387], none, [], true, none, false⟩ := by kernel_rfl
theorem fi299 : fiOf Tryz.prog Tryz.f299 = ⟨[389], none, [], false, none, false⟩ := by kernel_rfl
theorem fi300 : fiOf Tryz.prog Tryz.f300 = ⟨[301], none, [], false, none, false⟩ := by kernel_rfl
theorem fi301 : fiOf Tryz.prog Tryz.f301 = ⟨[390, 369], none, [], false, none, false⟩ := by kernel_rfl
theorem fi302 : fiOf Tryz.prog Tryz.f302 = ⟨[392, 391], none, [], false, none, false⟩ := by kernel_rfl
theorem fi303 : fiOf Tryz.prog Tryz.f303 = ⟨[393, 41], none, [], true, none, false⟩ := by kernel_rfl
theorem fi304 : fiOf Tryz.prog Tryz.f304 = ⟨[], none, [], false, none, false⟩ := by kernel_rfl
theorem fi305 : fiOf Tryz.prog Tryz.f305 = ⟨[186], none, [], false, none, false⟩ := by kernel_rfl
theorem fi306 : fiOf Tryz.prog Tryz.f306 = ⟨[186], none, [], false, none, false⟩ := by kernel_rfl
theorem fi307 : fiOf Tryz.prog Tryz.f307 = ⟨[394], none, [], false, none, false⟩ := by kernel_rfl
theorem fi308 : fiOf Tryz.prog Tryz.f308 = ⟨[186], none, [], false, none, false⟩ := by kernel_rfl
theorem fi309 : fiOf Tryz.prog Tryz.f309 = ⟨[285, 395], none, [], true, none, false⟩ := by kernel_rfl
theorem fi310 : fiOf Tryz.prog Tryz.f310 = ⟨[285, 396], none, [], true, none, false⟩ := by kernel_rfl
theorem fi311 : fiOf Tryz.prog Tryz.f311 = ⟨[397, 165, 327, 398, 171], none, [], false, none, false⟩ := by kernel_rfl
theorem fi312 : fiOf Tryz.prog Tryz.f312 = ⟨[399, 400, 401, 402, 403, 404, 358, 315, 357, 318, 405, 406], none, [], true, none, false⟩ := by kernel_rfl
theorem fi313 : fiOf Tryz.prog Tryz.f313 = ⟨[208], none, [], false, none, false⟩ := by kernel_rfl
theorem fi314 : fiOf Tryz.prog Tryz.f314 = ⟨[404], none, [], false, none, false⟩ := by kernel_rfl
theorem fi315 : fiOf Tryz.prog Tryz.f315 = ⟨[407, 408], none, [], false, none, false⟩ := by kernel_rfl
theorem fi316 : fiOf Tryz.prog Tryz.f316 = ⟨[167, 167, 169], none, [], false, none, false⟩ := by kernel_rfl
theorem fi317 : fiOf Tryz.prog Tryz.f317 = ⟨[171], none, [], false, none, false⟩ := by kernel_rfl
theorem fi318 : fiOf Tryz.prog Tryz.f318 = ⟨[409, 373], none, [], false, none, false⟩ := by kernel_rfl
theorem fi319 : fiOf Tryz.prog Tryz.f319 = ⟨[167], none, [], false, none, false⟩ := by kernel_rfl
theorem fi320 : fiOf Tryz.prog Tryz.f320 = ⟨[167], none, [], false, none, false⟩ := by kernel_rfl
theorem fi321 : fiOf Tryz.prog Tryz.f321 = ⟨[276, 397, 320, 319], none, [], false, none, false⟩ := by kernel_rfl
theorem fi322 : fiOf Tryz.prog Tryz.f322 = ⟨[217, 400, 415], none, [], false, none, false⟩ := by kernel_rfl
theorem fi323 : fiOf Tryz.prog Tryz.f323 = ⟨[416, 416, 417, 315, 418, 419], none, [], false, none, false⟩ := by kernel_rfl
theorem fi324 : fiOf Tryz.prog Tryz.f324 = ⟨[404, 238, 358, 340], none, [], true, none, false⟩ := by kernel_rfl
theorem fi325 : fiOf Tryz.prog Tryz.f325 = ⟨[217, 219], none, [], false, none, false⟩ := by kernel_rfl
theorem fi326 : fiOf Tryz.prog Tryz.f326 = ⟨[253], none, [], false, none, false⟩ := by kernel_rfl
theorem fi327 : fiOf Tryz.prog Tryz.f327 = ⟨[420, 373], none, [], false, none, false⟩ := by kernel_rfl
theorem fi328 : fiOf Tryz.prog Tryz.f328 = ⟨[225, 197, 276, 285], none, [], true, none, false⟩ := by kernel_rfl
theorem fi329 : fiOf Tryz.prog Tryz.f329 = ⟨[421, 422], none, [], false, none, false⟩ := by kernel_rfl
theorem fi330 : fiOf Tryz.prog Tryz.f330 = ⟨[423], none, [], false, none, false⟩ := by kernel_rfl
theorem fi331 : fiOf Tryz.prog Tryz.f331 = ⟨[], none, [], false, none, false⟩ := by kernel_rfl
theorem fi332 : fiOf Tryz.prog Tryz.f332 = ⟨[353, 332], none, [], false, none, false⟩ := by kernel_rfl
theorem fi333 : fiOf Tryz.prog Tryz.f333 = ⟨[425, 426, 268], none, [], false, none, false⟩ := by kernel_rfl
end Go.Ev
