/- A part of the proof (an executor, and what it computes). -/
import Derived.Test.YtmnjnpgmenigiaaGreatB2f72d3b635
import Derived.Test.YtmnjnpgmenigiaaGreatB12b445f167
import Derived.Test.YtmnjnpgmenigiaaGreatChecked
set_option linter.all false
/- The executor's code agrees with the program. -/
namespace Go.Ab.S
open Go Go.Ab
def idTry : FuncId → FuncId
  | 3 => 3
  | 4 => 4
  | 5 => 5
  | 6 => 6
  | 7 => 7
  | 8 => 8
  | 9 => 9
  | 10 => 10
  | 11 => 11
  | 12 => 12
  | 13 => 13
  | 14 => 14
  | 15 => 15
  | 16 => 16
  | 17 => 17
  | 18 => 18
  | 19 => 19
  | 20 => 20
  | 21 => 21
  | 22 => 22
  | 23 => 23
  | 24 => 24
  | 25 => 25
  | 26 => 26
  | 27 => 27
  | 28 => 28
  | 29 => 29
  | 30 => 30
  | 31 => 31
  | 32 => 32
  | 33 => 33
  | 34 => 34
  | 35 => 35
  | 36 => 36
  | 37 => 37
  | 38 => 38
  | 39 => 39
  | 40 => 40
  | 41 => 41
  | 42 => 42
  | 43 => 43
  | 44 => 44
  | 45 => 45
  | 46 => 46
  | 47 => 47
  | 48 => 48
  | 49 => 49
  | 50 => 50
  | 51 => 51
  | 52 => 52
  | 53 => 53
  | 54 => 54
  | 55 => 55
  | 56 => 56
  | 57 => 57
  | 58 => 58
  | 59 => 59
  | 60 => 60
  | 61 => 61
  | 62 => 62
  | 63 => 63
  | 64 => 64
  | 65 => 65
  | 66 => 66
  | 67 => 67
  | 68 => 68
  | 69 => 69
  | 70 => 70
  | 71 => 71
  | 72 => 72
  | 73 => 73
  | 74 => 74
  | 75 => 75
  | 76 => 76
  | 77 => 77
  | 78 => 78
  | 79 => 79
  | 80 => 80
  | 81 => 81
  | 82 => 82
  | 83 => 83
  | 84 => 84
  | 85 => 85
  | 86 => 86
  | 87 => 87
  | 88 => 88
  | 89 => 89
  | 90 => 90
  | 91 => 91
  | 92 => 92
  | 93 => 93
  | 94 => 94
  | 95 => 95
  | 96 => 96
  | 97 => 97
  | 98 => 98
  | 99 => 99
  | 100 => 100
  | 101 => 101
  | 102 => 102
  | 103 => 103
  | 104 => 104
  | 105 => 105
  | 106 => 106
  | 107 => 107
  | 108 => 108
  | 109 => 109
  | 110 => 110
  | 111 => 111
  | 112 => 112
  | 113 => 113
  | 114 => 114
  | 115 => 115
  | 116 => 116
  | 117 => 117
  | 118 => 118
  | 119 => 119
  | 120 => 120
  | 121 => 121
  | 122 => 122
  | 123 => 123
  | 124 => 124
  | 125 => 125
  | 126 => 126
  | 127 => 127
  | 128 => 128
  | 129 => 129
  | 130 => 130
  | 131 => 131
  | 132 => 132
  | 133 => 133
  | 134 => 134
  | 135 => 135
  | 136 => 136
  | 137 => 137
  | 138 => 138
  | 139 => 139
  | 140 => 140
  | 141 => 141
  | 142 => 142
  | 143 => 143
  | 144 => 144
  | 145 => 145
  | 146 => 146
  | 147 => 147
  | 148 => 148
  | 149 => 149
  | 150 => 150
  | 151 => 151
  | 152 => 152
  | 153 => 153
  | 154 => 154
  | 155 => 155
  | 156 => 156
  | 157 => 157
  | 158 => 158
  | 159 => 159
  | 160 => 160
  | 161 => 161
  | 162 => 162
  | 163 => 163
  | 164 => 164
  | 165 => 165
  | 166 => 166
  | 167 => 167
  | 168 => 168
  | 169 => 169
  | 170 => 170
  | 171 => 171
  | 172 => 172
  | 173 => 173
  | 174 => 174
  | 175 => 175
  | 176 => 176
  | 177 => 177
  | 178 => 178
  | 179 => 179
  | 180 => 180
  | 181 => 181
  | 182 => 182
  | 183 => 183
  | 184 => 184
  | 185 => 185
  | 186 => 186
  | 187 => 187
  | 188 => 188
  | 189 => 189
  | 190 => 190
  | 191 => 191
  | 192 => 192
  | 193 => 193
  | 194 => 194
  | 195 => 195
  | 196 => 196
  | 197 => 197
  | 198 => 198
  | 199 => 199
  | 200 => 200
  | 201 => 201
  | 202 => 202
  | 203 => 203
  | 204 => 204
  | 205 => 205
  | 206 => 206
  | 207 => 207
  | 208 => 208
  | 209 => 209
  | 210 => 210
  | 211 => 211
  | 212 => 212
  | 213 => 213
  | 214 => 214
  | 215 => 215
  | 216 => 216
  | 217 => 217
  | 218 => 218
  | 219 => 219
  | 220 => 220
  | 221 => 221
  | 222 => 222
  | 223 => 223
  | 224 => 224
  | 225 => 225
  | 226 => 226
  | 227 => 227
  | 228 => 228
  | 229 => 229
  | 230 => 230
  | 231 => 231
  | 232 => 232
  | 233 => 233
  | 234 => 234
  | 235 => 235
  | 236 => 236
  | 237 => 237
  | 238 => 238
  | 239 => 239
  | 240 => 240
  | 241 => 241
  | 242 => 242
  | 243 => 243
  | 244 => 244
  | 245 => 245
  | 246 => 246
  | 247 => 247
  | 248 => 248
  | 249 => 249
  | 250 => 250
  | 251 => 251
  | 252 => 252
  | 253 => 253
  | 254 => 254
  | 255 => 255
  | 256 => 256
  | 257 => 257
  | 258 => 258
  | 259 => 259
  | 260 => 260
  | 261 => 261
  | 262 => 262
  | 263 => 263
  | 264 => 264
  | 265 => 265
  | 266 => 266
  | 267 => 267
  | 268 => 268
  | 269 => 269
  | 270 => 270
  | 271 => 271
  | 272 => 272
  | 273 => 273
  | 274 => 274
  | 275 => 275
  | 276 => 276
  | 277 => 277
  | 278 => 278
  | 279 => 279
  | 280 => 280
  | 281 => 281
  | 282 => 282
  | 283 => 283
  | 284 => 284
  | 285 => 285
  | 286 => 286
  | 287 => 287
  | 288 => 288
  | 289 => 289
  | 290 => 290
  | 291 => 291
  | 338 => 292
  | 293 => 293
  | 294 => 294
  | 295 => 295
  | 296 => 296
  | 297 => 297
  | 298 => 298
  | 299 => 299
  | 300 => 300
  | 301 => 301
  | 302 => 302
  | 303 => 303
  | 304 => 304
  | 305 => 305
  | 306 => 306
  | 307 => 307
  | 308 => 308
  | 309 => 309
  | 310 => 310
  | 311 => 311
  | 312 => 312
  | 313 => 313
  | 314 => 314
  | 315 => 315
  | 316 => 316
  | 317 => 317
  | 318 => 318
  | 319 => 319
  | 320 => 320
  | 321 => 321
  | 322 => 322
  | 323 => 323
  | 324 => 324
  | 325 => 325
  | 326 => 326
  | 327 => 327
  | 328 => 328
  | 329 => 329
  | 330 => 330
  | 331 => 331
  | 332 => 332
  | 333 => 333
  | 334 => 334
  | 335 => 335
  | 336 => 336
  | 337 => 337
  | n => n + 100000
theorem k5 : fnL Go.Proofs.Tryz.prog idTry 5 F5 = true := by decide +kernel
theorem k17 : fnL Go.Proofs.Tryz.prog idTry 17 F17 = true := by decide +kernel
theorem k20 : fnL Go.Proofs.Tryz.prog idTry 20 F20 = true := by decide +kernel
theorem k21 : fnL Go.Proofs.Tryz.prog idTry 21 F21 = true := by decide +kernel
theorem k24 : fnL Go.Proofs.Tryz.prog idTry 24 F24 = true := by decide +kernel
theorem k25 : fnL Go.Proofs.Tryz.prog idTry 25 F25 = true := by decide +kernel
theorem k28 : fnL Go.Proofs.Tryz.prog idTry 28 F28 = true := by decide +kernel
theorem k30 : fnL Go.Proofs.Tryz.prog idTry 30 F30 = true := by decide +kernel
theorem k31 : fnL Go.Proofs.Tryz.prog idTry 31 F31 = true := by decide +kernel
theorem k32 : fnL Go.Proofs.Tryz.prog idTry 32 F32 = true := by decide +kernel
theorem k35 : fnL Go.Proofs.Tryz.prog idTry 35 F35 = true := by decide +kernel
theorem k36 : fnL Go.Proofs.Tryz.prog idTry 36 F36 = true := by decide +kernel
theorem k37 : fnL Go.Proofs.Tryz.prog idTry 37 F37 = true := by decide +kernel
theorem k38 : fnL Go.Proofs.Tryz.prog idTry 38 F38 = true := by decide +kernel
theorem k45 : fnL Go.Proofs.Tryz.prog idTry 45 F45 = true := by decide +kernel
theorem k46 : fnL Go.Proofs.Tryz.prog idTry 46 F46 = true := by decide +kernel
theorem k53 : fnL Go.Proofs.Tryz.prog idTry 53 F53 = true := by decide +kernel
theorem k62 : fnL Go.Proofs.Tryz.prog idTry 62 F62 = true := by decide +kernel
theorem k81 : fnL Go.Proofs.Tryz.prog idTry 81 F81 = true := by decide +kernel
theorem k90 : fnL Go.Proofs.Tryz.prog idTry 90 F90 = true := by decide +kernel
theorem k104 : fnL Go.Proofs.Tryz.prog idTry 104 F104 = true := by decide +kernel
theorem k107 : fnL Go.Proofs.Tryz.prog idTry 107 F107 = true := by decide +kernel
theorem k109 : fnL Go.Proofs.Tryz.prog idTry 109 F109 = true := by decide +kernel
theorem k110 : fnL Go.Proofs.Tryz.prog idTry 110 F110 = true := by decide +kernel
theorem k111 : fnL Go.Proofs.Tryz.prog idTry 111 F111 = true := by decide +kernel
theorem k114 : fnL Go.Proofs.Tryz.prog idTry 114 F114 = true := by decide +kernel
theorem k115 : fnL Go.Proofs.Tryz.prog idTry 115 F115 = true := by decide +kernel
theorem k116 : fnL Go.Proofs.Tryz.prog idTry 116 F116 = true := by decide +kernel
theorem k117 : fnL Go.Proofs.Tryz.prog idTry 117 F117 = true := by decide +kernel
theorem k118 : fnL Go.Proofs.Tryz.prog idTry 118 F118 = true := by decide +kernel
theorem k119 : fnL Go.Proofs.Tryz.prog idTry 119 F119 = true := by decide +kernel
theorem k120 : fnL Go.Proofs.Tryz.prog idTry 120 F120 = true := by decide +kernel
theorem k121 : fnL Go.Proofs.Tryz.prog idTry 121 F121 = true := by decide +kernel
theorem k122 : fnL Go.Proofs.Tryz.prog idTry 122 F122 = true := by decide +kernel
theorem k123 : fnL Go.Proofs.Tryz.prog idTry 123 F123 = true := by decide +kernel
theorem k124 : fnL Go.Proofs.Tryz.prog idTry 124 F124 = true := by decide +kernel
theorem k125 : fnL Go.Proofs.Tryz.prog idTry 125 F125 = true := by decide +kernel
theorem k126 : fnL Go.Proofs.Tryz.prog idTry 126 F126 = true := by decide +kernel
theorem k127 : fnL Go.Proofs.Tryz.prog idTry 127 F127 = true := by decide +kernel
theorem k128 : fnL Go.Proofs.Tryz.prog idTry 128 F128 = true := by decide +kernel
theorem k130 : fnL Go.Proofs.Tryz.prog idTry 130 F130 = true := by decide +kernel
theorem k132 : fnL Go.Proofs.Tryz.prog idTry 132 F132 = true := by decide +kernel
theorem k134 : fnL Go.Proofs.Tryz.prog idTry 134 F134 = true := by decide +kernel
theorem k136 : fnL Go.Proofs.Tryz.prog idTry 136 F136 = true := by decide +kernel
theorem k138 : fnL Go.Proofs.Tryz.prog idTry 138 F138 = true := by decide +kernel
theorem k156 : fnL Go.Proofs.Tryz.prog idTry 156 F156 = true := by decide +kernel
theorem k157 : fnL Go.Proofs.Tryz.prog idTry 157 F157 = true := by decide +kernel
theorem k158 : fnL Go.Proofs.Tryz.prog idTry 158 F158 = true := by decide +kernel
theorem k159 : fnL Go.Proofs.Tryz.prog idTry 159 F159 = true := by decide +kernel
theorem k161 : fnL Go.Proofs.Tryz.prog idTry 161 F161 = true := by decide +kernel
theorem k163 : fnL Go.Proofs.Tryz.prog idTry 163 F163 = true := by decide +kernel
theorem k190 : fnL Go.Proofs.Tryz.prog idTry 190 F190 = true := by decide +kernel
theorem k191 : fnL Go.Proofs.Tryz.prog idTry 191 F191 = true := by decide +kernel
theorem k192 : fnL Go.Proofs.Tryz.prog idTry 192 F192 = true := by decide +kernel
theorem k193 : fnL Go.Proofs.Tryz.prog idTry 193 F193 = true := by decide +kernel
theorem k194 : fnL Go.Proofs.Tryz.prog idTry 194 F194 = true := by decide +kernel
theorem k195 : fnL Go.Proofs.Tryz.prog idTry 195 F195 = true := by decide +kernel
theorem k196 : fnL Go.Proofs.Tryz.prog idTry 196 F196 = true := by decide +kernel
theorem k197 : fnL Go.Proofs.Tryz.prog idTry 197 F197 = true := by decide +kernel
theorem k198 : fnL Go.Proofs.Tryz.prog idTry 198 F198 = true := by decide +kernel
theorem k199 : fnL Go.Proofs.Tryz.prog idTry 199 F199 = true := by decide +kernel
theorem k200 : fnL Go.Proofs.Tryz.prog idTry 200 F200 = true := by decide +kernel
theorem k201 : fnL Go.Proofs.Tryz.prog idTry 201 F201 = true := by decide +kernel
theorem k202 : fnL Go.Proofs.Tryz.prog idTry 202 F202 = true := by decide +kernel
theorem k203 : fnL Go.Proofs.Tryz.prog idTry 203 F203 = true := by decide +kernel
theorem k205 : fnL Go.Proofs.Tryz.prog idTry 205 F205 = true := by decide +kernel
theorem k206 : fnL Go.Proofs.Tryz.prog idTry 206 F206 = true := by decide +kernel
theorem k212 : fnL Go.Proofs.Tryz.prog idTry 212 F212 = true := by decide +kernel
theorem k213 : fnL Go.Proofs.Tryz.prog idTry 213 F213 = true := by decide +kernel
theorem k214 : fnL Go.Proofs.Tryz.prog idTry 214 F214 = true := by decide +kernel
theorem k215 : fnL Go.Proofs.Tryz.prog idTry 215 F215 = true := by decide +kernel
theorem k228 : fnL Go.Proofs.Tryz.prog idTry 228 F228 = true := by decide +kernel
theorem k229 : fnL Go.Proofs.Tryz.prog idTry 229 F229 = true := by decide +kernel
theorem k230 : fnL Go.Proofs.Tryz.prog idTry 230 F230 = true := by decide +kernel
theorem k231 : fnL Go.Proofs.Tryz.prog idTry 231 F231 = true := by decide +kernel
theorem k232 : fnL Go.Proofs.Tryz.prog idTry 232 F232 = true := by decide +kernel
theorem k233 : fnL Go.Proofs.Tryz.prog idTry 233 F233 = true := by decide +kernel
theorem k234 : fnL Go.Proofs.Tryz.prog idTry 234 F234 = true := by decide +kernel
theorem k235 : fnL Go.Proofs.Tryz.prog idTry 235 F235 = true := by decide +kernel
theorem k236 : fnL Go.Proofs.Tryz.prog idTry 236 F236 = true := by decide +kernel
theorem k239 : fnL Go.Proofs.Tryz.prog idTry 239 F239 = true := by decide +kernel
theorem k240 : fnL Go.Proofs.Tryz.prog idTry 240 F240 = true := by decide +kernel
theorem k241 : fnL Go.Proofs.Tryz.prog idTry 241 F241 = true := by decide +kernel
theorem k242 : fnL Go.Proofs.Tryz.prog idTry 242 F242 = true := by decide +kernel
theorem k262 : fnL Go.Proofs.Tryz.prog idTry 262 F262 = true := by decide +kernel
theorem k263 : fnL Go.Proofs.Tryz.prog idTry 263 F263 = true := by decide +kernel
theorem k264 : fnL Go.Proofs.Tryz.prog idTry 264 F264 = true := by decide +kernel
theorem k265 : fnL Go.Proofs.Tryz.prog idTry 265 F265 = true := by decide +kernel
theorem k266 : fnL Go.Proofs.Tryz.prog idTry 266 F266 = true := by decide +kernel
theorem k267 : fnL Go.Proofs.Tryz.prog idTry 267 F267 = true := by decide +kernel
theorem k268 : fnL Go.Proofs.Tryz.prog idTry 268 F268 = true := by decide +kernel
theorem k269 : fnL Go.Proofs.Tryz.prog idTry 269 F269 = true := by decide +kernel
theorem k270 : fnL Go.Proofs.Tryz.prog idTry 270 F270 = true := by decide +kernel
theorem k271 : fnL Go.Proofs.Tryz.prog idTry 271 F271 = true := by decide +kernel
theorem k272 : fnL Go.Proofs.Tryz.prog idTry 272 F272 = true := by decide +kernel
theorem k273 : fnL Go.Proofs.Tryz.prog idTry 273 F273 = true := by decide +kernel
theorem k274 : fnL Go.Proofs.Tryz.prog idTry 274 F274 = true := by decide +kernel
theorem k275 : fnL Go.Proofs.Tryz.prog idTry 275 F275 = true := by decide +kernel
theorem k276 : fnL Go.Proofs.Tryz.prog idTry 276 F276 = true := by decide +kernel
theorem k277 : fnL Go.Proofs.Tryz.prog idTry 277 F277 = true := by decide +kernel
theorem k278 : fnL Go.Proofs.Tryz.prog idTry 278 F278 = true := by decide +kernel
theorem k279 : fnL Go.Proofs.Tryz.prog idTry 279 F279 = true := by decide +kernel
theorem k280 : fnL Go.Proofs.Tryz.prog idTry 280 F280 = true := by decide +kernel
theorem k281 : fnL Go.Proofs.Tryz.prog idTry 281 F281 = true := by decide +kernel
theorem k282 : fnL Go.Proofs.Tryz.prog idTry 282 F282 = true := by decide +kernel
theorem k285 : fnL Go.Proofs.Tryz.prog idTry 285 F285 = true := by decide +kernel
theorem k298 : fnL Go.Proofs.Tryz.prog idTry 298 F298 = true := by decide +kernel
theorem k299 : fnL Go.Proofs.Tryz.prog idTry 299 F299 = true := by decide +kernel
theorem k302 : fnL Go.Proofs.Tryz.prog idTry 302 F302 = true := by decide +kernel
theorem k303 : fnL Go.Proofs.Tryz.prog idTry 303 F303 = true := by decide +kernel
theorem k304 : fnL Go.Proofs.Tryz.prog idTry 304 F304 = true := by decide +kernel
theorem k305 : fnL Go.Proofs.Tryz.prog idTry 305 F305 = true := by decide +kernel
theorem k306 : fnL Go.Proofs.Tryz.prog idTry 306 F306 = true := by decide +kernel
theorem k307 : fnL Go.Proofs.Tryz.prog idTry 307 F307 = true := by decide +kernel
theorem k308 : fnL Go.Proofs.Tryz.prog idTry 308 F308 = true := by decide +kernel
theorem k309 : fnL Go.Proofs.Tryz.prog idTry 309 F309 = true := by decide +kernel
theorem k310 : fnL Go.Proofs.Tryz.prog idTry 310 F310 = true := by decide +kernel
theorem k311 : fnL Go.Proofs.Tryz.prog idTry 311 F311 = true := by decide +kernel
theorem k318 : fnL Go.Proofs.Tryz.prog idTry 318 F318 = true := by decide +kernel
theorem k319 : fnL Go.Proofs.Tryz.prog idTry 319 F319 = true := by decide +kernel
theorem k320 : fnL Go.Proofs.Tryz.prog idTry 320 F320 = true := by decide +kernel
theorem k321 : fnL Go.Proofs.Tryz.prog idTry 321 F321 = true := by decide +kernel
end Go.Ab.S
