/- A part of the proof (an executor, and what it computes). -/
import Derived.Test.YtmnjnpgmenigiaaBd30bdba4a3
import Derived.Test.YtmnjnpgmenigiaaBe98ea500b5
import Derived.Test.YtmnjnpgmenigiaaChecked
set_option linter.all false
/- The executor's code agrees with the program. -/
namespace Go.Ab.S
open Go Go.Ab
def idTry : FuncId → FuncId
  | 1003 => 3
  | 1004 => 4
  | 1005 => 5
  | 1006 => 6
  | 1007 => 7
  | 1008 => 8
  | 1009 => 9
  | 1010 => 10
  | 17 => 11
  | 76 => 12
  | 28 => 13
  | 30 => 14
  | 26 => 15
  | 27 => 16
  | 90 => 17
  | 39 => 18
  | 51 => 19
  | 45 => 20
  | 21 => 21
  | 128 => 22
  | 46 => 23
  | 47 => 24
  | 81 => 25
  | 31 => 26
  | 87 => 27
  | 23 => 28
  | 134 => 29
  | 22 => 30
  | 29 => 31
  | 83 => 32
  | 1033 => 33
  | 95 => 34
  | 54 => 35
  | 41 => 36
  | 78 => 37
  | 80 => 38
  | 209 => 39
  | 42 => 40
  | 36 => 41
  | 65 => 42
  | 38 => 43
  | 35 => 44
  | 82 => 45
  | 117 => 46
  | 116 => 47
  | 107 => 48
  | 123 => 49
  | 136 => 50
  | 24 => 51
  | 53 => 52
  | 156 => 53
  | 157 => 54
  | 158 => 55
  | 159 => 56
  | 163 => 57
  | 113 => 58
  | 112 => 59
  | 162 => 60
  | 173 => 61
  | 174 => 62
  | 175 => 63
  | 176 => 64
  | 119 => 65
  | 129 => 66
  | 150 => 67
  | 151 => 68
  | 152 => 69
  | 153 => 70
  | 154 => 71
  | 155 => 72
  | 101 => 73
  | 237 => 74
  | 130 => 75
  | 131 => 76
  | 25 => 77
  | 126 => 78
  | 118 => 79
  | 124 => 80
  | 144 => 81
  | 145 => 82
  | 120 => 83
  | 127 => 84
  | 62 => 85
  | 32 => 86
  | 160 => 87
  | 161 => 88
  | 198 => 89
  | 109 => 90
  | 138 => 91
  | 212 => 92
  | 213 => 93
  | 214 => 94
  | 215 => 95
  | 104 => 96
  | 132 => 97
  | 122 => 98
  | 194 => 99
  | 202 => 100
  | 199 => 101
  | 204 => 102
  | 210 => 103
  | 211 => 104
  | 183 => 105
  | 283 => 106
  | 205 => 107
  | 206 => 108
  | 207 => 109
  | 114 => 110
  | 115 => 111
  | 203 => 112
  | 200 => 113
  | 201 => 114
  | 216 => 115
  | 217 => 116
  | 218 => 117
  | 190 => 118
  | 111 => 119
  | 208 => 120
  | 239 => 121
  | 240 => 122
  | 241 => 123
  | 242 => 124
  | 232 => 125
  | 233 => 126
  | 238 => 127
  | 225 => 128
  | 235 => 129
  | 236 => 130
  | 195 => 131
  | 196 => 132
  | 197 => 133
  | 234 => 134
  | 243 => 135
  | 193 => 136
  | 285 => 137
  | 280 => 138
  | 281 => 139
  | 284 => 140
  | 282 => 141
  | 231 => 142
  | 228 => 143
  | 230 => 144
  | 308 => 145
  | 309 => 146
  | 310 => 147
  | 311 => 148
  | 272 => 149
  | 273 => 150
  | 274 => 151
  | 275 => 152
  | 276 => 153
  | 277 => 154
  | 278 => 155
  | 279 => 156
  | 262 => 157
  | 263 => 158
  | 320 => 159
  | 321 => 160
  | 305 => 161
  | 298 => 162
  | 299 => 163
  | 306 => 164
  | 307 => 165
  | 319 => 166
  | 322 => 167
  | 323 => 168
  | 324 => 169
  | 325 => 170
  | 326 => 171
  | 327 => 172
  | 328 => 173
  | 329 => 174
  | 330 => 175
  | 331 => 176
  | 332 => 177
  | 333 => 178
  | 334 => 179
  | 335 => 180
  | 336 => 181
  | 149 => 182
  | 337 => 183
  | n => n + 100000
theorem k17 : fnL Go.Proofs.Try.prog idTry 17 F17 = true := by decide +kernel
theorem k21 : fnL Go.Proofs.Try.prog idTry 21 F21 = true := by decide +kernel
theorem k24 : fnL Go.Proofs.Try.prog idTry 24 F24 = true := by decide +kernel
theorem k25 : fnL Go.Proofs.Try.prog idTry 25 F25 = true := by decide +kernel
theorem k28 : fnL Go.Proofs.Try.prog idTry 28 F28 = true := by decide +kernel
theorem k30 : fnL Go.Proofs.Try.prog idTry 30 F30 = true := by decide +kernel
theorem k31 : fnL Go.Proofs.Try.prog idTry 31 F31 = true := by decide +kernel
theorem k32 : fnL Go.Proofs.Try.prog idTry 32 F32 = true := by decide +kernel
theorem k35 : fnL Go.Proofs.Try.prog idTry 35 F35 = true := by decide +kernel
theorem k36 : fnL Go.Proofs.Try.prog idTry 36 F36 = true := by decide +kernel
theorem k38 : fnL Go.Proofs.Try.prog idTry 38 F38 = true := by decide +kernel
theorem k45 : fnL Go.Proofs.Try.prog idTry 45 F45 = true := by decide +kernel
theorem k46 : fnL Go.Proofs.Try.prog idTry 46 F46 = true := by decide +kernel
theorem k53 : fnL Go.Proofs.Try.prog idTry 53 F53 = true := by decide +kernel
theorem k62 : fnL Go.Proofs.Try.prog idTry 62 F62 = true := by decide +kernel
theorem k65 : fnL Go.Proofs.Try.prog idTry 65 F65 = true := by decide +kernel
theorem k81 : fnL Go.Proofs.Try.prog idTry 81 F81 = true := by decide +kernel
theorem k90 : fnL Go.Proofs.Try.prog idTry 90 F90 = true := by decide +kernel
theorem k104 : fnL Go.Proofs.Try.prog idTry 104 F104 = true := by decide +kernel
theorem k107 : fnL Go.Proofs.Try.prog idTry 107 F107 = true := by decide +kernel
theorem k109 : fnL Go.Proofs.Try.prog idTry 109 F109 = true := by decide +kernel
theorem k111 : fnL Go.Proofs.Try.prog idTry 111 F111 = true := by decide +kernel
theorem k114 : fnL Go.Proofs.Try.prog idTry 114 F114 = true := by decide +kernel
theorem k115 : fnL Go.Proofs.Try.prog idTry 115 F115 = true := by decide +kernel
theorem k116 : fnL Go.Proofs.Try.prog idTry 116 F116 = true := by decide +kernel
theorem k117 : fnL Go.Proofs.Try.prog idTry 117 F117 = true := by decide +kernel
theorem k118 : fnL Go.Proofs.Try.prog idTry 118 F118 = true := by decide +kernel
theorem k119 : fnL Go.Proofs.Try.prog idTry 119 F119 = true := by decide +kernel
theorem k120 : fnL Go.Proofs.Try.prog idTry 120 F120 = true := by decide +kernel
theorem k122 : fnL Go.Proofs.Try.prog idTry 122 F122 = true := by decide +kernel
theorem k123 : fnL Go.Proofs.Try.prog idTry 123 F123 = true := by decide +kernel
theorem k124 : fnL Go.Proofs.Try.prog idTry 124 F124 = true := by decide +kernel
theorem k126 : fnL Go.Proofs.Try.prog idTry 126 F126 = true := by decide +kernel
theorem k127 : fnL Go.Proofs.Try.prog idTry 127 F127 = true := by decide +kernel
theorem k128 : fnL Go.Proofs.Try.prog idTry 128 F128 = true := by decide +kernel
theorem k130 : fnL Go.Proofs.Try.prog idTry 130 F130 = true := by decide +kernel
theorem k132 : fnL Go.Proofs.Try.prog idTry 132 F132 = true := by decide +kernel
theorem k134 : fnL Go.Proofs.Try.prog idTry 134 F134 = true := by decide +kernel
theorem k136 : fnL Go.Proofs.Try.prog idTry 136 F136 = true := by decide +kernel
theorem k138 : fnL Go.Proofs.Try.prog idTry 138 F138 = true := by decide +kernel
theorem k144 : fnL Go.Proofs.Try.prog idTry 144 F144 = true := by decide +kernel
theorem k145 : fnL Go.Proofs.Try.prog idTry 145 F145 = true := by decide +kernel
theorem k156 : fnL Go.Proofs.Try.prog idTry 156 F156 = true := by decide +kernel
theorem k157 : fnL Go.Proofs.Try.prog idTry 157 F157 = true := by decide +kernel
theorem k158 : fnL Go.Proofs.Try.prog idTry 158 F158 = true := by decide +kernel
theorem k159 : fnL Go.Proofs.Try.prog idTry 159 F159 = true := by decide +kernel
theorem k161 : fnL Go.Proofs.Try.prog idTry 161 F161 = true := by decide +kernel
theorem k163 : fnL Go.Proofs.Try.prog idTry 163 F163 = true := by decide +kernel
theorem k190 : fnL Go.Proofs.Try.prog idTry 190 F190 = true := by decide +kernel
theorem k193 : fnL Go.Proofs.Try.prog idTry 193 F193 = true := by decide +kernel
theorem k194 : fnL Go.Proofs.Try.prog idTry 194 F194 = true := by decide +kernel
theorem k195 : fnL Go.Proofs.Try.prog idTry 195 F195 = true := by decide +kernel
theorem k196 : fnL Go.Proofs.Try.prog idTry 196 F196 = true := by decide +kernel
theorem k197 : fnL Go.Proofs.Try.prog idTry 197 F197 = true := by decide +kernel
theorem k198 : fnL Go.Proofs.Try.prog idTry 198 F198 = true := by decide +kernel
theorem k199 : fnL Go.Proofs.Try.prog idTry 199 F199 = true := by decide +kernel
theorem k200 : fnL Go.Proofs.Try.prog idTry 200 F200 = true := by decide +kernel
theorem k201 : fnL Go.Proofs.Try.prog idTry 201 F201 = true := by decide +kernel
theorem k202 : fnL Go.Proofs.Try.prog idTry 202 F202 = true := by decide +kernel
theorem k203 : fnL Go.Proofs.Try.prog idTry 203 F203 = true := by decide +kernel
theorem k205 : fnL Go.Proofs.Try.prog idTry 205 F205 = true := by decide +kernel
theorem k206 : fnL Go.Proofs.Try.prog idTry 206 F206 = true := by decide +kernel
theorem k212 : fnL Go.Proofs.Try.prog idTry 212 F212 = true := by decide +kernel
theorem k213 : fnL Go.Proofs.Try.prog idTry 213 F213 = true := by decide +kernel
theorem k214 : fnL Go.Proofs.Try.prog idTry 214 F214 = true := by decide +kernel
theorem k215 : fnL Go.Proofs.Try.prog idTry 215 F215 = true := by decide +kernel
theorem k228 : fnL Go.Proofs.Try.prog idTry 228 F228 = true := by decide +kernel
theorem k230 : fnL Go.Proofs.Try.prog idTry 230 F230 = true := by decide +kernel
theorem k231 : fnL Go.Proofs.Try.prog idTry 231 F231 = true := by decide +kernel
theorem k232 : fnL Go.Proofs.Try.prog idTry 232 F232 = true := by decide +kernel
theorem k233 : fnL Go.Proofs.Try.prog idTry 233 F233 = true := by decide +kernel
theorem k234 : fnL Go.Proofs.Try.prog idTry 234 F234 = true := by decide +kernel
theorem k235 : fnL Go.Proofs.Try.prog idTry 235 F235 = true := by decide +kernel
theorem k236 : fnL Go.Proofs.Try.prog idTry 236 F236 = true := by decide +kernel
theorem k239 : fnL Go.Proofs.Try.prog idTry 239 F239 = true := by decide +kernel
theorem k240 : fnL Go.Proofs.Try.prog idTry 240 F240 = true := by decide +kernel
theorem k241 : fnL Go.Proofs.Try.prog idTry 241 F241 = true := by decide +kernel
theorem k242 : fnL Go.Proofs.Try.prog idTry 242 F242 = true := by decide +kernel
theorem k262 : fnL Go.Proofs.Try.prog idTry 262 F262 = true := by decide +kernel
theorem k263 : fnL Go.Proofs.Try.prog idTry 263 F263 = true := by decide +kernel
theorem k272 : fnL Go.Proofs.Try.prog idTry 272 F272 = true := by decide +kernel
theorem k273 : fnL Go.Proofs.Try.prog idTry 273 F273 = true := by decide +kernel
theorem k274 : fnL Go.Proofs.Try.prog idTry 274 F274 = true := by decide +kernel
theorem k275 : fnL Go.Proofs.Try.prog idTry 275 F275 = true := by decide +kernel
theorem k276 : fnL Go.Proofs.Try.prog idTry 276 F276 = true := by decide +kernel
theorem k277 : fnL Go.Proofs.Try.prog idTry 277 F277 = true := by decide +kernel
theorem k278 : fnL Go.Proofs.Try.prog idTry 278 F278 = true := by decide +kernel
theorem k279 : fnL Go.Proofs.Try.prog idTry 279 F279 = true := by decide +kernel
theorem k280 : fnL Go.Proofs.Try.prog idTry 280 F280 = true := by decide +kernel
theorem k281 : fnL Go.Proofs.Try.prog idTry 281 F281 = true := by decide +kernel
theorem k282 : fnL Go.Proofs.Try.prog idTry 282 F282 = true := by decide +kernel
theorem k285 : fnL Go.Proofs.Try.prog idTry 285 F285 = true := by decide +kernel
theorem k298 : fnL Go.Proofs.Try.prog idTry 298 F298 = true := by decide +kernel
theorem k299 : fnL Go.Proofs.Try.prog idTry 299 F299 = true := by decide +kernel
theorem k305 : fnL Go.Proofs.Try.prog idTry 305 F305 = true := by decide +kernel
theorem k306 : fnL Go.Proofs.Try.prog idTry 306 F306 = true := by decide +kernel
theorem k307 : fnL Go.Proofs.Try.prog idTry 307 F307 = true := by decide +kernel
theorem k308 : fnL Go.Proofs.Try.prog idTry 308 F308 = true := by decide +kernel
theorem k309 : fnL Go.Proofs.Try.prog idTry 309 F309 = true := by decide +kernel
theorem k310 : fnL Go.Proofs.Try.prog idTry 310 F310 = true := by decide +kernel
theorem k311 : fnL Go.Proofs.Try.prog idTry 311 F311 = true := by decide +kernel
theorem k319 : fnL Go.Proofs.Try.prog idTry 319 F319 = true := by decide +kernel
theorem k320 : fnL Go.Proofs.Try.prog idTry 320 F320 = true := by decide +kernel
theorem k321 : fnL Go.Proofs.Try.prog idTry 321 F321 = true := by decide +kernel
theorem k1010 : fnL Go.Proofs.Try.prog idTry 1010 F1010 = true := by decide +kernel
end Go.Ab.S
