/- A part of the proof (an executor, and what it computes). -/
import Derived.Test.YtmnjnpgmenigiaaKA
set_option linter.all false
set_option maxHeartbeats 4000000
set_option maxRecDepth 100000
namespace Go.Ab.S
open Go Go.Ab
theorem fn_ok (f : FuncId) (F : SFn) (h : fnSA f = some F) : fnL Go.Proofs.Try.prog idTry f F = true := by
  unfold fnSA at h
  split at h
  · cases h; exact k17
  · cases h; exact k21
  · cases h; exact k24
  · cases h; exact k25
  · cases h; exact k28
  · cases h; exact k30
  · cases h; exact k31
  · cases h; exact k32
  · cases h; exact k35
  · cases h; exact k36
  · cases h; exact k38
  · cases h; exact k45
  · cases h; exact k46
  · cases h; exact k53
  · cases h; exact k62
  · cases h; exact k65
  · cases h; exact k81
  · cases h; exact k90
  · cases h; exact k104
  · cases h; exact k107
  · cases h; exact k109
  · cases h; exact k111
  · cases h; exact k114
  · cases h; exact k115
  · cases h; exact k116
  · cases h; exact k117
  · cases h; exact k118
  · cases h; exact k119
  · cases h; exact k120
  · cases h; exact k122
  · cases h; exact k123
  · cases h; exact k124
  · cases h; exact k126
  · cases h; exact k127
  · cases h; exact k128
  · cases h; exact k130
  · cases h; exact k132
  · cases h; exact k134
  · cases h; exact k136
  · cases h; exact k138
  · cases h; exact k144
  · cases h; exact k145
  · cases h; exact k156
  · cases h; exact k157
  · cases h; exact k158
  · cases h; exact k159
  · cases h; exact k161
  · cases h; exact k163
  · cases h; exact k190
  · cases h; exact k193
  · cases h; exact k194
  · cases h; exact k195
  · cases h; exact k196
  · cases h; exact k197
  · cases h; exact k198
  · cases h; exact k199
  · cases h; exact k200
  · cases h; exact k201
  · cases h; exact k202
  · cases h; exact k203
  · cases h; exact k205
  · cases h; exact k206
  · cases h; exact k212
  · cases h; exact k213
  · cases h; exact k214
  · cases h; exact k215
  · cases h; exact k228
  · cases h; exact k230
  · cases h; exact k231
  · cases h; exact k232
  · cases h; exact k233
  · cases h; exact k234
  · cases h; exact k235
  · cases h; exact k236
  · cases h; exact k239
  · cases h; exact k240
  · cases h; exact k241
  · cases h; exact k242
  · cases h; exact k262
  · cases h; exact k263
  · cases h; exact k272
  · cases h; exact k273
  · cases h; exact k274
  · cases h; exact k275
  · cases h; exact k276
  · cases h; exact k277
  · cases h; exact k278
  · cases h; exact k279
  · cases h; exact k280
  · cases h; exact k281
  · cases h; exact k282
  · cases h; exact k285
  · cases h; exact k298
  · cases h; exact k299
  · cases h; exact k305
  · cases h; exact k306
  · cases h; exact k307
  · cases h; exact k308
  · cases h; exact k309
  · cases h; exact k310
  · cases h; exact k311
  · cases h; exact k319
  · cases h; exact k320
  · cases h; exact k321
  · cases h; exact k1010
  · cases h
end Go.Ab.S
