/- HistoryPlays' walk, and how its arguments are opened. -/
import Derived.Test.YtmpkcmgdamfaaaaPlays
import Derived.Test.YtmpkcmgdamfaaaaArgs
